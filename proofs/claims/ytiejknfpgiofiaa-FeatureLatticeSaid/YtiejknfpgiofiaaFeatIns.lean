/-
  The contracts of feature.insert and of the reference's insert: a feature is inserted into an ascending list of the call's own. Condition: the list has at most 1099511627776 elements.
-/
import Derived.Test.YtiejknfpgiofiaaFeatParse
import Derived.Test.YtiejknfpgiofiaaAppend
import Derived.Laws.CopyOwn
import Derived.Deep.RegionLaw
namespace Go.Proofs.Ytiejknfpgiofiaa
open Go.RowKit Utf Feat
attribute [local go_sem] byte_mk ByteArray.extract_mk

/-- Where a feature stands in an ascending list. -/
structure Place (f : Bs) (l : List Bs) (i : Nat) : Prop where
  le : i ≤ l.length
  lo : ∀ j (h : j < l.length), j < i → lt l[j] f = true
  hi : ∀ j (h : j < l.length), i ≤ j → lt l[j] f = false

theorem ins_place : ∀ (l : List Bs) (f : Bs) (i : Nat), Place f l i → ins f l = if l[i]? = some f then l else l.take i ++ f :: l.drop i
  | [], f, i, h => by
    have : i = 0 := by have := h.le; simpa using this
    subst this; rfl
  | x :: r, f, 0, h => by
    have h0 := h.hi 0 (by simp) (by simp)
    simp only [List.getElem_cons_zero] at h0
    unfold ins
    rw [h0]
    simp
  | x :: r, f, i + 1, h => by
    have h0 := h.lo 0 (by simp) (by omega)
    simp only [List.getElem_cons_zero] at h0
    have ih := ins_place r f i ⟨by have := h.le; simpa using this, fun j hj hji => h.lo (j + 1) (by simp; omega) (by omega), fun j hj hji => h.hi (j + 1) (by simp; omega) (by omega)⟩
    unfold ins
    rw [h0, ih]
    simp only [if_true, List.getElem?_cons_succ, List.take_succ_cons, List.drop_succ_cons, List.cons_append]
    split <;> rfl

theorem place_of (l : List Bs) (f : Bs) (i : Nat) (ha : Asc l) (hi : i ≤ l.length) (h : ∀ j (hj : j < l.length), i ≤ j → lt l[j] f = false) (k : ∀ (h0 : 0 < i), lt (l[i - 1]'(by omega)) f = true) : Place f l i := by
  refine ⟨hi, fun j hj hji => ?_, h⟩
  by_cases e : j = i - 1
  · subst e; exact k (by omega)
  · unfold Asc at ha
    rw [List.pairwise_iff_getElem] at ha
    exact lt_trans (ha j (i - 1) hj (by omega) (by omega)) (k (by omega))

theorem le_of_not_lt {a b : Bs} (h : (Op.bytesLess a b || a == b) = true) : lt b a = false := by
  simp only [Bool.or_eq_true, beq_iff_eq] at h
  rcases h with h | rfl
  · exact lt_asymm h
  · exact lt_irrefl _
theorem lt_of_not_le {a b : Bs} (h : (Op.bytesLess a b || a == b) = false) : lt b a = true := by
  simp only [Bool.or_eq_false_iff, beq_eq_false_iff_ne] at h
  rcases lt_tri b a with k | k | k
  · exact k
  · exact absurd k.symm h.2
  · unfold lt at k; rw [h.1] at k; cases k

/-- What the shift and the store leave. -/
theorem shifted (cur : List Value) (l : List Bs) (f : Bs) (i : Nat) (hi : i ≤ l.length) (hc : cur.take (l.length + 1) = strs (l ++ [[]])) :
    ((splice cur (i + 1) (strs (l.drop i))).set i (str f)).take (l.length + 1) = strs (l.take i ++ f :: l.drop i) := by
  have hlen : l.length + 1 ≤ cur.length := by
    have := congrArg List.length hc
    simp [strs] at this; omega
  have h1 : cur.take i = strs (l.take i) := by
    have : (cur.take (l.length + 1)).take i = cur.take i := by rw [List.take_take]; congr 1; omega
    rw [← this, hc]; unfold strs
    rw [← List.map_take, List.take_append_of_le_length hi]
  have h2 : cur.take (i + 1) = strs (l.take i) ++ [cur[i]'(by omega)] := by rw [List.take_succ_eq_append_getElem (by omega), h1]
  have h3 : (strs (l.take i)).length = i := by simp [strs]; omega
  unfold splice
  rw [h2, List.append_assoc, List.set_append_right _ _ (by omega), h3, Nat.sub_self]
  simp only [List.singleton_append, List.set_cons_zero]
  rw [show strs (l.take i) ++ str f :: (strs (l.drop i) ++ cur.drop (i + 1 + (strs (l.drop i)).length)) = strs (l.take i ++ f :: l.drop i) ++ cur.drop (i + 1 + (strs (l.drop i)).length) by simp [strs]]
  refine List.take_left' ?_
  simp [strs]; omega

theorem length_ins_ge (f : Bs) (l : List Bs) : (ins f l).length ≤ l.length + 1 := by
  induction l with
  | nil => simp [ins]
  | cons x r ih => unfold ins; split <;> (try split) <;> simp <;> omega

theorem size_string : (Try.prog.info? 9).map (·.size) = some 1 := by kernel_rfl

/-- The list in memory of its own. -/
def Inserted (base : Nat) (l : List Bs) (w : World) (e : Ending) (w' : World) : Prop :=
  ∃ v, e = .returned v ∧ w'.ownsRow base 9 1 v l.length (strs l) ∧ Below base w w'

/-- The row behind the store. -/
theorem own_after {w : World} {base g cap i : Nat} {cur : List Value} {l : List Bs} {f : Bs} (hb : base ≤ g) (hB : Blk w g 9 (splice cur (i + 1) (strs (l.drop i))).toArray)
    (hi : i ≤ l.length) (hk : i + 1 + (strs (l.drop i)).length ≤ cur.length) (ht : cur.take (l.length + 1) = strs (l ++ [[]])) (hs : cur.length = cap * 1 ∧ cap ≤ maxLen ∧ l.length + 1 ≤ cap) :
    (∃ old, w.cell? ⟨g, i, none⟩ = some old) ∧ w.frozen? ⟨g, i, none⟩ = false ∧
    (w.setCell ⟨g, i, none⟩ (str f)).ownsRow base 9 1 (.slice (some ⟨g, 0, none⟩) (l.length + 1) cap) (l.take i ++ f :: l.drop i).length (strs (l.take i ++ f :: l.drop i)) := by
  have hl := length_splice cur (i + 1) (strs (l.drop i)) hk
  have hln : (l.take i ++ f :: l.drop i).length = l.length + 1 := by simp; omega
  refine ⟨⟨_, (hB.cell i).trans (by rw [List.getElem?_toArray]; exact List.getElem?_eq_getElem (by omega))⟩, hB.free i, ?_⟩
  refine ⟨by rw [strs_len]; omega, .inr ⟨g, cap, _, by rw [hln], hb, hB.set_ i (str f), by omega, hs.2.1, by simp [hl, hs.1], ?_⟩⟩
  rw [hln, Nat.mul_one, ← shifted cur l f i hi ht]
  simp

set_option maxRecDepth 100000 in
set_option maxHeartbeats 2000000 in
theorem insert_any (base : Nat) (l : List Bs) (f : Bs) (v : Value) (w : World) (ha : Asc l) (hown : w.ownsRow base 9 1 v l.length (strs l)) (hb : base ≤ w.heap.size) (hlen : l.length ≤ 1099511627776) :
    Calls Try.prog 29 #[v, str f] w (Inserted base (ins f l) w) := by
  obtain ⟨i0, hi0, hz0, hz1, hz2⟩ := info_parts info_string
  rcases hown.2 with ⟨rfl, hn⟩ | ⟨g, cap, cur, rfl, hbg, hblk, hcap, _⟩
  · have hnil : l = [] := List.eq_nil_of_length_eq_zero hn
    subst hnil
    go_enter Try.func29, Try.ntmps29
    go_wp2
    go_loop [5] (fun iv => iv = .int .i64 0) (fun _ => 0)
    case atStart => rfl
    case round =>
      obtain rfl := hrel
      have hoa := hown.alloc (.cells #[str []] 9)
      have hba := (Below.refl base w).alloc hb (.cells #[str []] 9)
      go_wp2_with (at_builtin; refine wpList_append_own_at _ rfl (.tmp 34) (.tmp 35) _ rfl base 9 i0 _ 1 16 Try.underlying23 hi0 hz0 hz1 hz2 rfl (by decide) _ _ _ rfl hoa ⟨w.heap.size, 0, none⟩ 1 1 [str []] rfl rfl ?nnc1 ?nnc2 ?nnc3 ?nnc4 (Nat.le_trans hb hba.size) ?_)
      try (case nnc1 => exact news_new _ _ [_])
      try (case nnc2 => first | rfl | (intro u hu; simp at hu; subst hu; rfl))
      try (case nnc3 => simp [maxLen])
      try (case nnc4 => omega)
      intro v2 w2 own2 gr2 _ _
      have hb2 : Below base w w2 := hba.grown gr2 (Nat.le_trans hb hba.size) (fun k hk => (hown.lt k hk).1)
      clear hoa hba gr2 hown hn
      rcases own2.2 with ⟨_, h⟩ | ⟨g2, cap2, cur2, rfl, hbg2, hblk2, hcap2, hm2, hsz2, htk2⟩
      · simp at h
      · have hcp : 1 ≤ cap2 := by simpa using hcap2
        have hs1 := fun W => slice_from (P := Try.prog) 23 9 i0 1 Try.underlying23 hi0 hz1 (some ⟨g2, 0, none⟩) 1 cap2 1 (by omega) W
        have hs2 := fun W => slice_from (P := Try.prog) 23 9 i0 1 Try.underlying23 hi0 hz1 (some ⟨g2, 0, none⟩) 1 cap2 0 (by omega) W
        have eA : cutAt (some ⟨g2, 0, none⟩) 0 cap2 1 = some ⟨g2, 0, none⟩ := by rw [cutAt_in (by omega)]
        obtain ⟨A1, hA1⟩ : ∃ A1, cutAt (some ⟨g2, 0, none⟩) 1 cap2 1 = A1 := ⟨_, rfl⟩
        simp only [hA1, Int.cast_ofNat_Int, Nat.sub_self] at hs1
        simp only [eA, Int.cast_ofNat_Int, Nat.sub_zero] at hs2
        have hwr : IntKind.i64.wrap 1 = 1 := IntWalk.i64_in _ (by omega)
        have k4 : Hid (w2.heap[g2]? = some (.cells cur2.toList.toArray 9 (0, 0))) := by show _ = _; rw [hblk2]
        have k5 : Hid (cur2.toList.take (([] : List Bs).length + 1) = strs ([] ++ [[]])) := by show _ = _; simp at htk2; simpa [strs] using htk2
        have k6 : Hid (cur2.size = cap2 * 1 ∧ cap2 ≤ maxLen ∧ 1 ≤ cap2) := ⟨hsz2, hm2, hcp⟩
        have hcl : cur2.toList.length = cur2.size := by simp
        have k3 : Hid (0 + 1 ≤ cur2.toList.length) := by show _ ≤ _; omega
        clear eA hA1 hblk2 htk2 own2 hsz2 hm2 hcap2 hcl
        go_wp2
        go_region_law ((refine step_copy_splice rfl (.tmp 40) (.tmp 43) _ _ rfl 9 Try.underlying23 size_string A1 (some ⟨g2, 0, none⟩) 0 (cap2 - 1) 1 cap2 (by simp [Act.eval, Act.put]) (by simp [Act.eval, Act.put]) g2 1 cur2.toList 9 k4.out [] rfl (fun h => absurd h (by simp)) k3.out (by simp) base w hb2.drew hbg2 ?_; intro w4 hg4 hb4))
        obtain ⟨⟨old, c4⟩, f4, own4⟩ := own_after (l := []) (f := f) (i := 0) hbg2 hg4.out (Nat.le_refl _) k3.out k5.out ⟨by rw [← k6.out.1]; simp, k6.out.2⟩
        go_wp2
        go_ret
        exact ⟨_, rfl, own4, hb4.setCell (p := ⟨g2, 0, none⟩) hbg2 _⟩
  · go_enter Try.func29, Try.ntmps29
    go_wp2
    go_loop [5] (fun iv => ∃ i : Nat, i ≤ l.length ∧ iv = .int .i64 i ∧ Hid (∀ j (hj : j < l.length), i ≤ j → lt l[j] f = false)) (fun iv => (intOf iv).toNat)
    case atStart => exact ⟨l.length, Nat.le_refl _, rfl, fun j hj h => by omega⟩
    case round =>
      obtain ⟨i, hi, rfl, hhi⟩ := hrel
      by_cases h0 : 0 < i
      · have hk : i - 1 < l.length := by omega
        have c1 : w.cell? ⟨g, i - 1, none⟩ = some (str l[i - 1]) := own_str hown _ hk
        have hki : (i : Int) - 1 = ((i - 1 : Nat) : Int) := by omega
        cases hle : (Op.bytesLess f l[i - 1] || f == l[i - 1]) with
        | true =>
          go_wp2
          go_round
          case rel =>
            refine ⟨i - 1, by omega, by go_num, fun j hj hji => ?_⟩
            by_cases e : j = i - 1
            · subst e; exact le_of_not_lt hle
            · exact hhi.out j hj (by omega)
          case measure => simp [intOf]; omega
        | false =>
          have hp : Place f l i := place_of l f i ha hi hhi.out (fun _ => lt_of_not_le hle)
          have HI := Lib.hid (ins_place l f i hp)
          by_cases hil : i < l.length
          · have c2 : w.cell? ⟨g, i, none⟩ = some (str l[i]) := own_str hown i hil
            have hget : l[i]? = some l[i] := List.getElem?_eq_getElem hil
            have HG := Lib.hid hget
            clear hget
            cases heq : (l[i] == f) with
            | true =>
              go_wp2
              go_ret
              refine ⟨_, rfl, ?_, Below.refl _ _⟩
              rw [HI.out, HG.out, if_pos (by rw [eq_of_beq heq])]
              exact hown
            | false =>
              have HF : Hid (ins f l = l.take i ++ f :: l.drop i) := by show _ = _; rw [HI.out, HG.out, if_neg (by intro h; simp at h; simp [h] at heq)]
              have hoa := hown.alloc (.cells #[str []] 9)
              have hba := (Below.refl base w).alloc hb (.cells #[str []] 9)
              go_wp2_with (at_builtin; refine wpList_append_own_at _ rfl (.tmp 34) (.tmp 35) _ rfl base 9 i0 _ 1 16 Try.underlying23 hi0 hz0 hz1 hz2 rfl (by decide) _ _ _ rfl hoa ⟨w.heap.size, 0, none⟩ 1 1 [str []] rfl rfl ?pac1 ?pac2 ?pac3 ?pac4 (Nat.le_trans hb hba.size) ?_)
              try (case pac1 => exact news_new _ _ [_])
              try (case pac2 => first | rfl | (intro u hu; simp at hu; subst hu; rfl))
              try (case pac3 => simp [maxLen]; omega)
              try (case pac4 => omega)
              intro v2 w2 own2 gr2 _ _
              have hb2 : Below base w w2 := hba.grown gr2 (Nat.le_trans hb hba.size) (fun k hk => (hown.lt k hk).1)
              rw [← strs_snoc] at own2
              clear hoa hba gr2
              rcases own2.2 with ⟨_, h⟩ | ⟨g2, cap2, cur2, rfl, hbg2, hblk2, hcap2, hm2, hsz2, htk2⟩
              · omega
              · have hs1 := fun W => slice_from (P := Try.prog) 23 9 i0 1 Try.underlying23 hi0 hz1 (some ⟨g2, 0, none⟩) (l.length + 1) cap2 (i + 1) (by omega) W
                have hs2 := fun W => slice_from (P := Try.prog) 23 9 i0 1 Try.underlying23 hi0 hz1 (some ⟨g2, 0, none⟩) (l.length + 1) cap2 i (by omega) W
                have ei : ((i + 1 : Nat) : Int) = (i : Int) + 1 := by omega
                have eA : cutAt (some ⟨g2, 0, none⟩) i cap2 1 = some ⟨g2, i, none⟩ := by rw [cutAt_in (by omega)]; simp
                obtain ⟨A1, hA1⟩ : ∃ A1, cutAt (some ⟨g2, 0, none⟩) (i + 1) cap2 1 = A1 := ⟨_, rfl⟩
                simp only [ei, hA1] at hs1
                simp only [eA] at hs2
                have hwr : IntKind.i64.wrap ((i : Int) + 1) = (i : Int) + 1 := IntWalk.i64_in _ (by omega)
                have k1 : Hid ((strs (l.drop i)).length = Nat.min (l.length + 1 - i) (l.length + 1 - (i + 1))) := by show (strs (l.drop i)).length = min (l.length + 1 - i) (l.length + 1 - (i + 1)); rw [strs_len, List.length_drop]; omega
                have k2 : Hid (0 < (strs (l.drop i)).length → A1 = some ⟨g2, i + 1, none⟩ ∧ ∃ ad, (some (⟨g2, i, none⟩ : Addr)) = some ad ∧ ∀ j v, (strs (l.drop i))[j]? = some v → w2.cell? (ad.add j) = some v) := by
                  intro hp
                  rw [strs_len, List.length_drop] at hp
                  refine ⟨by rw [← hA1, cutAt_in (by omega)]; simp, _, rfl, fun j v hj => ?_⟩
                  have ea : (⟨g2, i, none⟩ : Addr).add j = ⟨g2, i + j, none⟩ := by unfold Addr.add; split <;> simp_all
                  have hjl : j < l.length - i := by
                    have := (List.getElem?_eq_some_iff.1 hj).1; rw [strs_len, List.length_drop] at this; exact this
                  rw [ea, own_str own2 (i + j) (by simp; omega), ← hj]
                  rw [List.getElem_append_left (by omega)]
                  simp [strs, List.getElem?_drop, List.getElem?_eq_getElem (show i + j < l.length by omega)]
                have k3 : Hid (i + 1 + (strs (l.drop i)).length ≤ cur2.toList.length) := by
                  show _ ≤ _
                  have hcl : cur2.toList.length = cur2.size := by simp
                  rw [strs_len, List.length_drop]; omega
                have k4 : Hid (w2.heap[g2]? = some (.cells cur2.toList.toArray 9 (0, 0))) := by show _ = _; rw [hblk2]
                have k5 : Hid (cur2.toList.take (l.length + 1) = strs (l ++ [[]])) := by show _ = _; rw [← htk2]; simp
                have k6 : Hid (cur2.size = cap2 * 1 ∧ cap2 ≤ maxLen ∧ l.length + 1 ≤ cap2) := ⟨hsz2, hm2, by omega⟩
                clear ei eA hA1 hblk2 htk2 own2 hsz2 hm2
                go_wp2
                go_region_law ((refine step_copy_splice rfl (.tmp 40) (.tmp 43) _ _ rfl 9 Try.underlying23 size_string A1 (some ⟨g2, i, none⟩) (l.length + 1 - (i + 1)) (cap2 - (i + 1)) (l.length + 1 - i) (cap2 - i) (by simp [Act.eval, Act.put]) (by simp [Act.eval, Act.put]) g2 (i + 1) cur2.toList 9 k4.out (strs (l.drop i)) k1.out k2.out k3.out (strs_one _) base w hb2.drew hbg2 ?_; intro w4 hg4 hb4))
                obtain ⟨⟨old, c4⟩, f4, own4⟩ := own_after (f := f) hbg2 hg4.out hi k3.out k5.out ⟨by rw [← k6.out.1]; simp, k6.out.2⟩
                go_wp2
                go_ret
                rw [HF.out]
                exact ⟨_, rfl, own4, hb4.setCell (p := ⟨g2, i, none⟩) hbg2 _⟩
          · have HF : Hid (ins f l = l.take i ++ f :: l.drop i) := by show _ = _; rw [HI.out, if_neg (by rw [List.getElem?_eq_none (by omega)]; simp)]
            have hoa := hown.alloc (.cells #[str []] 9)
            have hba := (Below.refl base w).alloc hb (.cells #[str []] 9)
            go_wp2_with (at_builtin; refine wpList_append_own_at _ rfl (.tmp 34) (.tmp 35) _ rfl base 9 i0 _ 1 16 Try.underlying23 hi0 hz0 hz1 hz2 rfl (by decide) _ _ _ rfl hoa ⟨w.heap.size, 0, none⟩ 1 1 [str []] rfl rfl ?pbc1 ?pbc2 ?pbc3 ?pbc4 (Nat.le_trans hb hba.size) ?_)
            try (case pbc1 => exact news_new _ _ [_])
            try (case pbc2 => first | rfl | (intro u hu; simp at hu; subst hu; rfl))
            try (case pbc3 => simp [maxLen]; omega)
            try (case pbc4 => omega)
            intro v2 w2 own2 gr2 _ _
            have hb2 : Below base w w2 := hba.grown gr2 (Nat.le_trans hb hba.size) (fun k hk => (hown.lt k hk).1)
            rw [← strs_snoc] at own2
            clear hoa hba gr2
            rcases own2.2 with ⟨_, h⟩ | ⟨g2, cap2, cur2, rfl, hbg2, hblk2, hcap2, hm2, hsz2, htk2⟩
            · omega
            · have hs1 := fun W => slice_from (P := Try.prog) 23 9 i0 1 Try.underlying23 hi0 hz1 (some ⟨g2, 0, none⟩) (l.length + 1) cap2 (i + 1) (by omega) W
              have hs2 := fun W => slice_from (P := Try.prog) 23 9 i0 1 Try.underlying23 hi0 hz1 (some ⟨g2, 0, none⟩) (l.length + 1) cap2 i (by omega) W
              have ei : ((i + 1 : Nat) : Int) = (i : Int) + 1 := by omega
              have eA : cutAt (some ⟨g2, 0, none⟩) i cap2 1 = some ⟨g2, i, none⟩ := by rw [cutAt_in (by omega)]; simp
              obtain ⟨A1, hA1⟩ : ∃ A1, cutAt (some ⟨g2, 0, none⟩) (i + 1) cap2 1 = A1 := ⟨_, rfl⟩
              simp only [ei, hA1] at hs1
              simp only [eA] at hs2
              have hwr : IntKind.i64.wrap ((i : Int) + 1) = (i : Int) + 1 := IntWalk.i64_in _ (by omega)
              have k1 : Hid ((strs (l.drop i)).length = Nat.min (l.length + 1 - i) (l.length + 1 - (i + 1))) := by show (strs (l.drop i)).length = min (l.length + 1 - i) (l.length + 1 - (i + 1)); rw [strs_len, List.length_drop]; omega
              have k2 : Hid (0 < (strs (l.drop i)).length → A1 = some ⟨g2, i + 1, none⟩ ∧ ∃ ad, (some (⟨g2, i, none⟩ : Addr)) = some ad ∧ ∀ j v, (strs (l.drop i))[j]? = some v → w2.cell? (ad.add j) = some v) := by
                intro hp
                rw [strs_len, List.length_drop] at hp
                refine ⟨by rw [← hA1, cutAt_in (by omega)]; simp, _, rfl, fun j v hj => ?_⟩
                have ea : (⟨g2, i, none⟩ : Addr).add j = ⟨g2, i + j, none⟩ := by unfold Addr.add; split <;> simp_all
                have hjl : j < l.length - i := by
                  have := (List.getElem?_eq_some_iff.1 hj).1; rw [strs_len, List.length_drop] at this; exact this
                rw [ea, own_str own2 (i + j) (by simp; omega), ← hj]
                rw [List.getElem_append_left (by omega)]
                simp [strs, List.getElem?_drop, List.getElem?_eq_getElem (show i + j < l.length by omega)]
              have k3 : Hid (i + 1 + (strs (l.drop i)).length ≤ cur2.toList.length) := by
                show _ ≤ _
                have hcl : cur2.toList.length = cur2.size := by simp
                rw [strs_len, List.length_drop]; omega
              have k4 : Hid (w2.heap[g2]? = some (.cells cur2.toList.toArray 9 (0, 0))) := by show _ = _; rw [hblk2]
              have k5 : Hid (cur2.toList.take (l.length + 1) = strs (l ++ [[]])) := by show _ = _; rw [← htk2]; simp
              have k6 : Hid (cur2.size = cap2 * 1 ∧ cap2 ≤ maxLen ∧ l.length + 1 ≤ cap2) := ⟨hsz2, hm2, by omega⟩
              clear ei eA hA1 hblk2 htk2 own2 hsz2 hm2
              go_wp2
              go_region_law ((refine step_copy_splice rfl (.tmp 40) (.tmp 43) _ _ rfl 9 Try.underlying23 size_string A1 (some ⟨g2, i, none⟩) (l.length + 1 - (i + 1)) (cap2 - (i + 1)) (l.length + 1 - i) (cap2 - i) (by simp [Act.eval, Act.put]) (by simp [Act.eval, Act.put]) g2 (i + 1) cur2.toList 9 k4.out (strs (l.drop i)) k1.out k2.out k3.out (strs_one _) base w hb2.drew hbg2 ?_; intro w4 hg4 hb4))
              obtain ⟨⟨old, c4⟩, f4, own4⟩ := own_after (f := f) hbg2 hg4.out hi k3.out k5.out ⟨by rw [← k6.out.1]; simp, k6.out.2⟩
              go_wp2
              go_ret
              rw [HF.out]
              exact ⟨_, rfl, own4, hb4.setCell (p := ⟨g2, i, none⟩) hbg2 _⟩
      · skip
        have hp : Place f l i := place_of l f i ha hi hhi.out (fun h => absurd h h0)
        have HI := Lib.hid (ins_place l f i hp)
        by_cases hil : i < l.length
        · have c2 : w.cell? ⟨g, i, none⟩ = some (str l[i]) := own_str hown i hil
          have hget : l[i]? = some l[i] := List.getElem?_eq_getElem hil
          have HG := Lib.hid hget
          clear hget
          cases heq : (l[i] == f) with
          | true =>
            go_wp2
            go_ret
            refine ⟨_, rfl, ?_, Below.refl _ _⟩
            rw [HI.out, HG.out, if_pos (by rw [eq_of_beq heq])]
            exact hown
          | false =>
            have HF : Hid (ins f l = l.take i ++ f :: l.drop i) := by show _ = _; rw [HI.out, HG.out, if_neg (by intro h; simp at h; simp [h] at heq)]
            have hoa := hown.alloc (.cells #[str []] 9)
            have hba := (Below.refl base w).alloc hb (.cells #[str []] 9)
            go_wp2_with (at_builtin; refine wpList_append_own_at _ rfl (.tmp 34) (.tmp 35) _ rfl base 9 i0 _ 1 16 Try.underlying23 hi0 hz0 hz1 hz2 rfl (by decide) _ _ _ rfl hoa ⟨w.heap.size, 0, none⟩ 1 1 [str []] rfl rfl ?qac1 ?qac2 ?qac3 ?qac4 (Nat.le_trans hb hba.size) ?_)
            try (case qac1 => exact news_new _ _ [_])
            try (case qac2 => first | rfl | (intro u hu; simp at hu; subst hu; rfl))
            try (case qac3 => simp [maxLen]; omega)
            try (case qac4 => omega)
            intro v2 w2 own2 gr2 _ _
            have hb2 : Below base w w2 := hba.grown gr2 (Nat.le_trans hb hba.size) (fun k hk => (hown.lt k hk).1)
            rw [← strs_snoc] at own2
            clear hoa hba gr2
            rcases own2.2 with ⟨_, h⟩ | ⟨g2, cap2, cur2, rfl, hbg2, hblk2, hcap2, hm2, hsz2, htk2⟩
            · omega
            · have hs1 := fun W => slice_from (P := Try.prog) 23 9 i0 1 Try.underlying23 hi0 hz1 (some ⟨g2, 0, none⟩) (l.length + 1) cap2 (i + 1) (by omega) W
              have hs2 := fun W => slice_from (P := Try.prog) 23 9 i0 1 Try.underlying23 hi0 hz1 (some ⟨g2, 0, none⟩) (l.length + 1) cap2 i (by omega) W
              have ei : ((i + 1 : Nat) : Int) = (i : Int) + 1 := by omega
              have eA : cutAt (some ⟨g2, 0, none⟩) i cap2 1 = some ⟨g2, i, none⟩ := by rw [cutAt_in (by omega)]; simp
              obtain ⟨A1, hA1⟩ : ∃ A1, cutAt (some ⟨g2, 0, none⟩) (i + 1) cap2 1 = A1 := ⟨_, rfl⟩
              simp only [ei, hA1] at hs1
              simp only [eA] at hs2
              have hwr : IntKind.i64.wrap ((i : Int) + 1) = (i : Int) + 1 := IntWalk.i64_in _ (by omega)
              have k1 : Hid ((strs (l.drop i)).length = Nat.min (l.length + 1 - i) (l.length + 1 - (i + 1))) := by show (strs (l.drop i)).length = min (l.length + 1 - i) (l.length + 1 - (i + 1)); rw [strs_len, List.length_drop]; omega
              have k2 : Hid (0 < (strs (l.drop i)).length → A1 = some ⟨g2, i + 1, none⟩ ∧ ∃ ad, (some (⟨g2, i, none⟩ : Addr)) = some ad ∧ ∀ j v, (strs (l.drop i))[j]? = some v → w2.cell? (ad.add j) = some v) := by
                intro hp
                rw [strs_len, List.length_drop] at hp
                refine ⟨by rw [← hA1, cutAt_in (by omega)]; simp, _, rfl, fun j v hj => ?_⟩
                have ea : (⟨g2, i, none⟩ : Addr).add j = ⟨g2, i + j, none⟩ := by unfold Addr.add; split <;> simp_all
                have hjl : j < l.length - i := by
                  have := (List.getElem?_eq_some_iff.1 hj).1; rw [strs_len, List.length_drop] at this; exact this
                rw [ea, own_str own2 (i + j) (by simp; omega), ← hj]
                rw [List.getElem_append_left (by omega)]
                simp [strs, List.getElem?_drop, List.getElem?_eq_getElem (show i + j < l.length by omega)]
              have k3 : Hid (i + 1 + (strs (l.drop i)).length ≤ cur2.toList.length) := by
                show _ ≤ _
                have hcl : cur2.toList.length = cur2.size := by simp
                rw [strs_len, List.length_drop]; omega
              have k4 : Hid (w2.heap[g2]? = some (.cells cur2.toList.toArray 9 (0, 0))) := by show _ = _; rw [hblk2]
              have k5 : Hid (cur2.toList.take (l.length + 1) = strs (l ++ [[]])) := by show _ = _; rw [← htk2]; simp
              have k6 : Hid (cur2.size = cap2 * 1 ∧ cap2 ≤ maxLen ∧ l.length + 1 ≤ cap2) := ⟨hsz2, hm2, by omega⟩
              clear ei eA hA1 hblk2 htk2 own2 hsz2 hm2
              go_wp2
              go_region_law ((refine step_copy_splice rfl (.tmp 40) (.tmp 43) _ _ rfl 9 Try.underlying23 size_string A1 (some ⟨g2, i, none⟩) (l.length + 1 - (i + 1)) (cap2 - (i + 1)) (l.length + 1 - i) (cap2 - i) (by simp [Act.eval, Act.put]) (by simp [Act.eval, Act.put]) g2 (i + 1) cur2.toList 9 k4.out (strs (l.drop i)) k1.out k2.out k3.out (strs_one _) base w hb2.drew hbg2 ?_; intro w4 hg4 hb4))
              obtain ⟨⟨old, c4⟩, f4, own4⟩ := own_after (f := f) hbg2 hg4.out hi k3.out k5.out ⟨by rw [← k6.out.1]; simp, k6.out.2⟩
              go_wp2
              go_ret
              rw [HF.out]
              exact ⟨_, rfl, own4, hb4.setCell (p := ⟨g2, i, none⟩) hbg2 _⟩
        · have HF : Hid (ins f l = l.take i ++ f :: l.drop i) := by show _ = _; rw [HI.out, if_neg (by rw [List.getElem?_eq_none (by omega)]; simp)]
          have hoa := hown.alloc (.cells #[str []] 9)
          have hba := (Below.refl base w).alloc hb (.cells #[str []] 9)
          go_wp2_with (at_builtin; refine wpList_append_own_at _ rfl (.tmp 34) (.tmp 35) _ rfl base 9 i0 _ 1 16 Try.underlying23 hi0 hz0 hz1 hz2 rfl (by decide) _ _ _ rfl hoa ⟨w.heap.size, 0, none⟩ 1 1 [str []] rfl rfl ?qbc1 ?qbc2 ?qbc3 ?qbc4 (Nat.le_trans hb hba.size) ?_)
          try (case qbc1 => exact news_new _ _ [_])
          try (case qbc2 => first | rfl | (intro u hu; simp at hu; subst hu; rfl))
          try (case qbc3 => simp [maxLen]; omega)
          try (case qbc4 => omega)
          intro v2 w2 own2 gr2 _ _
          have hb2 : Below base w w2 := hba.grown gr2 (Nat.le_trans hb hba.size) (fun k hk => (hown.lt k hk).1)
          rw [← strs_snoc] at own2
          clear hoa hba gr2
          rcases own2.2 with ⟨_, h⟩ | ⟨g2, cap2, cur2, rfl, hbg2, hblk2, hcap2, hm2, hsz2, htk2⟩
          · omega
          · have hs1 := fun W => slice_from (P := Try.prog) 23 9 i0 1 Try.underlying23 hi0 hz1 (some ⟨g2, 0, none⟩) (l.length + 1) cap2 (i + 1) (by omega) W
            have hs2 := fun W => slice_from (P := Try.prog) 23 9 i0 1 Try.underlying23 hi0 hz1 (some ⟨g2, 0, none⟩) (l.length + 1) cap2 i (by omega) W
            have ei : ((i + 1 : Nat) : Int) = (i : Int) + 1 := by omega
            have eA : cutAt (some ⟨g2, 0, none⟩) i cap2 1 = some ⟨g2, i, none⟩ := by rw [cutAt_in (by omega)]; simp
            obtain ⟨A1, hA1⟩ : ∃ A1, cutAt (some ⟨g2, 0, none⟩) (i + 1) cap2 1 = A1 := ⟨_, rfl⟩
            simp only [ei, hA1] at hs1
            simp only [eA] at hs2
            have hwr : IntKind.i64.wrap ((i : Int) + 1) = (i : Int) + 1 := IntWalk.i64_in _ (by omega)
            have k1 : Hid ((strs (l.drop i)).length = Nat.min (l.length + 1 - i) (l.length + 1 - (i + 1))) := by show (strs (l.drop i)).length = min (l.length + 1 - i) (l.length + 1 - (i + 1)); rw [strs_len, List.length_drop]; omega
            have k2 : Hid (0 < (strs (l.drop i)).length → A1 = some ⟨g2, i + 1, none⟩ ∧ ∃ ad, (some (⟨g2, i, none⟩ : Addr)) = some ad ∧ ∀ j v, (strs (l.drop i))[j]? = some v → w2.cell? (ad.add j) = some v) := by
              intro hp
              rw [strs_len, List.length_drop] at hp
              refine ⟨by rw [← hA1, cutAt_in (by omega)]; simp, _, rfl, fun j v hj => ?_⟩
              have ea : (⟨g2, i, none⟩ : Addr).add j = ⟨g2, i + j, none⟩ := by unfold Addr.add; split <;> simp_all
              have hjl : j < l.length - i := by
                have := (List.getElem?_eq_some_iff.1 hj).1; rw [strs_len, List.length_drop] at this; exact this
              rw [ea, own_str own2 (i + j) (by simp; omega), ← hj]
              rw [List.getElem_append_left (by omega)]
              simp [strs, List.getElem?_drop, List.getElem?_eq_getElem (show i + j < l.length by omega)]
            have k3 : Hid (i + 1 + (strs (l.drop i)).length ≤ cur2.toList.length) := by
              show _ ≤ _
              have hcl : cur2.toList.length = cur2.size := by simp
              rw [strs_len, List.length_drop]; omega
            have k4 : Hid (w2.heap[g2]? = some (.cells cur2.toList.toArray 9 (0, 0))) := by show _ = _; rw [hblk2]
            have k5 : Hid (cur2.toList.take (l.length + 1) = strs (l ++ [[]])) := by show _ = _; rw [← htk2]; simp
            have k6 : Hid (cur2.size = cap2 * 1 ∧ cap2 ≤ maxLen ∧ l.length + 1 ≤ cap2) := ⟨hsz2, hm2, by omega⟩
            clear ei eA hA1 hblk2 htk2 own2 hsz2 hm2
            go_wp2
            go_region_law ((refine step_copy_splice rfl (.tmp 40) (.tmp 43) _ _ rfl 9 Try.underlying23 size_string A1 (some ⟨g2, i, none⟩) (l.length + 1 - (i + 1)) (cap2 - (i + 1)) (l.length + 1 - i) (cap2 - i) (by simp [Act.eval, Act.put]) (by simp [Act.eval, Act.put]) g2 (i + 1) cur2.toList 9 k4.out (strs (l.drop i)) k1.out k2.out k3.out (strs_one _) base w hb2.drew hbg2 ?_; intro w4 hg4 hb4))
            obtain ⟨⟨old, c4⟩, f4, own4⟩ := own_after (f := f) hbg2 hg4.out hi k3.out k5.out ⟨by rw [← k6.out.1]; simp, k6.out.2⟩
            go_wp2
            go_ret
            rw [HF.out]
            exact ⟨_, rfl, own4, hb4.setCell (p := ⟨g2, i, none⟩) hbg2 _⟩
end Go.Proofs.Ytiejknfpgiofiaa
