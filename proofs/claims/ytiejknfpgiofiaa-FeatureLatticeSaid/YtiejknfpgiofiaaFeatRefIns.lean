/-
  The contract of the reference's insert: a feature is inserted into an ascending list, in memory of its own. Condition: the list has at most 1099511627776 elements.
-/
import Derived.Test.YtiejknfpgiofiaaFeatIns
namespace Go.Proofs.Ytiejknfpgiofiaa
open Go.RowKit Utf Feat
attribute [local go_sem] byte_mk ByteArray.extract_mk

theorem src_of {w w' : World} {base g cap n : Nat} {l : List Bs} (h : w.ownsRow base 9 1 (.slice (some ⟨g, 0, none⟩) n cap) n (strs l)) (hw : w'.heap[g]? = w.heap[g]?) (k : Nat) (news : List Bs)
    (hn : ∀ j x, news[j]? = some x → l[k + j]? = some x) : Src w' (some ⟨g, k, none⟩) (strs news) := by
  intro _
  refine ⟨_, rfl, fun j u hj => ?_⟩
  have ea : (⟨g, k, none⟩ : Addr).add j = ⟨g, k + j, none⟩ := by unfold Addr.add; split <;> simp_all
  obtain ⟨x, hx, rfl⟩ : ∃ x, news[j]? = some x ∧ str x = u := by
    unfold strs at hj; rw [List.getElem?_map] at hj
    cases hnj : news[j]? with
    | none => rw [hnj] at hj; cases hj
    | some x => rw [hnj] at hj; exact ⟨x, rfl, by simpa using hj⟩
  have hl := hn j x hx
  obtain ⟨hk, hke⟩ := List.getElem?_eq_some_iff.1 hl
  rw [ea]
  exact (World.cell?_of_block hw).trans ((own_str h (k + j) hk).trans (by rw [hke]))

theorem src_new (w : World) (e : TypeId) (x : Value) : Src (w.alloc (.cells #[x] e)) (some ⟨w.heap.size, 0, none⟩) [x] := fun _ => ⟨_, rfl, news_new w e [x]⟩
/-- The block that was read is as it was behind two appends. -/
theorem two_grown {w0 w1 w2 : World} {v1 : Value} {g : Nat} {o : Obj} (h1 : w0.grownBy w1 (Value.slice none 0 0).ownBlock) (hb : v1.ownBlock = (Value.slice none 0 0).ownBlock ∨ v1.ownBlock = some w0.heap.size)
    (h2 : (w1.alloc o).grownBy w2 v1.ownBlock) (hg : g < w0.heap.size) : w2.heap[g]? = w0.heap[g]? := by
  have hz := h1.size
  refine (h2.block g (by simp; omega) ?_).trans ((Below.heap_alloc _ _ _ (by omega)).trans (h1.block g hg (by simp [Value.ownBlock])))
  rcases hb with h | h <;> rw [h]
  · simp [Value.ownBlock]
  · intro e; cases e; omega
theorem two_grown' {w0 w1 w2 : World} {v1 : Value} {g : Nat} {o : Obj} (h1 : (w0.drew.alloc o).grownBy w1 (Value.slice none 0 0).ownBlock) (hb : v1.ownBlock = (Value.slice none 0 0).ownBlock ∨ v1.ownBlock = some (w0.drew.alloc o).heap.size)
    (h2 : w1.grownBy w2 v1.ownBlock) (hg : g < w0.heap.size) : w2.heap[g]? = w0.heap[g]? := by
  have hz := h1.size
  simp at hz
  refine (h2.block g (by omega) ?_).trans ((h1.block g (by simp; omega) (by simp [Value.ownBlock])).trans (Below.heap_alloc w0.drew o g hg))
  rcases hb with h | h <;> rw [h]
  · simp [Value.ownBlock]
  · intro e; simp at e; omega
theorem src_grown {w0 w1 : World} {e : TypeId} {x : Value} (h1 : (w0.drew.alloc (.cells #[x] e)).grownBy w1 (Value.slice none 0 0).ownBlock) : Src w1 (some ⟨w0.heap.size, 0, none⟩) [x] := by
  intro _
  refine ⟨_, rfl, fun j u hj => ?_⟩
  have := news_new w0.drew e [x] j u hj
  refine (World.cell?_of_block (h1.block _ ?_ (by simp [Value.ownBlock]))).trans this
  have : ((⟨w0.heap.size, 0, none⟩ : Addr).add j).block = w0.heap.size := by unfold Addr.add; split <;> rfl
  rw [this]; simp
theorem take_src (l : List Bs) (i : Nat) : ∀ j x, (l.take i)[j]? = some x → l[0 + j]? = some x := by
  intro j x h
  rw [List.getElem?_take] at h
  rw [Nat.zero_add]
  split at h
  · exact h
  · cases h
theorem drop_src (l : List Bs) (i : Nat) : ∀ j x, (l.drop i)[j]? = some x → l[i + j]? = some x := by
  intro j x h; rwa [List.getElem?_drop] at h

theorem own_cast {w : World} {base n m : Nat} {e : TypeId} {v : Value} {l r : List Value} (h : w.ownsRow base e 1 v n l) (hl : l = r) (hn : n = m) : w.ownsRow base e 1 v m r := by subst hl hn; exact h
theorem ins_mid {l : List Bs} {f : Bs} (ha : Asc l) (i : Nat) (hi : i < l.length) (hlo : ∀ j (hj : j < l.length), j < i → lt l[j] f = true) (hle : Op.bytesLess l[i] f = false) :
    ins f l = if l[i] = f then l else l.take i ++ f :: l.drop i := by
  have hp : Place f l i := by
    refine ⟨by omega, hlo, fun j hj hij => ?_⟩
    by_cases e : j = i
    · subst e; exact hle
    · unfold Asc at ha
      rw [List.pairwise_iff_getElem] at ha
      have h2 := ha i j hi hj (by omega)
      cases hh : lt l[j] f with
      | false => rfl
      | true => exact absurd (lt_trans h2 hh) (by unfold lt; rw [hle]; simp)
  rw [ins_place l f i hp, List.getElem?_eq_getElem hi]
  simp

set_option maxRecDepth 100000 in
set_option maxHeartbeats 2000000 in
theorem refInsert_any (base : Nat) (l : List Bs) (f : Bs) (v : Value) (w : World) (ha : Asc l) (hown : w.ownsRow base 9 1 v l.length (strs l)) (hb : base ≤ w.heap.size) (hlen : l.length ≤ 1099511627776) :
    Calls Try.prog 31 #[v, str f] w (Inserted base (ins f l) w) := by
  obtain ⟨i0, hi0, hz0, hz1, hz2⟩ := info_parts info_string
  rcases hown.2 with ⟨rfl, hn⟩ | ⟨g, cap, cur, rfl, hbg, hblk, hcap, _⟩
  · have hnil : l = [] := List.eq_nil_of_length_eq_zero hn
    subst hnil
    go_enter Try.func31, Try.ntmps31
    go_wp2
    go_loop [5] (fun iv => iv = .int .i64 0) (fun _ => 0)
    case atStart => rfl
    case round =>
      obtain rfl := hrel
      have hs1 := fun W => slice_to (P := Try.prog) 23 9 i0 Try.underlying23 hi0 none 0 0 0 (Nat.le_refl _) W
      have hs2 := fun W => slice_from (P := Try.prog) 23 9 i0 1 Try.underlying23 hi0 hz1 none 0 0 0 (Nat.le_refl _) W
      simp only [Int.cast_ofNat_Int, Nat.sub_self, show cutAt none 0 0 1 = none from rfl] at hs1 hs2
      clear hown
      go_wp2
      go_region_law (first
        | ((refine step_app _ rfl (.tmp 36) (.tmp 38) _ rfl base 9 i0 _ 1 16 Try.underlying23 hi0 hz0 hz1 hz2 rfl (by decide) (.slice none 0 0) 0 [] (by simp [Act.eval]) (World.ownsRow_nil _ _ _ _) (some ⟨w.heap.size, 0, none⟩) 1 1 [str f] (by simp [Act.eval]) rfl (by first | exact src_new _ _ _ | exact src_new _ _ _) (strs_one [f]) (by simp [maxLen]) (by omega) (by simp; omega) ?_; intro v2 w2 own2 gr2 ob2))
        | ((refine step_app _ rfl (.tmp 39) (.tmp 42) _ rfl base 9 i0 _ 1 16 Try.underlying23 hi0 hz0 hz1 hz2 rfl (by decide) v2 (0 + 1) ([] ++ [str f]) (by simp [Act.eval]) own2 none 0 0 [] (by simp [Act.eval]) rfl (Src.nil _ _) (by simp) (by simp [maxLen]) (by omega) (by have := gr2.size; simp at *; omega) ?_; intro v3 w3 own3 gr3 ob3)))
      all_goals go_wp2
      all_goals go_ret
      · have s2 := gr2.size
        simp at s2
        have B2 := ((Below.refl base w).drew.alloc (by simpa using hb) (.cells #[str f] 9)).grown gr2 (by simp; omega) (fun k hk => by cases hk)
        have B3 := B2.grown gr3 (by omega) (fun k hk => (own2.lt k hk).1)
        exact ⟨_, rfl, own_cast own3 (by simp [strs, ins]) (by simp [ins]), B3⟩
      · have s2 := gr2.size
        simp at s2
        have B2 := ((Below.refl base w).alloc hb (.cells #[str f] 9)).drew.grown gr2 (by simp; omega) (fun k hk => by cases hk)
        have B3 := B2.grown gr3 (by omega) (fun k hk => (own2.lt k hk).1)
        exact ⟨_, rfl, own_cast own3 (by simp [strs, ins]) (by simp [ins]), B3⟩
  · go_enter Try.func31, Try.ntmps31
    go_wp2
    go_loop [5] (fun iv => ∃ i : Nat, i ≤ l.length ∧ iv = .int .i64 i ∧ Hid (∀ j (hj : j < l.length), j < i → lt l[j] f = true)) (fun iv => l.length - (intOf iv).toNat)
    case atStart => exact ⟨0, Nat.zero_le _, rfl, fun j hj h => by omega⟩
    case round =>
      obtain ⟨i, hi, rfl, hlo⟩ := hrel
      by_cases h0 : i < l.length
      · have c1 : w.cell? ⟨g, i, none⟩ = some (str l[i]) := own_str hown _ h0
        cases hle : Op.bytesLess l[i] f with
        | true =>
          go_wp2
          go_round
          case rel =>
            refine ⟨i + 1, by omega, by go_num, fun j hj hji => ?_⟩
            by_cases e : j = i
            · subst e; exact hle
            · exact hlo.out j hj (by omega)
          case measure => simp [intOf]; omega
        | false =>
          cases heq : (l[i] == f) with
          | true =>
            go_wp2
            go_ret
            refine ⟨_, rfl, ?_, Below.refl _ _⟩
            rw [ins_mid ha i h0 hlo.out hle, if_pos (eq_of_beq heq)]
            exact hown
          | false =>
            have HE : Hid (ins f l = l.take i ++ f :: l.drop i) := by show _ = _; rw [ins_mid ha i h0 hlo.out hle, if_neg (by intro h; simp [h] at heq)]
            have hs1 := fun W => slice_to (P := Try.prog) 23 9 i0 Try.underlying23 hi0 (some ⟨g, 0, none⟩) l.length cap i (by omega) W
            have hs2 := fun W => slice_from (P := Try.prog) 23 9 i0 1 Try.underlying23 hi0 hz1 (some ⟨g, 0, none⟩) l.length cap i hi W
            obtain ⟨A1, hA1⟩ : ∃ A1, cutAt (some ⟨g, 0, none⟩) i cap 1 = A1 := ⟨_, rfl⟩
            simp only [hA1] at hs2
            have HA : Hid (i < l.length → A1 = some ⟨g, i, none⟩) := by intro h; rw [← hA1, cutAt_in (by omega)]; simp
            have HO := Lib.hid hown
            have hgl : g < w.heap.size := (Array.getElem?_eq_some_iff.1 hblk).1
            clear hown hA1 hblk
            go_wp2
            go_region_law (first
              | ((refine step_app _ rfl (.const (.slice none 0 0)) (.tmp 35) _ rfl base 9 i0 _ 1 16 Try.underlying23 hi0 hz0 hz1 hz2 rfl (by decide) (.slice none 0 0) 0 [] rfl (World.ownsRow_nil _ _ _ _) (some ⟨g, 0, none⟩) i cap (strs (l.take i)) (by simp [Act.eval, Act.put]) (by rw [strs_len, List.length_take]; omega) (src_of HO.out (by first | rfl | exact Below.heap_alloc _ _ _ hgl) 0 (l.take i) (take_src l i)) (strs_one _) (by simp [maxLen]; omega) (by omega) (by simp; omega) ?_; intro v1 w1 own1 gr1 ob1))
              | ((refine step_app _ rfl (.tmp 36) (.tmp 38) _ rfl base 9 i0 _ 1 16 Try.underlying23 hi0 hz0 hz1 hz2 rfl (by decide) v1 (0 + i) ([] ++ strs (l.take i)) (by simp [Act.eval]) (own1.alloc _) (some ⟨w1.heap.size, 0, none⟩) 1 1 [str f] (by simp [Act.eval]) rfl (src_new _ _ _) (strs_one [f]) (by simp [maxLen]; omega) (by omega) (by have := gr1.size; simp at this ⊢; omega) ?_; intro v2 w2 own2 gr2 ob2))
              | ((refine step_app _ rfl (.tmp 36) (.tmp 38) _ rfl base 9 i0 _ 1 16 Try.underlying23 hi0 hz0 hz1 hz2 rfl (by decide) v1 (0 + i) ([] ++ strs (l.take i)) (by simp [Act.eval]) own1 (some ⟨w.heap.size, 0, none⟩) 1 1 [str f] (by simp [Act.eval]) rfl (src_grown gr1) (strs_one [f]) (by simp [maxLen]; omega) (by omega) (by have := gr1.size; simp at this ⊢; omega) ?_; intro v2 w2 own2 gr2 ob2))
              | ((refine step_app _ rfl (.tmp 39) (.tmp 42) _ rfl base 9 i0 _ 1 16 Try.underlying23 hi0 hz0 hz1 hz2 rfl (by decide) v2 (0 + i + 1) ([] ++ strs (l.take i) ++ [str f]) (by simp [Act.eval]) own2 A1 (l.length - i) (cap - i) (strs (l.drop i)) (by simp [Act.eval]) (by rw [strs_len, List.length_drop]; omega) (fun h => by rw [HA.out (by rw [strs_len, List.length_drop] at h; omega)]; first | exact src_of HO.out ((two_grown gr1 ob1 gr2 hgl).trans rfl) i (l.drop i) (drop_src l i) h | exact src_of HO.out (two_grown' gr1 ob1 gr2 hgl) i (l.drop i) (drop_src l i) h) (strs_one _) (by simp [maxLen]; omega) (by omega) (by have := gr1.size; have := gr2.size; simp at *; omega) ?_; intro v3 w3 own3 gr3 ob3)))
            · go_wp2
              go_ret
              have s1 := gr1.size
              have s2 := gr2.size
              simp at s1 s2
              have B1 := (Below.refl base w).drew.grown gr1 (by simpa using hb) (fun k hk => by cases hk)
              have B2 := (B1.alloc (by omega) _).grown gr2 (by simp; omega) (fun k hk => (own1.lt k hk).1)
              have B3 := B2.grown gr3 (by omega) (fun k hk => (own2.lt k hk).1)
              rw [HE.out]
              exact ⟨_, rfl, own_cast own3 (by simp [strs]) (by simp; omega), B3⟩
            · go_wp2
              go_ret
              have s1 := gr1.size
              have s2 := gr2.size
              simp at s1 s2
              have B1 := ((Below.refl base w).alloc hb _).drew.grown gr1 (by simp; omega) (fun k hk => by cases hk)
              have B2 := B1.grown gr2 (by omega) (fun k hk => (own1.lt k hk).1)
              have B3 := B2.grown gr3 (by omega) (fun k hk => (own2.lt k hk).1)
              rw [HE.out]
              exact ⟨_, rfl, own_cast own3 (by simp [strs]) (by simp; omega), B3⟩
      · have hil : i = l.length := by omega
        subst hil
        have HE : Hid (ins f l = l.take l.length ++ f :: l.drop l.length) := by show _ = _; rw [ins_place l f l.length ⟨Nat.le_refl _, hlo.out, fun j hj h => by omega⟩, List.getElem?_eq_none (Nat.le_refl _)]; simp
        have hs1 := fun W => slice_to (P := Try.prog) 23 9 i0 Try.underlying23 hi0 (some ⟨g, 0, none⟩) l.length cap l.length (by omega) W
        have hs2 := fun W => slice_from (P := Try.prog) 23 9 i0 1 Try.underlying23 hi0 hz1 (some ⟨g, 0, none⟩) l.length cap l.length (Nat.le_refl _) W
        obtain ⟨A1, hA1⟩ : ∃ A1, cutAt (some ⟨g, 0, none⟩) l.length cap 1 = A1 := ⟨_, rfl⟩
        simp only [hA1] at hs2
        have HO := Lib.hid hown
        have hgl : g < w.heap.size := (Array.getElem?_eq_some_iff.1 hblk).1
        clear hown hA1 hblk
        go_wp2
        go_region_law (first
          | ((refine step_app _ rfl (.const (.slice none 0 0)) (.tmp 35) _ rfl base 9 i0 _ 1 16 Try.underlying23 hi0 hz0 hz1 hz2 rfl (by decide) (.slice none 0 0) 0 [] rfl (World.ownsRow_nil _ _ _ _) (some ⟨g, 0, none⟩) l.length cap (strs (l.take l.length)) (by simp [Act.eval, Act.put]) (by rw [strs_len, List.length_take]; omega) (src_of HO.out (by first | rfl | exact Below.heap_alloc _ _ _ hgl) 0 (l.take l.length) (take_src l l.length)) (strs_one _) (by simp [maxLen]; omega) (by omega) (by simp; omega) ?_; intro v1 w1 own1 gr1 ob1))
          | ((refine step_app _ rfl (.tmp 36) (.tmp 38) _ rfl base 9 i0 _ 1 16 Try.underlying23 hi0 hz0 hz1 hz2 rfl (by decide) v1 (0 + l.length) ([] ++ strs (l.take l.length)) (by simp [Act.eval]) (own1.alloc _) (some ⟨w1.heap.size, 0, none⟩) 1 1 [str f] (by simp [Act.eval]) rfl (src_new _ _ _) (strs_one [f]) (by simp [maxLen]; omega) (by omega) (by have := gr1.size; simp at this ⊢; omega) ?_; intro v2 w2 own2 gr2 ob2))
          | ((refine step_app _ rfl (.tmp 36) (.tmp 38) _ rfl base 9 i0 _ 1 16 Try.underlying23 hi0 hz0 hz1 hz2 rfl (by decide) v1 (0 + l.length) ([] ++ strs (l.take l.length)) (by simp [Act.eval]) own1 (some ⟨w.heap.size, 0, none⟩) 1 1 [str f] (by simp [Act.eval]) rfl (src_grown gr1) (strs_one [f]) (by simp [maxLen]; omega) (by omega) (by have := gr1.size; simp at this ⊢; omega) ?_; intro v2 w2 own2 gr2 ob2))
          | ((refine step_app _ rfl (.tmp 39) (.tmp 42) _ rfl base 9 i0 _ 1 16 Try.underlying23 hi0 hz0 hz1 hz2 rfl (by decide) v2 (0 + l.length + 1) ([] ++ strs (l.take l.length) ++ [str f]) (by simp [Act.eval]) own2 A1 (l.length - l.length) (cap - l.length) (strs (l.drop l.length)) (by simp [Act.eval]) (by rw [strs_len, List.length_drop]; omega) (fun h => absurd h (by simp [strs])) (strs_one _) (by simp [maxLen]; omega) (by omega) (by have := gr1.size; have := gr2.size; simp at *; omega) ?_; intro v3 w3 own3 gr3 ob3)))
        · go_wp2
          go_ret
          have s1 := gr1.size
          have s2 := gr2.size
          simp at s1 s2
          have B1 := (Below.refl base w).drew.grown gr1 (by simpa using hb) (fun k hk => by cases hk)
          have B2 := (B1.alloc (by omega) _).grown gr2 (by simp; omega) (fun k hk => (own1.lt k hk).1)
          have B3 := B2.grown gr3 (by omega) (fun k hk => (own2.lt k hk).1)
          rw [HE.out]
          exact ⟨_, rfl, own_cast own3 (by simp [strs]) (by simp), B3⟩
        · go_wp2
          go_ret
          have s1 := gr1.size
          have s2 := gr2.size
          simp at s1 s2
          have B1 := ((Below.refl base w).alloc hb _).drew.grown gr1 (by simp; omega) (fun k hk => by cases hk)
          have B2 := B1.grown gr2 (by omega) (fun k hk => (own1.lt k hk).1)
          have B3 := B2.grown gr3 (by omega) (fun k hk => (own2.lt k hk).1)
          rw [HE.out]
          exact ⟨_, rfl, own_cast own3 (by simp [strs]) (by simp), B3⟩
end Go.Proofs.Ytiejknfpgiofiaa
