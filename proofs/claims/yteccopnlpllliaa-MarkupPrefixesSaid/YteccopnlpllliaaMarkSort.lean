/-
  The contract of markup.sorted: the pairs in ascending order of their names, in memory of their own. Condition: at most 1099511627776 pairs.
-/
import Derived.Test.YteccopnlpllliaaMarkKey
import Derived.Test.YteccopnlpllliaaMarkOrd
import Derived.Test.YteccopnlpllliaaCopy
import Derived.BigQuiet
import Derived.Deep.QuietTactic
namespace Go.Proofs.Yteccopnlpllliaa
open Go.RowKit Utf Tagp
open Feat (Bs lt)
attribute [local go_sem] byte_mk ByteArray.extract_mk

theorem info_pair : (Try.prog.info? 52).map (fun i => (i.zero, i.size, i.bytes)) = some (some (.agg #[.string ⟨#[]⟩, .string ⟨#[]⟩]), 2, 32) := by kernel_rfl
theorem prs_one (l : List KV) : ∀ u ∈ prs l, u.oneCell' = true := by
  intro u hu
  unfold prs at hu
  rw [List.mem_flatMap] at hu
  obtain ⟨x, _, hx⟩ := hu
  simp at hx
  rcases hx with rfl | rfl <;> rfl
/-- The pairs in memory of the call's own. -/
def Pairs (base : Nat) (l : List KV) (w : World) (e : Ending) (w' : World) : Prop :=
  ∃ v, e = .returned v ∧ w'.ownsRow base 52 2 v l.length (prs l) ∧ Below w.heap.size w w'

theorem own_pair {w : World} {base : Nat} {e : TypeId} {g n cap : Nat} {l : List KV} (h : w.ownsRow base e 2 (.slice (some ⟨g, 0, none⟩) n cap) n (prs l)) (k : Nat) (hk : k < l.length) :
    w.cell? ⟨g, k * 2, none⟩ = some (str l[k].1) ∧ w.cell? ⟨g, k * 2 + 1, none⟩ = some (str l[k].2) := by
  have hl : l.length * 2 = n * 2 := by rw [← prs_len]; exact h.1
  obtain ⟨p1, p2⟩ := prs_at l k hk
  constructor
  · rw [h.cellAt (k * 2) (by omega), ← p1]
  · rw [h.cellAt (k * 2 + 1) (by omega), ← p2]

/-- What the shift and the store leave. -/
theorem shifted_pair (cur : List Value) (l : List KV) (p : KV) (i : Nat) (hi : i ≤ l.length) (hc : cur.take ((l.length + 1) * 2) = prs (l ++ [([], [])])) :
    (((splice cur ((i + 1) * 2) (prs (l.drop i))).set (i * 2) (str p.1)).set (i * 2 + 1) (str p.2)).take ((l.length + 1) * 2) = prs (l.take i ++ p :: l.drop i) := by
  have hlen : (l.length + 1) * 2 ≤ cur.length := by
    have := congrArg List.length hc
    rw [prs_len, List.length_take] at this
    simp only [List.length_append, List.length_cons, List.length_nil] at this
    omega
  have h1 : cur.take (i * 2) = prs (l.take i) := by
    have : (cur.take ((l.length + 1) * 2)).take (i * 2) = cur.take (i * 2) := by rw [List.take_take]; congr 1; omega
    rw [← this, hc]
    conv => lhs; rw [show l ++ [([], [])] = l.take i ++ (l.drop i ++ [([], [])]) by rw [← List.append_assoc, List.take_append_drop]]
    rw [prs_append]
    exact List.take_left' (by rw [prs_len, List.length_take]; omega)
  have h3 : (prs (l.take i)).length = i * 2 := by rw [prs_len, List.length_take]; omega
  have h2 : cur.take ((i + 1) * 2) = prs (l.take i) ++ [cur[i * 2]'(by omega), cur[i * 2 + 1]'(by omega)] := by
    rw [show (i + 1) * 2 = i * 2 + 1 + 1 by omega, List.take_succ_eq_append_getElem (by omega), List.take_succ_eq_append_getElem (by omega), h1]
    simp
  unfold splice
  rw [h2, List.append_assoc, List.set_append_right _ _ (by omega), h3, Nat.sub_self, List.set_append_right _ _ (by omega), h3, show i * 2 + 1 - i * 2 = 1 by omega]
  simp only [List.cons_append, List.set_cons_zero, List.set_cons_succ, List.nil_append]
  rw [show prs (l.take i) ++ str p.1 :: str p.2 :: (prs (l.drop i) ++ cur.drop ((i + 1) * 2 + (prs (l.drop i)).length)) = prs (l.take i ++ p :: l.drop i) ++ cur.drop ((i + 1) * 2 + (prs (l.drop i)).length) by simp [prs]]
  refine List.take_left' ?_
  rw [prs_len]
  simp
  omega

theorem own_after_pair {w : World} {base g cap i : Nat} {cur : List Value} {l : List KV} {p : KV} (hb : base ≤ g) (hB : Blk w g 52 (splice cur ((i + 1) * 2) (prs (l.drop i))).toArray)
    (hi : i ≤ l.length) (hk : (i + 1) * 2 + (prs (l.drop i)).length ≤ cur.length) (ht : cur.take ((l.length + 1) * 2) = prs (l ++ [([], [])])) (hs : cur.length = cap * 2 ∧ cap ≤ maxLen ∧ l.length + 1 ≤ cap) :
    (∃ old, w.cell? ⟨g, i * 2, none⟩ = some old) ∧ (∃ old, w.cell? ⟨g, i * 2 + 1, none⟩ = some old) ∧ w.frozen? ⟨g, i * 2, none⟩ = false ∧ w.frozen? ⟨g, i * 2 + 1, none⟩ = false ∧
    ((w.setCell ⟨g, i * 2, none⟩ (str p.1)).setCell ⟨g, i * 2 + 1, none⟩ (str p.2)).ownsRow base 52 2 (.slice (some ⟨g, 0, none⟩) (l.length + 1) cap) (l.length + 1) (prs (l.take i ++ p :: l.drop i)) := by
  have hl := length_splice cur ((i + 1) * 2) (prs (l.drop i)) hk
  have hln : (l.take i ++ p :: l.drop i).length = l.length + 1 := by simp; omega
  refine ⟨⟨_, (hB.cell _).trans (by rw [List.getElem?_toArray]; exact List.getElem?_eq_getElem (by omega))⟩, ⟨_, (hB.cell _).trans (by rw [List.getElem?_toArray]; exact List.getElem?_eq_getElem (by omega))⟩, hB.free _, hB.free _, ?_⟩
  refine ⟨by rw [prs_len, hln], .inr ⟨g, cap, _, rfl, hb, (hB.set_ _ (str p.1)).set_ _ (str p.2), by omega, hs.2.1, by simp [hl, hs.1], ?_⟩⟩
  rw [← shifted_pair cur l p i hi ht]
  simp
theorem news_two {w : World} {t : TypeId} {a b : Value} {k : Nat} (h : w.heap.size = k) : ∀ j u, [a, b][j]? = some u → (w.alloc (.cells #[a, b] t)).cell? ((⟨k, 0, none⟩ : Addr).add j) = some u := by
  subst h
  exact news_new w t [a, b]
theorem below_drewN {B : Nat} {a w : World} (h : Below B a w) (n : Nat) : Below B a (w.drewN n) := ⟨h.os, h.tape, h.output, h.size, h.block⟩
set_option maxRecDepth 100000 in
set_option maxHeartbeats 1600000 in
theorem sorted_any (A : Option Addr) (n c : Nat) (l : List KV) (w : World) (hn : n ≤ 1099511627776) (h : Sl w w.heap.size 2 A n (prs l)) :
    Calls Try.prog 47 #[.slice A n c] w (Pairs w.heap.size (sortP l) w) := by
  have hl : l.length = n := by have := h.1; rw [prs_len] at this; omega
  obtain ⟨i0, hi0, hz0, hz1, hz2⟩ := info_parts info_pair
  go_enter Try.func47, Try.ntmps47
  go_wp2
  go_loopw [9, 3] (fun iv ov wr => ∃ (k : Nat) (A2 : Option Addr) (cap2 : Nat), k ≤ n ∧ iv = .int .i64 k ∧ ov = .slice A2 k cap2 ∧ Below w.heap.size w wr ∧ wr.ownsRow w.heap.size 52 2 (.slice A2 k cap2) k (prs (sortP (l.take k)))) (fun iv _ _ => n - (intOf iv).toNat)
  case atStart => exact ⟨0, none, 0, by omega, rfl, rfl, Below.refl _ _, World.ownsRow_nil _ _ _ _⟩
  case round =>
    obtain ⟨k, A2, cap2, hk, rfl, rfl, hB, hown⟩ := hrel
    by_cases hlt : k < n
    · obtain ⟨g, o, hk', rfl, hg, c0, c1⟩ := sl_pair (h.under hB) hlt
      have hm : Hid (sortP (l.take (k + 1)) = insP l[k] (sortP (l.take k))) := sortP_take l k hk'
      have hml : (sortP (l.take k)).length = k := by rw [sortP_len, List.length_take]; omega
      have hup : Hid (Up (sortP (l.take k))) := sortP_up _
      obtain ⟨m, hmm⟩ : ∃ m, sortP (l.take k) = m := ⟨_, rfl⟩
      obtain ⟨p, hp⟩ : ∃ p, l[k] = p := ⟨_, rfl⟩
      rw [hmm] at hm hml hup hown
      rw [hp] at hm c0 c1
      have hA2 : ∀ j (hj : j < m.length), ∃ g2, A2 = some ⟨g2, 0, none⟩ ∧ g2 < wr.heap.size ∧ wr.cell? ⟨g2, j * 2, none⟩ = some (str m[j].1) := by
        rcases hown.2 with ⟨hv, hn0⟩ | ⟨g2, cap3, cur, hv, hbg, hblk, _⟩
        · intro j hj; omega
        · intro j hj
          cases hv
          exact ⟨g2, rfl, (Array.getElem?_eq_some_iff.1 hblk).1, (own_pair hown j hj).1⟩
      have HO := Lib.hid hown
      clear hown hmm hp
      go_wp2
      go_loopw [6] (fun iv wx => ∃ i : Nat, i ≤ k ∧ iv = .int .i64 i ∧ Hid (∀ j (hj : j < m.length), i ≤ j → lt p.1 m[j].1 = true) ∧ ∃ q, wx = (wr.alloc (.cells #[str p.1, str p.2] 52)).drewN q) (fun iv _ => (intOf iv).toNat)
      case atStart => exact ⟨k, Nat.le_refl _, rfl, fun j hj h => by omega, 0, rfl⟩
      case round =>
        obtain ⟨i, hi, rfl, hhi, q, rfl⟩ := hrel
        rcases Nat.eq_zero_or_pos i with h0 | h0
        · subst h0
          have hlo : Hid (∀ (h0 : 0 < 0), lt p.1 (m[0 - 1]'(by omega)).1 = false) := fun h => absurd h (Nat.lt_irrefl _)
          go_wp2
          go_quiet (fail)
          have hoa := (show ((wr.alloc (.cells #[str p.1, str p.2] 52)).drewN (q + nq)).ownsRow _ _ _ _ _ _ from HO.out.alloc (.cells #[str p.1, str p.2] 52)).alloc (.cells #[str [], str []] 52)
          have hba : Below w.heap.size w (((wr.alloc (.cells #[str p.1, str p.2] 52)).drewN (q + nq)).alloc (.cells #[str [], str []] 52)) := Below.alloc (below_drewN (hB.alloc hB.size _) (q + nq)) (by have := hB.size; simp; omega) _
          have hbp : Blk (((wr.alloc (.cells #[str p.1, str p.2] 52)).drewN (q + nq)).alloc (.cells #[str [], str []] 52)) wr.heap.size 52 #[str p.1, str p.2] := Blk.alloc (w := (wr.alloc (.cells #[str p.1, str p.2] 52)).drewN (q + nq)) (Blk.new wr _ _) _
          go_wp2_with (at_builtin; refine wpList_append_own_at _ rfl (.tmp 30) (.tmp 32) _ rfl w.heap.size 52 i0 _ 2 32 Try.underlying31 hi0 hz0 hz1 hz2 rfl (by decide) _ _ _ rfl hoa ⟨_, 0, none⟩ 1 1 [str [], str []] rfl rfl ?pa1 ?pa2 ?pa3 ?pa4 hba.size ?_)
          try (case pa1 => exact news_two (by simp))
          try (case pa2 => first | rfl | (intro u hu; simp at hu; subst hu; rfl))
          try (case pa3 => simp [maxLen]; omega)
          try (case pa4 => omega)
          intro v2 w2 own2 gr2 _ hob2
          have hb2 : Below w.heap.size w w2 := hba.grown gr2 hba.size (fun k hk => (HO.out.lt k hk).1)
          have hbp2 : Blk w2 wr.heap.size 52 #[str p.1, str p.2] := (gr2.block _ hbp.lt (fun e => by have := (HO.out.lt _ e.symm).2; omega)).trans hbp
          have hob3 : ∀ b, v2.ownBlock = some b → b ≠ wr.heap.size := by
            intro b hb
            rcases hob2 with e | e
            · rw [e] at hb
              have := (HO.out.lt _ hb).2
              omega
            · rw [e] at hb
              have := Option.some.inj hb
              try simp at this
              omega
          rw [show prs m ++ [str [], str []] = prs (m ++ [([], [])]) by simp [prs]] at own2
          clear hoa hba gr2 hbp hob2
          rcases own2.2 with ⟨_, h⟩ | ⟨g3, cap3, cur3, rfl, hbg3, hblk3, hcap3, hm3, hsz3, htk3⟩
          · omega
          · have hg3p : g3 ≠ wr.heap.size := hob3 g3 rfl
            have hs1 := fun W => slice_from (P := Try.prog) 31 52 i0 2 Try.underlying31 hi0 hz1 (some ⟨g3, 0, none⟩) (k + 1) cap3 1 (by omega) W
            have hs2 := fun W => slice_from (P := Try.prog) 31 52 i0 2 Try.underlying31 hi0 hz1 (some ⟨g3, 0, none⟩) (k + 1) cap3 0 (by omega) W
            skip
            have eA : cutAt (some ⟨g3, 0, none⟩) 0 cap3 2 = some ⟨g3, 0, none⟩ := by rw [cutAt_in (by omega)]
            obtain ⟨A1, hA1⟩ : ∃ A1, cutAt (some ⟨g3, 0, none⟩) 1 cap3 2 = A1 := ⟨_, rfl⟩
            simp only [hA1, Int.cast_ofNat_Int, Nat.add_sub_cancel] at hs1
            simp only [eA, Int.cast_ofNat_Int, Nat.sub_zero] at hs2
            have hwr : IntKind.i64.wrap 1 = 1 := IntWalk.i64_in _ (by omega)
            have hin : insP p m = m.take 0 ++ p :: m.drop 0 := insP_right p m hup.out 0 (by omega) hhi.out hlo.out
            have HI := Lib.hid (hm.out.trans hin)
            have k1 : Hid ((prs (m.drop 0)).length = Nat.min (k + 1) k * 2) := by show (prs (m.drop 0)).length = min (k + 1) k * 2; rw [prs_len, List.length_drop]; omega
            have k2 : Hid (0 < (prs (m.drop 0)).length → A1 = some ⟨g3, (0 + 1) * 2, none⟩ ∧ ∃ ad, (some (⟨g3, 0, none⟩ : Addr)) = some ad ∧ ∀ j v, (prs (m.drop 0))[j]? = some v → w2.cell? (ad.add j) = some v) := by
              intro hp
              rw [prs_len, List.length_drop] at hp
              refine ⟨by rw [← hA1, cutAt_in (by omega)], _, rfl, fun j v hj => ?_⟩
              have ea : (⟨g3, 0, none⟩ : Addr).add j = ⟨g3, 0 * 2 + j, none⟩ := by unfold Addr.add; split <;> simp_all
              have hjl : j < (m.length - 0) * 2 := by
                have := (List.getElem?_eq_some_iff.1 hj).1; rw [prs_len, List.length_drop] at this; exact this
              rw [ea, own2.cellAt (0 * 2 + j) (by omega), ← hj]
              rw [show m ++ [([], [])] = m.take 0 ++ (m.drop 0 ++ [([], [])]) by rw [← List.append_assoc, List.take_append_drop], prs_append, List.getElem?_append_right (by rw [prs_len, List.length_take]; omega), prs_append, List.getElem?_append_left (by rw [prs_len, prs_len, List.length_take, List.length_drop]; omega)]
              congr 1
              rw [prs_len, List.length_take]
              omega
            have k3 : Hid ((0 + 1) * 2 + (prs (m.drop 0)).length ≤ cur3.toList.length) := by
              show _ ≤ _
              have hcl : cur3.toList.length = cur3.size := by simp
              rw [prs_len, List.length_drop]; omega
            have k4 : Hid (w2.heap[g3]? = some (.cells cur3.toList.toArray 52 (0, 0))) := by show _ = _; rw [hblk3]
            have k5 : Hid (cur3.toList.take ((m.length + 1) * 2) = prs (m ++ [([], [])])) := by show _ = _; rw [← htk3, hml]
            have k6 : Hid (cur3.size = cap3 * 2 ∧ cap3 ≤ maxLen ∧ k + 1 ≤ cap3) := ⟨hsz3, hm3, by omega⟩
            clear eA hA1 hblk3 htk3 own2 hsz3 hm3
            go_wp2
            go_region_law ((refine step_copy_sz rfl (.tmp 37) (.tmp 40) _ _ rfl 52 Try.underlying31 2 (by decide) size_pair A1 (some ⟨g3, 0, none⟩) k (cap3 - 1) (k + 1) cap3 (by simp [Act.eval, Act.put]) (by simp [Act.eval, Act.put]) g3 ((0 + 1) * 2) cur3.toList 52 k4.out (prs (m.drop 0)) k1.out k2.out k3.out (prs_one _) ?_; intro w4 hg4 gr4))
            have hbp4 : Blk w4 wr.heap.size 52 #[str p.1, str p.2] := (gr4.block _ hbp2.lt (fun e => hg3p (Option.some.inj e).symm)).trans hbp2
            have p0 := hbp4.cell 0
            have p1 := hbp4.cell 1
            obtain ⟨⟨old0, c40⟩, ⟨old1, c41⟩, f40, f41, own4⟩ := own_after_pair (p := p) hbg3 hg4.out (by omega) k3.out k5.out ⟨by rw [← k6.out.1]; simp, k6.out.2.1, by rw [hml]; exact k6.out.2.2⟩
            simp only [Nat.zero_mul, Nat.zero_add] at c40 c41 f40 f41
            have hb4 : Below w.heap.size w w4 := (below_drewN hb2 1).grown gr4 hb2.size (fun k hk => by cases hk; exact hbg3)
            go_wp2
            go_roundw
            case rel =>
              refine ⟨k + 1, some ⟨g3, 0, none⟩, cap3, by omega, by go_num, rfl, (hb4.setCell (p := ⟨g3, 0 * 2, none⟩) hbg3 _).setCell (p := ⟨g3, 0 * 2 + 1, none⟩) hbg3 _, ?_⟩
              rw [HI.out]
              rw [hml] at own4
              exact own4
            case measure => simp [intOf]; omega
        · obtain ⟨g2, rfl, hg2, hc2⟩ := hA2 (i - 1) (by omega)
          have e1 : (i : Int) - 1 = ((i - 1 : Nat) : Int) := by omega
          have hd : decide ((0 : Int) < (i : Int)) = true := by rw [decide_eq_true_iff]; omega
          cases hle : Op.bytesLess p.1 m[i - 1].1 with
          | true =>
            go_wp2
            go_quiet (fail)
            go_wp2
            go_roundw
            case rel =>
              refine ⟨i - 1, by omega, by go_num, fun j hj hji => ?_, q + nq, ?_⟩
              · by_cases e : j = i - 1
                · subst e; exact hle
                · exact hhi.out j hj (by omega)
              · rfl
            case measure => simp [intOf]; omega
          | false =>
            have hlo : Hid (∀ (h0 : 0 < i), lt p.1 (m[i - 1]'(by omega)).1 = false) := fun _ => hle
            go_wp2
            go_quiet (fail)
            clear hle
            have hoa := (show ((wr.alloc (.cells #[str p.1, str p.2] 52)).drewN (q + nq)).ownsRow _ _ _ _ _ _ from HO.out.alloc (.cells #[str p.1, str p.2] 52)).alloc (.cells #[str [], str []] 52)
            have hba : Below w.heap.size w (((wr.alloc (.cells #[str p.1, str p.2] 52)).drewN (q + nq)).alloc (.cells #[str [], str []] 52)) := Below.alloc (below_drewN (hB.alloc hB.size _) (q + nq)) (by have := hB.size; simp; omega) _
            have hbp : Blk (((wr.alloc (.cells #[str p.1, str p.2] 52)).drewN (q + nq)).alloc (.cells #[str [], str []] 52)) wr.heap.size 52 #[str p.1, str p.2] := Blk.alloc (w := (wr.alloc (.cells #[str p.1, str p.2] 52)).drewN (q + nq)) (Blk.new wr _ _) _
            go_wp2_with (at_builtin; refine wpList_append_own_at _ rfl (.tmp 30) (.tmp 32) _ rfl w.heap.size 52 i0 _ 2 32 Try.underlying31 hi0 hz0 hz1 hz2 rfl (by decide) _ _ _ rfl hoa ⟨_, 0, none⟩ 1 1 [str [], str []] rfl rfl ?pb1 ?pb2 ?pb3 ?pb4 hba.size ?_)
            try (case pb1 => exact news_two (by simp))
            try (case pb2 => first | rfl | (intro u hu; simp at hu; subst hu; rfl))
            try (case pb3 => simp [maxLen]; omega)
            try (case pb4 => omega)
            intro v2 w2 own2 gr2 _ hob2
            have hb2 : Below w.heap.size w w2 := hba.grown gr2 hba.size (fun k hk => (HO.out.lt k hk).1)
            have hbp2 : Blk w2 wr.heap.size 52 #[str p.1, str p.2] := (gr2.block _ hbp.lt (fun e => by have := (HO.out.lt _ e.symm).2; omega)).trans hbp
            have hob3 : ∀ b, v2.ownBlock = some b → b ≠ wr.heap.size := by
              intro b hb
              rcases hob2 with e | e
              · rw [e] at hb
                have := (HO.out.lt _ hb).2
                omega
              · rw [e] at hb
                have := Option.some.inj hb
                try simp at this
                omega
            rw [show prs m ++ [str [], str []] = prs (m ++ [([], [])]) by simp [prs]] at own2
            clear hoa hba gr2 hbp hob2
            rcases own2.2 with ⟨_, h⟩ | ⟨g3, cap3, cur3, rfl, hbg3, hblk3, hcap3, hm3, hsz3, htk3⟩
            · omega
            · have hg3p : g3 ≠ wr.heap.size := hob3 g3 rfl
              have hs1 := fun W => slice_from (P := Try.prog) 31 52 i0 2 Try.underlying31 hi0 hz1 (some ⟨g3, 0, none⟩) (k + 1) cap3 (i + 1) (by omega) W
              have hs2 := fun W => slice_from (P := Try.prog) 31 52 i0 2 Try.underlying31 hi0 hz1 (some ⟨g3, 0, none⟩) (k + 1) cap3 i (by omega) W
              have ei : ((i + 1 : Nat) : Int) = (i : Int) + 1 := by omega
              have eA : cutAt (some ⟨g3, 0, none⟩) i cap3 2 = some ⟨g3, i * 2, none⟩ := by rw [cutAt_in (by omega)]; simp
              obtain ⟨A1, hA1⟩ : ∃ A1, cutAt (some ⟨g3, 0, none⟩) (i + 1) cap3 2 = A1 := ⟨_, rfl⟩
              simp only [ei, hA1] at hs1
              simp only [eA] at hs2
              have hwr : IntKind.i64.wrap ((i : Int) + 1) = (i : Int) + 1 := IntWalk.i64_in _ (by omega)
              have hin : insP p m = m.take i ++ p :: m.drop i := insP_right p m hup.out i (by omega) hhi.out hlo.out
              have HI := Lib.hid (hm.out.trans hin)
              have k1 : Hid ((prs (m.drop i)).length = Nat.min (k + 1 - i) (k + 1 - (i + 1)) * 2) := by show (prs (m.drop i)).length = min (k + 1 - i) (k + 1 - (i + 1)) * 2; rw [prs_len, List.length_drop]; omega
              have k2 : Hid (0 < (prs (m.drop i)).length → A1 = some ⟨g3, (i + 1) * 2, none⟩ ∧ ∃ ad, (some (⟨g3, i * 2, none⟩ : Addr)) = some ad ∧ ∀ j v, (prs (m.drop i))[j]? = some v → w2.cell? (ad.add j) = some v) := by
                intro hp
                rw [prs_len, List.length_drop] at hp
                refine ⟨by rw [← hA1, cutAt_in (by omega)]; simp, _, rfl, fun j v hj => ?_⟩
                have ea : (⟨g3, i * 2, none⟩ : Addr).add j = ⟨g3, i * 2 + j, none⟩ := by unfold Addr.add; split <;> simp_all
                have hjl : j < (m.length - i) * 2 := by
                  have := (List.getElem?_eq_some_iff.1 hj).1; rw [prs_len, List.length_drop] at this; exact this
                rw [ea, own2.cellAt (i * 2 + j) (by omega), ← hj]
                rw [show m ++ [([], [])] = m.take i ++ (m.drop i ++ [([], [])]) by rw [← List.append_assoc, List.take_append_drop], prs_append, List.getElem?_append_right (by rw [prs_len, List.length_take]; omega), prs_append, List.getElem?_append_left (by rw [prs_len, prs_len, List.length_take, List.length_drop]; omega)]
                congr 1
                rw [prs_len, List.length_take]
                omega
              have k3 : Hid ((i + 1) * 2 + (prs (m.drop i)).length ≤ cur3.toList.length) := by
                show _ ≤ _
                have hcl : cur3.toList.length = cur3.size := by simp
                rw [prs_len, List.length_drop]; omega
              have k4 : Hid (w2.heap[g3]? = some (.cells cur3.toList.toArray 52 (0, 0))) := by show _ = _; rw [hblk3]
              have k5 : Hid (cur3.toList.take ((m.length + 1) * 2) = prs (m ++ [([], [])])) := by show _ = _; rw [← htk3, hml]
              have k6 : Hid (cur3.size = cap3 * 2 ∧ cap3 ≤ maxLen ∧ k + 1 ≤ cap3) := ⟨hsz3, hm3, by omega⟩
              clear ei eA hA1 hblk3 htk3 own2 hsz3 hm3
              go_wp2
              go_region_law ((refine step_copy_sz rfl (.tmp 37) (.tmp 40) _ _ rfl 52 Try.underlying31 2 (by decide) size_pair A1 (some ⟨g3, i * 2, none⟩) (k + 1 - (i + 1)) (cap3 - (i + 1)) (k + 1 - i) (cap3 - i) (by simp [Act.eval, Act.put]) (by simp [Act.eval, Act.put]) g3 ((i + 1) * 2) cur3.toList 52 k4.out (prs (m.drop i)) k1.out k2.out k3.out (prs_one _) ?_; intro w4 hg4 gr4))
              have hbp4 : Blk w4 wr.heap.size 52 #[str p.1, str p.2] := (gr4.block _ hbp2.lt (fun e => hg3p (Option.some.inj e).symm)).trans hbp2
              have p0 := hbp4.cell 0
              have p1 := hbp4.cell 1
              obtain ⟨⟨old0, c40⟩, ⟨old1, c41⟩, f40, f41, own4⟩ := own_after_pair (p := p) hbg3 hg4.out (by omega) k3.out k5.out ⟨by rw [← k6.out.1]; simp, k6.out.2.1, by rw [hml]; exact k6.out.2.2⟩
              have hb4 : Below w.heap.size w w4 := (below_drewN hb2 1).grown gr4 hb2.size (fun k hk => by cases hk; exact hbg3)
              go_wp2
              go_roundw
              case rel =>
                refine ⟨k + 1, some ⟨g3, 0, none⟩, cap3, by omega, by go_num, rfl, (hb4.setCell (p := ⟨g3, i * 2, none⟩) hbg3 _).setCell (p := ⟨g3, i * 2 + 1, none⟩) hbg3 _, ?_⟩
                rw [HI.out]
                rw [hml] at own4
                exact own4
              case measure => simp [intOf]; omega
    · have hf : Hid (sortP (l.take k) = sortP l) := by show _ = _; rw [List.take_of_length_le (by omega)]
      rw [hf.out] at hown
      obtain rfl : k = n := by omega
      go_wp2
      go_ret
      refine ⟨_, rfl, ?_, hB⟩
      rw [sortP_len, hl]
      exact hown
end Go.Proofs.Yteccopnlpllliaa
