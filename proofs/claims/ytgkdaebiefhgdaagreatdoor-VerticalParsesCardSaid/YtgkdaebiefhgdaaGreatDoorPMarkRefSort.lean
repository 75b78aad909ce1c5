/-
 The contract of the reference's SortPairs. Condition: at most 1099511627776 pairs.
-/
import Derived.Test.YtgkdaebiefhgdaaGreatDoorPMarkAll
namespace Go.Proofs.YtgkdaebiefhgdaaGreatDoor
open Go.RowKit Utf Tagp
open Feat (Bs lt lt_irrefl lt_tri lt_asymm)
attribute [local go_sem] byte_mk ByteArray.extract_mk
theorem not_lt_of_le {a b : Bs} (h : (Op.bytesLess a b || a == b) = true) : lt b a = false := by
 simp only [Bool.or_eq_true, beq_iff_eq] at h
 rcases h with h | rfl
 ·exact lt_asymm h
 ·exact lt_irrefl _
theorem lt_of_not_le' {a b : Bs} (h : (Op.bytesLess a b || a == b) = false) : lt b a = true := by
 simp only [Bool.or_eq_false_iff, beq_eq_false_iff_ne] at h
 rcases lt_tri b a with k | k | k
 ·exact k
 ·exact absurd k.symm h.2
 ·unfold lt at k; rw [h.1] at k; cases k

theorem step_grows {P : Program} {ops : Array Oper} {o : Oper} {a : Act} {w : World} {K : Act → World → Prop} {Q : Exit → Act → World → Prop} {E : Prop} (hgd : o.guard = none) (s x : Operand) (t : TypeId)
  (ho : o.op = .call { callee := .builtin .append, args := #[s, x], argTypes := #[t, t] })
  (e : TypeId) (i : TypeInfo) (z : Value) (size bytes : Nat) (ht : P.underlying t = some (.slice e)) (hi : P.info? e = some i) (hz : i.zero = some z) (hsize : i.size = size) (hby : i.bytes = bytes) (hzs : z.cells.size = size) (hsz : 0 < size)
  (ao : Option Addr) (n : Nat) (olds : List Value) (hs : a.eval s = .slice ao n n) (hlo : olds.length = n * size) (holds : 0 < olds.length → ∃ b, ao = some b ∧ ∀ j u, olds[j]? = some u → w.cell? (b.add j) = some u)
  (ad : Addr) (m c : Nat) (news : List Value) (hx : a.eval x = .slice (some ad) m c) (hn : news.length = m * size) (hc : ∀ j u, news[j]? = some u → w.cell? (ad.add j) = some u) (h1c : ∀ u ∈ news, u.oneCell' = true)
  (hm : 0 < m) (b1 : n + m ≤ maxLen) (b2 : (n + m) * bytes ≤ 140737488355328)
  (h : ∀ v' w', w'.ownsRow w.heap.size e size v' (n + m) (olds ++ news) → w.grownBy w' none → K (a.put o.dst v') w') :
  if Region.wanted o (yielded ops a.tmps) = true then Oper.wp P o a w K Q else E := by
 have hw : Region.wanted o (yielded ops a.tmps) = true := by simp [Region.wanted, hgd]
 rw [if_pos hw]
 cases ao with
 | some b =>
  have hold' : ∀ j u, olds[j]? = some u → w.cell? (b.add j) = some u := by
   intro j u hj
   obtain ⟨b', e', hb⟩ := holds (by have := (List.getElem?_eq_some_iff.1 hj).1; omega)
   cases e'
   exact hb j u hj
  obtain ⟨v', w', hrun, r1, r2⟩ := run_append_arg_grows (P := P) w t o.type e i z size bytes ht hi hz hsize hby hzs hsz b n n olds hlo hold' ad m c news hn hc (by omega) b1 b2
  unfold Oper.wp execOp
  simp only [ho, resolve, invoke, builtin, Sem.run_bind, Sem.run_pure, Result.andThen_ok, List.map_toArray, List.map_cons, List.map_nil, hs, hx, hrun]
  exact h v' w' r1 r2
 | none =>
  have h0 : olds.length = 0 := by
   rcases Nat.eq_zero_or_pos olds.length with k | k
   ·exact k
   ·obtain ⟨_, e', _⟩ := holds k; cases e'
  obtain rfl : olds = [] := List.eq_nil_of_length_eq_zero h0
  obtain rfl : n = 0 := by
   rcases Nat.eq_zero_or_pos n with k | k
   ·exact k
   ·have := Nat.mul_pos k hsz; simp at hlo; omega
  obtain ⟨v', w', hrun, r1, r2, _⟩ := run_append_own (P := P) w w.heap.size t o.type e i z size bytes ht hi hz hsize hby hzs hsz (.slice none 0 0) 0 [] (World.ownsRow_nil w _ e size) ad m c news hn hc h1c b1 b2 (Nat.le_refl _)
  unfold Oper.wp execOp
  simp only [ho, resolve, invoke, builtin, Sem.run_bind, Sem.run_pure, Result.andThen_ok, List.map_toArray, List.map_cons, List.map_nil, hs, hx, hrun]
  exact h v' w' r1 r2
theorem slice_upto {P : Program} (t e : TypeId) (i : TypeInfo) (ht : P.underlying t = some (.slice e)) (hi : P.info? e = some i)
  (A : Option Addr) (len cap k : Nat) (hk : k ≤ cap) (w : World) :
  (Instr.slice t (.slice A len cap) none (some (.int .i64 (k : Int))) (some (.int .i64 (k : Int)))).run P w = .ok (.slice A k k) w := by
 have he : P.elem t = e := by simp [Program.elem, ht]
 have h := run_slice_hm (P := P) (w := w) t A len cap (by rw [he]; exact ht) .i64 .i64 (k : Int) (k : Int) (by omega) (by omega) (by omega)
 rw [h, he]
 cases A <;> simp [sizeOf, typeInfo, hi, sliced, Result.andThen, Addr.add]
theorem own_pos {w : World} {base sz n : Nat} {v : Value} {e : TypeId} {xs : List Value} (h : w.ownsRow base e sz v n xs) (hn : 0 < n) : ∃ g c, v = .slice (some ⟨g, 0, none⟩) n c ∧ base ≤ g ∧ g < w.heap.size ∧ n ≤ c ∧ ∀ j u, xs[j]? = some u → w.cell? ((⟨g, 0, none⟩ : Addr).add j) = some u := by
 rcases h.2 with ⟨_, k⟩ | ⟨g, cap, cur, rfl, hg, hb, hc, _⟩
 ·omega
 ·exact ⟨g, cap, rfl, hg, (Array.getElem?_eq_some_iff.1 hb).1, hc, h.cells rfl⟩
theorem own_two (w : World) (e : TypeId) (a b : Value) (base : Nat) (hb : base ≤ w.heap.size) : (w.alloc (.cells #[a, b] e)).ownsRow base e 2 (.slice (some ⟨w.heap.size, 0, none⟩) 1 1) 1 [a, b] :=
 ⟨rfl, .inr ⟨w.heap.size, 1, #[a, b], rfl, hb, heap_alloc_new w _, Nat.le_refl _, by simp [maxLen], rfl, rfl⟩⟩

theorem sl_drop {w : World} {B n k cap : Nat} {A : Option Addr} {l : List KV} (h : Sl w B 2 A n (prs l)) (hc : n ≤ cap) : Src w (cutAt A k cap 2) (prs (l.drop k)) := by
 intro hp
 rw [prs_len, List.length_drop] at hp
 have hl : l.length = n := by have := h.1; rw [prs_len] at this; omega
 obtain ⟨g, o, rfl, hg, hcell⟩ := h.2 (by rw [prs_len]; omega)
 refine ⟨_, cutAt_in (by omega), fun j u hj => ?_⟩
 have ea : (⟨g, o + k * 2, none⟩ : Addr).add j = ⟨g, o + (k * 2 + j), none⟩ := by unfold Addr.add; split <;> simp_all [Nat.add_assoc]
 rw [ea]
 refine hcell _ u ?_
 rw [← hj]
 conv => lhs; rw [← List.take_append_drop k l, prs_append]
 rw [List.getElem?_append_right (by rw [prs_len, List.length_take]; omega)]
 congr 1
 rw [prs_len, List.length_take]
 omega
theorem sl_olds {w : World} {B n k : Nat} {A : Option Addr} {l : List KV} (h : Sl w B 2 A n (prs l)) : 0 < (prs (l.take k)).length → ∃ b, A = some b ∧ ∀ j u, (prs (l.take k))[j]? = some u → w.cell? (b.add j) = some u := by
 intro hp
 rw [prs_len, List.length_take] at hp
 obtain ⟨g, o, rfl, hg, hcell⟩ := h.2 (by rw [prs_len]; omega)
 refine ⟨_, rfl, fun j u hj => ?_⟩
 have ea : (⟨g, o, none⟩ : Addr).add j = ⟨g, o + j, none⟩ := by unfold Addr.add; split <;> simp_all
 rw [ea]
 refine hcell _ u ?_
 have hjl := (List.getElem?_eq_some_iff.1 hj).1
 rw [← hj]
 conv => lhs; rw [← List.take_append_drop k l, prs_append]
 exact List.getElem?_append_left hjl

set_option maxRecDepth 100000 in
set_option maxHeartbeats 1600000 in
theorem sortPairs_any (A : Option Addr) (n c : Nat) (l : List KV) (w : World) (hn : n ≤ 1099511627776) (h : Sl w w.heap.size 2 A n (prs l)) :
  Calls Tryz.prog 112 #[.slice A n c] w (Pairs w.heap.size (sortP l) w) := by
 have hl : l.length = n := by have := h.1; rw [prs_len] at this; omega
 obtain ⟨i0, hi0, hz0, hz1, hz2⟩ := info_parts info_pairM
 go_enter Tryz.func112, Tryz.ntmps112
 go_wp2
 go_loopw [9, 3] (fun iv ov wr => ∃ (k : Nat) (A2 : Option Addr) (cap2 : Nat), k ≤ n ∧ iv = .int .i64 k ∧ ov = .slice A2 k cap2 ∧ k ≤ cap2 ∧ Below w.heap.size w wr ∧ wr.ownsRow w.heap.size 84 2 (.slice A2 k cap2) k (prs (sortP (l.take k)))) (fun iv _ _ => n - (intOf iv).toNat)
 case atStart => exact ⟨0, none, 0, by omega, rfl, rfl, Nat.le_refl _, Below.refl _ _, World.ownsRow_nil _ _ _ _⟩
 case round =>
  obtain ⟨k, A2, cap2, hk, rfl, rfl, hkc, hB, hown⟩ := hrel
  by_cases hlt : k < n
  ·obtain ⟨g, o, hk', rfl, hg, c0, c1⟩ := sl_pair (h.under hB) hlt
   have hm : Hid (sortP (l.take (k + 1)) = insP l[k] (sortP (l.take k))) := sortP_take l k hk'
   have hml : (sortP (l.take k)).length = k := by rw [sortP_len, List.length_take]; omega
   obtain ⟨m, hmm⟩ : ∃ m, sortP (l.take k) = m := ⟨_, rfl⟩
   obtain ⟨p, hp⟩ : ∃ p, l[k] = p := ⟨_, rfl⟩
   rw [hmm] at hm hml hown
   rw [hp] at hm c0 c1
   have hA2 : ∀ j (hj : j < m.length), ∃ g2, A2 = some ⟨g2, 0, none⟩ ∧ g2 < wr.heap.size ∧ wr.cell? ⟨g2, j * 2, none⟩ = some (str m[j].1) := by
    rcases hown.2 with ⟨hv, hn0⟩ | ⟨g2, cap3, cur, hv, hbg, hblk, _⟩
    ·intro j hj; omega
    ·intro j hj
     cases hv
     exact ⟨g2, rfl, (Array.getElem?_eq_some_iff.1 hblk).1, (own_pair hown j hj).1⟩
   have hsl := own_sl hown
   clear hown hmm hp
   rename World => wo
   go_wp2
   go_loopw [6] (fun iv wx => ∃ i : Nat, i ≤ k ∧ iv = .int .i64 i ∧ Hid (∀ j (hj : j < m.length), j < i → lt p.1 m[j].1 = false) ∧ ∃ q, wx = (wo.alloc (.cells #[str p.1, str p.2] 84)).drewN q) (fun iv _ => k - (intOf iv).toNat)
   case atStart => exact ⟨0, Nat.zero_le _, rfl, fun j hj h => by omega, 0, rfl⟩
   case round =>
    obtain ⟨i, hi, rfl, hlo, q, rfl⟩ := hrel
    by_cases hik : i < k
    ·obtain ⟨g2, rfl, hg2, hc2⟩ := hA2 i (by omega)
     cases hle : (Op.bytesLess m[i].1 p.1 || m[i].1 == p.1) with
     | true =>
      go_wp2
      go_quiet (fail)
      go_wp2
      go_roundw
      case rel =>
       refine ⟨i + 1, by omega, by go_num, fun j hj hji => ?_, q + nq, ?_⟩
       ·by_cases e : j = i
        ·subst e; exact not_lt_of_le hle
        ·exact hlo.out j hj (by omega)
       ·rfl
      case measure => simp [intOf]; omega
     | false =>
      have HI := Lib.hid (hm.out.trans (insP_place p m i (by omega) hlo.out (fun _ => lt_of_not_le' hle)))
      go_wp2
      go_quiet (fail)
      go_wp2
      have hs1 := fun W => slice_upto (P := Tryz.prog) 64 84 i0 Tryz.underlying64 hi0 (some ⟨g2, 0, none⟩) k cap2 i (by omega) W
      have hs2 := fun W => slice_from (P := Tryz.prog) 64 84 i0 2 Tryz.underlying64 hi0 hz1 (some ⟨g2, 0, none⟩) k cap2 i (by omega) W
      have hsrc := fun W (hW : Below wo.heap.size wo W) => sl_drop (k := i) (hsl.under hW) hkc
      obtain ⟨A1, hA1⟩ : ∃ A1, cutAt (some ⟨g2, 0, none⟩) i cap2 2 = A1 := ⟨_, rfl⟩
      simp only [hA1] at hs2 hsrc
      have hold := fun W (hW : Below wo.heap.size wo W) => sl_olds (k := i) (hsl.under hW)
      have hBp : Below wo.heap.size wo ((wo.alloc (.cells #[str p.1, str p.2] 84)).drewN (q + nq + 1)) := below_drewN ((Below.refl _ _).alloc (Nat.le_refl _) _) _
      have hBq : Below wo.heap.size wo (((wo.alloc (.cells #[str p.1, str p.2] 84)).drewN (q + nq + 1)).alloc (.cells #[str p.1, str p.2] 84)) := hBp.alloc hBp.size _
      have hown1 := own_two ((wo.alloc (.cells #[str p.1, str p.2] 84)).drewN (q + nq + 1)) 84 (str p.1) (str p.2) wo.heap.size hBp.size
      rw [show ((wo.alloc (.cells #[str p.1, str p.2] 84)).drewN (q + nq + 1)).heap.size = wo.heap.size + 1 by show (wo.alloc _).heap.size = _; simp] at hown1
      have k1 : Hid ((prs (m.drop i)).length = (k - i) * 2) := by show _ = _; rw [prs_len, List.length_drop]; omega
      have k2 : Hid ((prs (m.take i)).length = i * 2) := by show _ = _; rw [prs_len, List.length_take]; omega
      clear hA1 hsl
      go_wp2
      go_region_law (first
       | ((refine step_app _ rfl (.tmp 34) (.tmp 37) _ rfl wo.heap.size 84 i0 _ 2 32 Tryz.underlying64 hi0 hz0 hz1 hz2 rfl (by decide) (.slice (some ⟨wo.heap.size + 1, 0, none⟩) 1 1) 1 [str p.1, str p.2] (by simp [Act.eval]) hown1 A1 (k - i) (cap2 - i) (prs (m.drop i)) (by simp [Act.eval]) k1.out (hsrc _ hBq) (prs_one _) (by simp [maxLen]; omega) (by omega) hBq.size ?_; intro v8 w8 own8 gr8 ob8; have hB8 : Below wo.heap.size wo w8 := hBq.grown gr8 hBq.size (fun b e => by cases e; exact Nat.le_succ _); obtain ⟨g8, c8, rfl, hb8, hg8, hcap8, hcell8⟩ := own_pos own8 (by omega)))
       | ((refine step_grows rfl (.tmp 32) (.tmp 38) _ rfl 84 i0 _ 2 32 Tryz.underlying64 hi0 hz0 hz1 hz2 rfl (by decide) (some ⟨g2, 0, none⟩) i (prs (m.take i)) (by simp [Act.eval]) k2.out (hold _ hB8) ⟨g8, 0, none⟩ (1 + (k - i)) c8 ([str p.1, str p.2] ++ prs (m.drop i)) (by simp [Act.eval]) own8.1 hcell8 (fun u hu => by rcases List.mem_append.1 hu with h | h; exact prs_one [p] u h; exact prs_one _ u h) (by omega) (by simp [maxLen]; omega) (by omega) ?_; intro v9 w9 own9 gr9; obtain ⟨g9, c9, rfl, hb9, hg9, hcap9, -⟩ := own_pos own9 (by omega))))
      all_goals
       have hB9 : Below wo.heap.size wo w9 := hB8.grown gr9 hB8.size (fun b e => by cases e)
       go_wp2
       go_roundw
       case rel =>
        have e1 : i + (1 + (k - i)) = k + 1 := by omega
        rw [e1] at own9 hcap9
        refine ⟨k + 1, some ⟨g9, 0, none⟩, c9, by omega, by go_num, by rw [e1], hcap9, hB.trans (Below.mono hB9 hB.size), ?_⟩
        rw [HI.out]
        have e2 : prs (m.take i) ++ ([str p.1, str p.2] ++ prs (m.drop i)) = prs (m.take i ++ p :: m.drop i) := by simp [prs]
        rw [e2] at own9
        exact own_base own9 (Nat.le_trans hB.size hB8.size)
       case measure => simp [intOf]; omega
    ·have hik2 : decide ((i : Int) < (k : Int)) = false := by rw [decide_eq_false_iff_not]; omega
     have HI := Lib.hid (hm.out.trans (insP_place p m i (by omega) hlo.out (fun h => by omega)))
     go_wp2
     go_quiet (fail)
     go_wp2
     have hs1 := fun W => slice_upto (P := Tryz.prog) 64 84 i0 Tryz.underlying64 hi0 A2 k cap2 i (by omega) W
     have hs2 := fun W => slice_from (P := Tryz.prog) 64 84 i0 2 Tryz.underlying64 hi0 hz1 A2 k cap2 i (by omega) W
     have hsrc := fun W (hW : Below wo.heap.size wo W) => sl_drop (k := i) (hsl.under hW) hkc
     obtain ⟨A1, hA1⟩ : ∃ A1, cutAt A2 i cap2 2 = A1 := ⟨_, rfl⟩
     simp only [hA1] at hs2 hsrc
     have hold := fun W (hW : Below wo.heap.size wo W) => sl_olds (k := i) (hsl.under hW)
     have hBp : Below wo.heap.size wo ((wo.alloc (.cells #[str p.1, str p.2] 84)).drewN (q + nq + 1)) := below_drewN ((Below.refl _ _).alloc (Nat.le_refl _) _) _
     have hBq : Below wo.heap.size wo (((wo.alloc (.cells #[str p.1, str p.2] 84)).drewN (q + nq + 1)).alloc (.cells #[str p.1, str p.2] 84)) := hBp.alloc hBp.size _
     have hown1 := own_two ((wo.alloc (.cells #[str p.1, str p.2] 84)).drewN (q + nq + 1)) 84 (str p.1) (str p.2) wo.heap.size hBp.size
     rw [show ((wo.alloc (.cells #[str p.1, str p.2] 84)).drewN (q + nq + 1)).heap.size = wo.heap.size + 1 by show (wo.alloc _).heap.size = _; simp] at hown1
     have k1 : Hid ((prs (m.drop i)).length = (k - i) * 2) := by show _ = _; rw [prs_len, List.length_drop]; omega
     have k2 : Hid ((prs (m.take i)).length = i * 2) := by show _ = _; rw [prs_len, List.length_take]; omega
     clear hA1 hsl
     go_wp2
     go_region_law (first
      | ((refine step_app _ rfl (.tmp 34) (.tmp 37) _ rfl wo.heap.size 84 i0 _ 2 32 Tryz.underlying64 hi0 hz0 hz1 hz2 rfl (by decide) (.slice (some ⟨wo.heap.size + 1, 0, none⟩) 1 1) 1 [str p.1, str p.2] (by simp [Act.eval]) hown1 A1 (k - i) (cap2 - i) (prs (m.drop i)) (by simp [Act.eval]) k1.out (hsrc _ hBq) (prs_one _) (by simp [maxLen]; omega) (by omega) hBq.size ?_; intro v8 w8 own8 gr8 ob8; have hB8 : Below wo.heap.size wo w8 := hBq.grown gr8 hBq.size (fun b e => by cases e; exact Nat.le_succ _); obtain ⟨g8, c8, rfl, hb8, hg8, hcap8, hcell8⟩ := own_pos own8 (by omega)))
      | ((refine step_grows rfl (.tmp 32) (.tmp 38) _ rfl 84 i0 _ 2 32 Tryz.underlying64 hi0 hz0 hz1 hz2 rfl (by decide) A2 i (prs (m.take i)) (by simp [Act.eval]) k2.out (hold _ hB8) ⟨g8, 0, none⟩ (1 + (k - i)) c8 ([str p.1, str p.2] ++ prs (m.drop i)) (by simp [Act.eval]) own8.1 hcell8 (fun u hu => by rcases List.mem_append.1 hu with h | h; exact prs_one [p] u h; exact prs_one _ u h) (by omega) (by simp [maxLen]; omega) (by omega) ?_; intro v9 w9 own9 gr9; obtain ⟨g9, c9, rfl, hb9, hg9, hcap9, -⟩ := own_pos own9 (by omega))))
     all_goals
      have hB9 : Below wo.heap.size wo w9 := hB8.grown gr9 hB8.size (fun b e => by cases e)
      go_wp2
      go_roundw
      case rel =>
       have e1 : i + (1 + (k - i)) = k + 1 := by omega
       rw [e1] at own9 hcap9
       refine ⟨k + 1, some ⟨g9, 0, none⟩, c9, by omega, by go_num, by rw [e1], hcap9, hB.trans (Below.mono hB9 hB.size), ?_⟩
       rw [HI.out]
       have e2 : prs (m.take i) ++ ([str p.1, str p.2] ++ prs (m.drop i)) = prs (m.take i ++ p :: m.drop i) := by simp [prs]
       rw [e2] at own9
       exact own_base own9 (Nat.le_trans hB.size hB8.size)
      case measure => simp [intOf]; omega
  ·have hf : Hid (sortP (l.take k) = sortP l) := by show _ = _; rw [List.take_of_length_le (by omega)]
   rw [hf.out] at hown
   obtain rfl : k = n := by omega
   go_wp2
   go_ret
   refine ⟨_, rfl, ?_, hB⟩
   rw [sortP_len, hl]
   exact hown
end Go.Proofs.YtgkdaebiefhgdaaGreatDoor
