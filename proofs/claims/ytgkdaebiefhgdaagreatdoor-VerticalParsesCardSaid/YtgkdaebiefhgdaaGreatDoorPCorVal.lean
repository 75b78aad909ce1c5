/-
 The contract of the program's Validate. Conditions: none but that a corpus reads as it does.
-/
import Derived.Test.YtgkdaebiefhgdaaGreatDoorPCorHead
import Derived.Test.YtgkdaebiefhgdaaGreatDoorPCorAtx
import Derived.Test.YtgkdaebiefhgdaaGreatDoorPCorRegW
namespace Go.Proofs.YtgkdaebiefhgdaaGreatDoor
open Go.RowKit Utf
open Cor (C check atErr tkErr txErr rgErr ndErr hdErr)
def pE (c : C) : Nat → Nat × Nat
 | 0 => atErr c.attrs
 | 1 => tkErr c.attrs c.toks
 | 2 => txErr c.toks.length c.texts
 | 3 => rgErr c.texts c.regs
 | 4 => ndErr c.texts c.nods
 | 5 => hdErr c.toks.length c.texts c.heads c.rels
 | _ => (0, 0)
theorem check_at {c : C} {j : Nat} (hj : j < 6) (h : ∀ i, i < j → (pE c i).2 = 0) (hf : (pE c j).2 ≠ 0) : check c = (j + 1, pE c j) := by
 unfold check
 rcases (show j = 0 ∨ j = 1 ∨ j = 2 ∨ j = 3 ∨ j = 4 ∨ j = 5 by omega) with rfl | rfl | rfl | rfl | rfl | rfl
 ·rw [if_pos (show (atErr c.attrs).2 ≠ 0 from hf)]; rfl
 ·rw [if_neg (by have : (atErr c.attrs).2 = 0 := h 0 (by omega); omega), if_pos (show (tkErr c.attrs c.toks).2 ≠ 0 from hf)]; rfl
 ·rw [if_neg (by have : (atErr c.attrs).2 = 0 := h 0 (by omega); omega), if_neg (by have : (tkErr c.attrs c.toks).2 = 0 := h 1 (by omega); omega), if_pos (show (txErr c.toks.length c.texts).2 ≠ 0 from hf)]; rfl
 ·rw [if_neg (by have : (atErr c.attrs).2 = 0 := h 0 (by omega); omega), if_neg (by have : (tkErr c.attrs c.toks).2 = 0 := h 1 (by omega); omega), if_neg (by have : (txErr c.toks.length c.texts).2 = 0 := h 2 (by omega); omega), if_pos (show (rgErr c.texts c.regs).2 ≠ 0 from hf)]; rfl
 ·rw [if_neg (by have : (atErr c.attrs).2 = 0 := h 0 (by omega); omega), if_neg (by have : (tkErr c.attrs c.toks).2 = 0 := h 1 (by omega); omega), if_neg (by have : (txErr c.toks.length c.texts).2 = 0 := h 2 (by omega); omega),
   if_neg (by have : (rgErr c.texts c.regs).2 = 0 := h 3 (by omega); omega), if_pos (show (ndErr c.texts c.nods).2 ≠ 0 from hf)]; rfl
 ·rw [if_neg (by have : (atErr c.attrs).2 = 0 := h 0 (by omega); omega), if_neg (by have : (tkErr c.attrs c.toks).2 = 0 := h 1 (by omega); omega), if_neg (by have : (txErr c.toks.length c.texts).2 = 0 := h 2 (by omega); omega),
   if_neg (by have : (rgErr c.texts c.regs).2 = 0 := h 3 (by omega); omega), if_neg (by have : (ndErr c.texts c.nods).2 = 0 := h 4 (by omega); omega), if_pos (show (hdErr c.toks.length c.texts c.heads c.rels).2 ≠ 0 from hf)]; rfl
theorem check_all {c : C} (h : ∀ i, i < 6 → (pE c i).2 = 0) : check c = (0, 0, 0) := by
 unfold check
 rw [if_neg (by have : (atErr c.attrs).2 = 0 := h 0 (by omega); omega), if_neg (by have : (tkErr c.attrs c.toks).2 = 0 := h 1 (by omega); omega), if_neg (by have : (txErr c.toks.length c.texts).2 = 0 := h 2 (by omega); omega),
  if_neg (by have : (rgErr c.texts c.regs).2 = 0 := h 3 (by omega); omega), if_neg (by have : (ndErr c.texts c.nods).2 = 0 := h 4 (by omega); omega), if_neg (by have : (hdErr c.toks.length c.texts c.heads c.rels).2 = 0 := h 5 (by omega); omega)]
theorem tk_len {us : List At} {l : List (List Feat.Bs)} (h : (tkErr us l).2 = 0) : l.length ≤ 4096 := by
 unfold tkErr at h
 by_cases h1 : 4096 < l.length
 ·rw [if_pos h1] at h; cases h
 ·omega
def Valed (c : C) (w : World) (e : Ending) (w' : World) : Prop := e = .returned (.tuple #[.int .i64 ((check c).1 : Nat), .int .i64 ((check c).2.1 : Nat), .int .i64 ((check c).2.2 : Nat)]) ∧ Below w.heap.size w w'
theorem valed {c : C} {w w' : World} {p : Nat × Nat × Nat} (h : check c = p) {a b d : Int} (h1 : (p.1 : Int) = a) (h2 : (p.2.1 : Int) = b) (h3 : (p.2.2 : Int) = d) (hb : Below w.heap.size w w') :
  Valed c w (.returned (.tuple #[.int .i64 a, .int .i64 b, .int .i64 d])) w' := by
 unfold Valed; rw [h, h1, h2, h3]; exact ⟨rfl, hb⟩

set_option maxRecDepth 100000 in
set_option maxHeartbeats 8000000 in
theorem validate_any (H : CH) (c : C) (w : World) (hr0 : Reads w w.heap.size H c) : Calls Tryz.prog 55 #[H.v] w (Valed c w) := by
 obtain ⟨ha, ht, hX, hr, hn, hh, hl⟩ := H
 show Calls Tryz.prog 55 #[.agg #[ha.v, ht.v, hX.v, hr.v, hn.v, hh.v, hl.v]] w _
 have hft : Hid (Fit ht) := hr0.t.fit
 have HTL : Hid (c.toks.length = ht.n) := hr0.t.len
 have hB0 := ((Below.refl w.heap.size w).alloc (Nat.le_refl _) (.cells #[ha.v, ht.v, hX.v, hr.v, hn.v, hh.v, hl.v] 30)).alloc (by simp) (.cells #[.func (.func 88) #[] #[], .func (.func 89) #[] #[], .func (.func 90) #[] #[], .func (.func 91) #[] #[], .func (.func 92) #[] #[], .func (.func 93) #[] #[]] 128)
 have hb0 := (Blk.new w 30 #[ha.v, ht.v, hX.v, hr.v, hn.v, hh.v, hl.v]).alloc (.cells #[.func (.func 88) #[] #[], .func (.func 89) #[] #[], .func (.func 90) #[] #[], .func (.func 91) #[] #[], .func (.func 92) #[] #[], .func (.func 93) #[] #[]] 128)
 have hp0 := Blk.new (w.alloc (.cells #[ha.v, ht.v, hX.v, hr.v, hn.v, hh.v, hl.v] 30)) 128 #[.func (.func 88) #[] #[], .func (.func 89) #[] #[], .func (.func 90) #[] #[], .func (.func 91) #[] #[], .func (.func 92) #[] #[], .func (.func 93) #[] #[]]
 rw [World.size_alloc] at hp0
 go_enter Tryz.func55, Tryz.ntmps55
 go_wp2
 go_loopw [13] (fun iv wr => ∃ k : Nat, k ≤ 6 ∧ iv = .int .i64 k ∧ Below w.heap.size w wr ∧ Blk wr w.heap.size 30 #[ha.v, ht.v, hX.v, hr.v, hn.v, hh.v, hl.v] ∧ Blk wr (w.heap.size + 1) 128 #[.func (.func 88) #[] #[], .func (.func 89) #[] #[], .func (.func 90) #[] #[], .func (.func 91) #[] #[], .func (.func 92) #[] #[], .func (.func 93) #[] #[]] ∧ Hid (∀ i, i < k → (pE c i).2 = 0)) (fun iv _ => 6 - (intOf iv).toNat)
 case atStart => exact ⟨0, by omega, rfl, hB0, hb0, hp0, fun j hj => by omega⟩
 case round =>
  obtain ⟨k, hk, rfl, hB, hbx, hpp, HP⟩ := hrel
  have hR := (hr0.under hB).up hB.size
  have b0 := hbx.cell 0
  have b1 := hbx.cell 1
  have b2 := hbx.cell 2
  have b3 := hbx.cell 3
  have b4 := hbx.cell 4
  have b5 := hbx.cell 5
  have b6 := hbx.cell 6
  have p0 := hpp.cell 0
  have p1 := hpp.cell 1
  have p2 := hpp.cell 2
  have p3 := hpp.cell 3
  have p4 := hpp.cell 4
  have p5 := hpp.cell 5
  rcases (show k = 0 ∨ k = 1 ∨ k = 2 ∨ k = 3 ∨ k = 4 ∨ k = 5 ∨ k = 6 by omega) with rfl | rfl | rfl | rfl | rfl | rfl | rfl
  ·have HC := Lib.hid (attributes_any ⟨ha, ht, hX, hr, hn, hh, hl⟩ c.attrs wr hR.a)
   have hpe : Hid (pE c 0 = atErr c.attrs) := rfl
   go_wp2_with fail
   refine HC.out.mono ?_
   rintro e' w2 ⟨rfl, hb2⟩
   clear HC
   have hB2 := hB.trans (hb2.mono hB.size)
   have hbx2 := hbx.below hb2
   have hpp2 := hpp.below hb2
   obtain ⟨⟨u, v⟩, huv⟩ : ∃ p, atErr c.attrs = p := ⟨_, rfl⟩
   rw [huv] at hpe
   simp only [huv]
   clear huv
   by_cases he : v = 0
   ·have E : ((v : Int) != 0) = false := by rw [he]; rfl
    have HI : Hid (∀ i, i < 0 + 1 → (pE c i).2 = 0) := by
     intro i hi
     by_cases ei : i = 0
     ·subst ei; rw [hpe.out]; exact he
     ·exact HP.out i (by omega)
    clear he hpe HP
    go_wp2
    go_roundw
    case rel => exact ⟨0 + 1, by omega, by first | rfl | go_num, hB2, hbx2, hpp2, HI⟩
    case measure => simp [intOf]
   ·have E : ((v : Int) != 0) = true := by rw [bne_iff_ne]; omega
    have HF : Hid (check c = (0 + 1, (u, v))) := by
     show _ = _
     rw [check_at (by omega) HP.out (by rw [hpe.out]; exact he), hpe.out]
    clear he hpe HP
    go_wp2
    go_ret3
    exact valed HF.out rfl rfl rfl hB2
  ·have HC := Lib.hid (tokens_any ⟨ha, ht, hX, hr, hn, hh, hl⟩ c.attrs c.toks wr hR.a hR.t)
   have hpe : Hid (pE c 1 = tkErr c.attrs c.toks) := rfl
   go_wp2_with fail
   refine HC.out.mono ?_
   rintro e' w2 ⟨rfl, hb2⟩
   clear HC
   have hB2 := hB.trans (hb2.mono hB.size)
   have hbx2 := hbx.below hb2
   have hpp2 := hpp.below hb2
   obtain ⟨⟨u, v⟩, huv⟩ : ∃ p, tkErr c.attrs c.toks = p := ⟨_, rfl⟩
   rw [huv] at hpe
   simp only [huv]
   clear huv
   by_cases he : v = 0
   ·have E : ((v : Int) != 0) = false := by rw [he]; rfl
    have HI : Hid (∀ i, i < 1 + 1 → (pE c i).2 = 0) := by
     intro i hi
     by_cases ei : i = 1
     ·subst ei; rw [hpe.out]; exact he
     ·exact HP.out i (by omega)
    clear he hpe HP
    go_wp2
    go_roundw
    case rel => exact ⟨1 + 1, by omega, by first | rfl | go_num, hB2, hbx2, hpp2, HI⟩
    case measure => simp [intOf]
   ·have E : ((v : Int) != 0) = true := by rw [bne_iff_ne]; omega
    have HF : Hid (check c = (1 + 1, (u, v))) := by
     show _ = _
     rw [check_at (by omega) HP.out (by rw [hpe.out]; exact he), hpe.out]
    clear he hpe HP
    go_wp2
    go_ret3
    exact valed HF.out rfl rfl rfl hB2
  ·have HC := Lib.hid (texts_any ⟨ha, ht, hX, hr, hn, hh, hl⟩ c.texts wr hft.out hR.x)
   have hpe : Hid (pE c 2 = txErr ht.n c.texts) := (by show _ = _; rw [← HTL.out]; rfl)
   go_wp2_with fail
   refine HC.out.mono ?_
   rintro e' w2 ⟨rfl, hb2⟩
   clear HC
   have hB2 := hB.trans (hb2.mono hB.size)
   have hbx2 := hbx.below hb2
   have hpp2 := hpp.below hb2
   obtain ⟨⟨u, v⟩, huv⟩ : ∃ p, txErr ht.n c.texts = p := ⟨_, rfl⟩
   rw [huv] at hpe
   simp only [huv]
   clear huv
   by_cases he : v = 0
   ·have E : ((v : Int) != 0) = false := by rw [he]; rfl
    have HI : Hid (∀ i, i < 2 + 1 → (pE c i).2 = 0) := by
     intro i hi
     by_cases ei : i = 2
     ·subst ei; rw [hpe.out]; exact he
     ·exact HP.out i (by omega)
    clear he hpe HP
    go_wp2
    go_roundw
    case rel => exact ⟨2 + 1, by omega, by first | rfl | go_num, hB2, hbx2, hpp2, HI⟩
    case measure => simp [intOf]
   ·have E : ((v : Int) != 0) = true := by rw [bne_iff_ne]; omega
    have HF : Hid (check c = (2 + 1, (u, v))) := by
     show _ = _
     rw [check_at (by omega) HP.out (by rw [hpe.out]; exact he), hpe.out]
    clear he hpe HP
    go_wp2
    go_ret3
    exact valed HF.out rfl rfl rfl hB2
  ·have HC := Lib.hid (regions_any ⟨ha, ht, hX, hr, hn, hh, hl⟩ c.texts c.regs wr hR.x (texts_ok (HP.out 2 (by omega))).1.row hR.r)
   have hpe : Hid (pE c 3 = rgErr c.texts c.regs) := rfl
   go_wp2_with fail
   refine HC.out.mono ?_
   rintro e' w2 ⟨rfl, hb2⟩
   clear HC
   have hB2 := hB.trans (hb2.mono hB.size)
   have hbx2 := hbx.below hb2
   have hpp2 := hpp.below hb2
   obtain ⟨⟨u, v⟩, huv⟩ : ∃ p, rgErr c.texts c.regs = p := ⟨_, rfl⟩
   rw [huv] at hpe
   simp only [huv]
   clear huv
   by_cases he : v = 0
   ·have E : ((v : Int) != 0) = false := by rw [he]; rfl
    have HI : Hid (∀ i, i < 3 + 1 → (pE c i).2 = 0) := by
     intro i hi
     by_cases ei : i = 3
     ·subst ei; rw [hpe.out]; exact he
     ·exact HP.out i (by omega)
    clear he hpe HP
    go_wp2
    go_roundw
    case rel => exact ⟨3 + 1, by omega, by first | rfl | go_num, hB2, hbx2, hpp2, HI⟩
    case measure => simp [intOf]
   ·have E : ((v : Int) != 0) = true := by rw [bne_iff_ne]; omega
    have HF : Hid (check c = (3 + 1, (u, v))) := by
     show _ = _
     rw [check_at (by omega) HP.out (by rw [hpe.out]; exact he), hpe.out]
    clear he hpe HP
    go_wp2
    go_ret3
    exact valed HF.out rfl rfl rfl hB2
  ·have HC := Lib.hid (nodes_any ⟨ha, ht, hX, hr, hn, hh, hl⟩ c.texts c.nods wr hR.x (texts_ok (HP.out 2 (by omega))).1.row (texts_ok (HP.out 2 (by omega))).1.pos hR.n)
   have hpe : Hid (pE c 4 = ndErr c.texts c.nods) := rfl
   go_wp2_with fail
   refine HC.out.mono ?_
   rintro e' w2 ⟨rfl, hb2⟩
   clear HC
   have hB2 := hB.trans (hb2.mono hB.size)
   have hbx2 := hbx.below hb2
   have hpp2 := hpp.below hb2
   obtain ⟨⟨u, v⟩, huv⟩ : ∃ p, ndErr c.texts c.nods = p := ⟨_, rfl⟩
   rw [huv] at hpe
   simp only [huv]
   clear huv
   by_cases he : v = 0
   ·have E : ((v : Int) != 0) = false := by rw [he]; rfl
    have HI : Hid (∀ i, i < 4 + 1 → (pE c i).2 = 0) := by
     intro i hi
     by_cases ei : i = 4
     ·subst ei; rw [hpe.out]; exact he
     ·exact HP.out i (by omega)
    clear he hpe HP
    go_wp2
    go_roundw
    case rel => exact ⟨4 + 1, by omega, by first | rfl | go_num, hB2, hbx2, hpp2, HI⟩
    case measure => simp [intOf]
   ·have E : ((v : Int) != 0) = true := by rw [bne_iff_ne]; omega
    have HF : Hid (check c = (4 + 1, (u, v))) := by
     show _ = _
     rw [check_at (by omega) HP.out (by rw [hpe.out]; exact he), hpe.out]
    clear he hpe HP
    go_wp2
    go_ret3
    exact valed HF.out rfl rfl rfl hB2
  ·have HC := Lib.hid (heads_any ⟨ha, ht, hX, hr, hn, hh, hl⟩ c.texts c.heads c.rels wr hft.out (by show ht.n ≤ 4096; rw [← HTL.out]; exact tk_len (HP.out 1 (by omega))) hR.x (by show TextsOk c.texts ht.n; rw [← HTL.out]; exact (texts_ok (HP.out 2 (by omega))).1) hR.h hR.l)
   have hpe : Hid (pE c 5 = hdErr ht.n c.texts c.heads c.rels) := (by show _ = _; rw [← HTL.out]; rfl)
   go_wp2_with fail
   refine HC.out.mono ?_
   rintro e' w2 ⟨rfl, hb2⟩
   clear HC
   have hB2 := hB.trans (hb2.mono hB.size)
   have hbx2 := hbx.below hb2
   have hpp2 := hpp.below hb2
   obtain ⟨⟨u, v⟩, huv⟩ : ∃ p, hdErr ht.n c.texts c.heads c.rels = p := ⟨_, rfl⟩
   rw [huv] at hpe
   simp only [huv]
   clear huv
   by_cases he : v = 0
   ·have E : ((v : Int) != 0) = false := by rw [he]; rfl
    have HI : Hid (∀ i, i < 5 + 1 → (pE c i).2 = 0) := by
     intro i hi
     by_cases ei : i = 5
     ·subst ei; rw [hpe.out]; exact he
     ·exact HP.out i (by omega)
    clear he hpe HP
    go_wp2
    go_roundw
    case rel => exact ⟨5 + 1, by omega, by first | rfl | go_num, hB2, hbx2, hpp2, HI⟩
    case measure => simp [intOf]
   ·have E : ((v : Int) != 0) = true := by rw [bne_iff_ne]; omega
    have HF : Hid (check c = (5 + 1, (u, v))) := by
     show _ = _
     rw [check_at (by omega) HP.out (by rw [hpe.out]; exact he), hpe.out]
    clear he hpe HP
    go_wp2
    go_ret3
    exact valed HF.out rfl rfl rfl hB2
  ·have HF := Lib.hid (check_all HP.out)
   clear HP
   go_wp2
   go_ret3
   exact valed HF.out rfl rfl rfl hB
end Go.Proofs.YtgkdaebiefhgdaaGreatDoor
