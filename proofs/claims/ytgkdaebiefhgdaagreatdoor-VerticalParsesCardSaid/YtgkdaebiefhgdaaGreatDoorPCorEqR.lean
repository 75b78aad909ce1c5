/-
 The contract of the reference's Equal. Conditions: none but that two corpora read as they do.
-/
import Derived.Test.YtgkdaebiefhgdaaGreatDoorPCorEqB
import Derived.Deep.CutBlock
namespace Go.Proofs.YtgkdaebiefhgdaaGreatDoor
open Go.RowKit Utf
open Feat (Bs)
open Tagp (KV)
theorem same_no {c d : Cor.C} (h : c.attrs ≠ d.attrs ∨ c.toks ≠ d.toks ∨ c.texts ≠ d.texts ∨ c.regs ≠ d.regs ∨ c.nods ≠ d.nods ∨ c.heads ≠ d.heads ∨ c.rels ≠ d.rels) : same c d = false := by
 refine same_f fun e => ?_
 subst e
 rcases h with h | h | h | h | h | h | h <;> exact h rfl
theorem len_ne {α : Type} {l m : List α} {a b : Nat} (h1 : l.length = a) (h2 : m.length = b) (h : ¬ a = b) : l ≠ m := by
 rintro rfl; omega
theorem all_eq {α : Type} {l m : List α} {n : Nat} (h1 : l.length = n) (h2 : m.length = n) (h : l.take n = m.take n) : l = m := by
 rw [List.take_of_length_le (by omega), List.take_of_length_le (by omega)] at h; exact h
set_option maxRecDepth 100000 in
set_option maxHeartbeats 160000000 in
theorem refEqual_bad (H K : CH) (c d : Cor.C) (w : World) (hc : Reads w w.heap.size H c) (hd : Reads w w.heap.size K d) (hg : ¬ (same c.attrs d.attrs = true ∧ H.t.n = K.t.n ∧ H.x.n = K.x.n ∧ H.r.n = K.r.n ∧ H.n.n = K.n.n ∧ H.h.n = K.h.n ∧ H.l.n = K.l.n)) : Calls Tryz.prog 11 #[H.v, K.v] w (Kept (.bool (same c d)) w) := by
 obtain ⟨⟨Aa, na, ca⟩, ⟨At, nt, ct⟩, ⟨Ax, nx, cx⟩, ⟨Ar, nr, cr⟩, ⟨An, nn, cn⟩, ⟨Ah, nh, ch⟩, ⟨Al, nl, cl⟩⟩ := H
 obtain ⟨⟨Ba, ma, da⟩, ⟨Bt, mt, dt⟩, ⟨Bx, mx, dx⟩, ⟨Br, mr, dr⟩, ⟨Bn, mn, dn⟩, ⟨Bh, mh, dh⟩, ⟨Bl, ml, dl⟩⟩ := K
 show Calls Tryz.prog 11 #[.agg #[.slice Aa na ca, .slice At nt ct, .slice Ax nx cx, .slice Ar nr cr, .slice An nn cn, .slice Ah nh ch, .slice Al nl cl], .agg #[.slice Ba ma da, .slice Bt mt dt, .slice Bx mx dx, .slice Br mr dr, .slice Bn mn dn, .slice Bh mh dh, .slice Bl ml dl]] w _
 have hB0 := ((Below.refl w.heap.size w).alloc (Nat.le_refl _) (.cells #[.slice Aa na ca, .slice At nt ct, .slice Ax nx cx, .slice Ar nr cr, .slice An nn cn, .slice Ah nh ch, .slice Al nl cl] 30)).alloc (by simp) (.cells #[.slice Ba ma da, .slice Bt mt dt, .slice Bx mx dx, .slice Br mr dr, .slice Bn mn dn, .slice Bh mh dh, .slice Bl ml dl] 30)
 have b0 := (Blk.new w 30 #[.slice Aa na ca, .slice At nt ct, .slice Ax nx cx, .slice Ar nr cr, .slice An nn cn, .slice Ah nh ch, .slice Al nl cl]).alloc (.cells #[.slice Ba ma da, .slice Bt mt dt, .slice Bx mx dx, .slice Br mr dr, .slice Bn mn dn, .slice Bh mh dh, .slice Bl ml dl] 30)
 have b1 := Blk.new (w.alloc (.cells #[.slice Aa na ca, .slice At nt ct, .slice Ax nx cx, .slice Ar nr cr, .slice An nn cn, .slice Ah nh ch, .slice Al nl cl] 30)) 30 #[.slice Ba ma da, .slice Bt mt dt, .slice Bx mx dx, .slice Br mr dr, .slice Bn mn dn, .slice Bh mh dh, .slice Bl ml dl]
 rw [World.size_alloc] at b1
 have HC := Lib.hid hc
 have HD := Lib.hid hd
 have CA := Lib.hid (rEqL_attr_any Aa na ca Ba ma da c.attrs d.attrs ((w.alloc (.cells #[.slice Aa na ca, .slice At nt ct, .slice Ax nx cx, .slice Ar nr cr, .slice An nn cn, .slice Ah nh ch, .slice Al nl cl] 30)).alloc (.cells #[.slice Ba ma da, .slice Bt mt dt, .slice Bx mx dx, .slice Br mr dr, .slice Bn mn dn, .slice Bh mh dh, .slice Bl ml dl] 30)) ((hc.a.under hB0).up hB0.size) ((hd.a.under hB0).up hB0.size))
 obtain ⟨r0, hr0⟩ : ∃ b, same c.attrs d.attrs = b := ⟨_, rfl⟩
 rw [hr0] at CA
 have R0 := Lib.hid hr0
 have LC := Lib.hid (And.intro hc.t.len (And.intro hc.x.len (And.intro hc.r.len (And.intro hc.n.len (And.intro hc.h.len hc.l.len)))))
 have LD := Lib.hid (And.intro hd.t.len (And.intro hd.x.len (And.intro hd.r.len (And.intro hd.n.len (And.intro hd.h.len hd.l.len)))))
 have ft : nt ≤ 9223372036854775807 := hc.t.fit.2
 have fx : nx ≤ 9223372036854775807 := hc.x.fit.2
 have fr : nr ≤ 9223372036854775807 := hc.r.fit.2
 have fn : nn ≤ 9223372036854775807 := hc.n.1.2
 have fh : nh ≤ 9223372036854775807 := hc.h.1.2
 have fl : nl ≤ 9223372036854775807 := hc.l.1.2
 clear hr0 hc hd
 have HG := Lib.hid hg
 clear hg
 cases r0 with
 | false =>
  have HF := Lib.hid (same_no (c := c) (d := d) (.inl (fun h => by have h2 := R0.out; rw [same_t h] at h2; cases h2)))
  go_enter Tryz.func11, Tryz.ntmps11
  go_wp2_with (go_at_call 31; refine CA.out.mono ?_; rintro e' w1 ⟨rfl, q, rfl⟩)
  go_ret
  exact ⟨ret_bool HF.out.symm, below_drewN hB0 _⟩
 | true =>
  by_cases hne : nt = mt
  ·subst hne
   by_cases hne : nx = mx
   ·subst hne
    by_cases hne : nr = mr
    ·subst hne
     by_cases hne : nn = mn
     ·subst hne
      by_cases hne : nh = mh
      ·subst hne
       by_cases hne : nl = ml
       ·subst hne
        exact absurd ⟨R0.out, rfl, rfl, rfl, rfl, rfl, rfl⟩ HG.out
       ·have HF := Lib.hid (same_no (c := c) (d := d) (.inr (.inr (.inr (.inr (.inr (.inr (len_ne LC.out.2.2.2.2.2 LD.out.2.2.2.2.2 hne))))))))
        have hnd : decide (nl = ml) = false := by simpa using hne
        go_enter Tryz.func11, Tryz.ntmps11
        go_wp2_with (go_at_call 31; refine CA.out.mono ?_; rintro e' w1 ⟨rfl, q, rfl⟩)
        go_ret
        exact ⟨ret_bool HF.out.symm, below_drewN hB0 _⟩
      ·have HF := Lib.hid (same_no (c := c) (d := d) (.inr (.inr (.inr (.inr (.inr (.inl (len_ne LC.out.2.2.2.2.1 LD.out.2.2.2.2.1 hne))))))))
       have hnd : decide (nh = mh) = false := by simpa using hne
       go_enter Tryz.func11, Tryz.ntmps11
       go_wp2_with (go_at_call 31; refine CA.out.mono ?_; rintro e' w1 ⟨rfl, q, rfl⟩)
       go_ret
       exact ⟨ret_bool HF.out.symm, below_drewN hB0 _⟩
     ·have HF := Lib.hid (same_no (c := c) (d := d) (.inr (.inr (.inr (.inr (.inl (len_ne LC.out.2.2.2.1 LD.out.2.2.2.1 hne)))))))
      have hnd : decide (nn = mn) = false := by simpa using hne
      go_enter Tryz.func11, Tryz.ntmps11
      go_wp2_with (go_at_call 31; refine CA.out.mono ?_; rintro e' w1 ⟨rfl, q, rfl⟩)
      go_ret
      exact ⟨ret_bool HF.out.symm, below_drewN hB0 _⟩
    ·have HF := Lib.hid (same_no (c := c) (d := d) (.inr (.inr (.inr (.inl (len_ne LC.out.2.2.1 LD.out.2.2.1 hne))))))
     have hnd : decide (nr = mr) = false := by simpa using hne
     go_enter Tryz.func11, Tryz.ntmps11
     go_wp2_with (go_at_call 31; refine CA.out.mono ?_; rintro e' w1 ⟨rfl, q, rfl⟩)
     go_ret
     exact ⟨ret_bool HF.out.symm, below_drewN hB0 _⟩
   ·have HF := Lib.hid (same_no (c := c) (d := d) (.inr (.inr (.inl (len_ne LC.out.2.1 LD.out.2.1 hne)))))
    have hnd : decide (nx = mx) = false := by simpa using hne
    go_enter Tryz.func11, Tryz.ntmps11
    go_wp2_with (go_at_call 31; refine CA.out.mono ?_; rintro e' w1 ⟨rfl, q, rfl⟩)
    go_ret
    exact ⟨ret_bool HF.out.symm, below_drewN hB0 _⟩
  ·have HF := Lib.hid (same_no (c := c) (d := d) (.inr (.inl (len_ne LC.out.1 LD.out.1 hne))))
   have hnd : decide (nt = mt) = false := by simpa using hne
   go_enter Tryz.func11, Tryz.ntmps11
   go_wp2_with (go_at_call 31; refine CA.out.mono ?_; rintro e' w1 ⟨rfl, q, rfl⟩)
   go_ret
   exact ⟨ret_bool HF.out.symm, below_drewN hB0 _⟩

set_option maxRecDepth 100000 in
set_option maxHeartbeats 160000000 in
theorem refEqual_good (H K : CH) (c d : Cor.C) (w : World) (hc : Reads w w.heap.size H c) (hd : Reads w w.heap.size K d) (hg : same c.attrs d.attrs = true ∧ H.t.n = K.t.n ∧ H.x.n = K.x.n ∧ H.r.n = K.r.n ∧ H.n.n = K.n.n ∧ H.h.n = K.h.n ∧ H.l.n = K.l.n) : Calls Tryz.prog 11 #[H.v, K.v] w (Kept (.bool (same c d)) w) := by
 obtain ⟨⟨Aa, na, ca⟩, ⟨At, nt, ct⟩, ⟨Ax, nx, cx⟩, ⟨Ar, nr, cr⟩, ⟨An, nn, cn⟩, ⟨Ah, nh, ch⟩, ⟨Al, nl, cl⟩⟩ := H
 obtain ⟨⟨Ba, ma, da⟩, ⟨Bt, mt, dt⟩, ⟨Bx, mx, dx⟩, ⟨Br, mr, dr⟩, ⟨Bn, mn, dn⟩, ⟨Bh, mh, dh⟩, ⟨Bl, ml, dl⟩⟩ := K
 show Calls Tryz.prog 11 #[.agg #[.slice Aa na ca, .slice At nt ct, .slice Ax nx cx, .slice Ar nr cr, .slice An nn cn, .slice Ah nh ch, .slice Al nl cl], .agg #[.slice Ba ma da, .slice Bt mt dt, .slice Bx mx dx, .slice Br mr dr, .slice Bn mn dn, .slice Bh mh dh, .slice Bl ml dl]] w _
 have hB0 := ((Below.refl w.heap.size w).alloc (Nat.le_refl _) (.cells #[.slice Aa na ca, .slice At nt ct, .slice Ax nx cx, .slice Ar nr cr, .slice An nn cn, .slice Ah nh ch, .slice Al nl cl] 30)).alloc (by simp) (.cells #[.slice Ba ma da, .slice Bt mt dt, .slice Bx mx dx, .slice Br mr dr, .slice Bn mn dn, .slice Bh mh dh, .slice Bl ml dl] 30)
 have b0 := (Blk.new w 30 #[.slice Aa na ca, .slice At nt ct, .slice Ax nx cx, .slice Ar nr cr, .slice An nn cn, .slice Ah nh ch, .slice Al nl cl]).alloc (.cells #[.slice Ba ma da, .slice Bt mt dt, .slice Bx mx dx, .slice Br mr dr, .slice Bn mn dn, .slice Bh mh dh, .slice Bl ml dl] 30)
 have b1 := Blk.new (w.alloc (.cells #[.slice Aa na ca, .slice At nt ct, .slice Ax nx cx, .slice Ar nr cr, .slice An nn cn, .slice Ah nh ch, .slice Al nl cl] 30)) 30 #[.slice Ba ma da, .slice Bt mt dt, .slice Bx mx dx, .slice Br mr dr, .slice Bn mn dn, .slice Bh mh dh, .slice Bl ml dl]
 rw [World.size_alloc] at b1
 have HC := Lib.hid hc
 have HD := Lib.hid hd
 have CA := Lib.hid (rEqL_attr_any Aa na ca Ba ma da c.attrs d.attrs ((w.alloc (.cells #[.slice Aa na ca, .slice At nt ct, .slice Ax nx cx, .slice Ar nr cr, .slice An nn cn, .slice Ah nh ch, .slice Al nl cl] 30)).alloc (.cells #[.slice Ba ma da, .slice Bt mt dt, .slice Bx mx dx, .slice Br mr dr, .slice Bn mn dn, .slice Bh mh dh, .slice Bl ml dl] 30)) ((hc.a.under hB0).up hB0.size) ((hd.a.under hB0).up hB0.size))
 obtain ⟨r0, hr0⟩ : ∃ b, same c.attrs d.attrs = b := ⟨_, rfl⟩
 rw [hr0] at CA
 have R0 := Lib.hid hr0
 have LC := Lib.hid (And.intro hc.t.len (And.intro hc.x.len (And.intro hc.r.len (And.intro hc.n.len (And.intro hc.h.len hc.l.len)))))
 have LD := Lib.hid (And.intro hd.t.len (And.intro hd.x.len (And.intro hd.r.len (And.intro hd.n.len (And.intro hd.h.len hd.l.len)))))
 have ft : nt ≤ 9223372036854775807 := hc.t.fit.2
 have fx : nx ≤ 9223372036854775807 := hc.x.fit.2
 have fr : nr ≤ 9223372036854775807 := hc.r.fit.2
 have fn : nn ≤ 9223372036854775807 := hc.n.1.2
 have fh : nh ≤ 9223372036854775807 := hc.h.1.2
 have fl : nl ≤ 9223372036854775807 := hc.l.1.2
 clear hr0 hc hd
 obtain ⟨g0, g1, g2, g3, g4, g5, g6⟩ := hg
 obtain rfl : r0 = true := by rw [← R0.out]; exact g0
 clear g0
 simp only [] at g1 g2 g3 g4 g5 g6
 subst g1 g2 g3 g4 g5 g6
 go_enter Tryz.func11, Tryz.ntmps11
 go_upto_region 3 with (go_at_call 31; refine CA.out.mono ?_; rintro e' w1 ⟨rfl, q, rfl⟩)
 have hcut : Below w.heap.size w (((w.alloc (.cells #[.slice Aa na ca, .slice At nt ct, .slice Ax nx cx, .slice Ar nr cr, .slice An nn cn, .slice Ah nh ch, .slice Al nl cl] 30)).alloc (.cells #[.slice Ba ma da, .slice Bt nt dt, .slice Bx nx dx, .slice Br nr dr, .slice Bn nn dn, .slice Bh nh dh, .slice Bl nl dl] 30)).drewN q) ∧ Blk (((w.alloc (.cells #[.slice Aa na ca, .slice At nt ct, .slice Ax nx cx, .slice Ar nr cr, .slice An nn cn, .slice Ah nh ch, .slice Al nl cl] 30)).alloc (.cells #[.slice Ba ma da, .slice Bt nt dt, .slice Bx nx dx, .slice Br nr dr, .slice Bn nn dn, .slice Bh nh dh, .slice Bl nl dl] 30)).drewN q) w.heap.size 30 #[.slice Aa na ca, .slice At nt ct, .slice Ax nx cx, .slice Ar nr cr, .slice An nn cn, .slice Ah nh ch, .slice Al nl cl] ∧ Blk (((w.alloc (.cells #[.slice Aa na ca, .slice At nt ct, .slice Ax nx cx, .slice Ar nr cr, .slice An nn cn, .slice Ah nh ch, .slice Al nl cl] 30)).alloc (.cells #[.slice Ba ma da, .slice Bt nt dt, .slice Bx nx dx, .slice Br nr dr, .slice Bn nn dn, .slice Bh nh dh, .slice Bl nl dl] 30)).drewN q) (w.heap.size + 1) 30 #[.slice Ba ma da, .slice Bt nt dt, .slice Bx nx dx, .slice Br nr dr, .slice Bn nn dn, .slice Bh nh dh, .slice Bl nl dl] := ⟨below_drewN hB0 _, b0, b1⟩
 clear hB0 b0 b1 CA
 generalize ((w.alloc (.cells #[.slice Aa na ca, .slice At nt ct, .slice Ax nx cx, .slice Ar nr cr, .slice An nn cn, .slice Ah nh ch, .slice Al nl cl] 30)).alloc (.cells #[.slice Ba ma da, .slice Bt nt dt, .slice Bx nx dx, .slice Br nr dr, .slice Bn nn dn, .slice Bh nh dh, .slice Bl nl dl] 30)).drewN q = wc at hcut ⊢
 obtain ⟨hB, h0, h1⟩ := hcut
 have q0 : wc.cell? ⟨w.heap.size, 1, none⟩ = some (.slice At nt ct) := h0.cell 1
 have LCI := Lib.hid LC.out.1
 have LDI := Lib.hid LD.out.1
 go_upto_block 0 with (fail)
 go_cut [] from 16 (fun wr => Below w.heap.size w wr ∧ Blk wr w.heap.size 30 #[.slice Aa na ca, .slice At nt ct, .slice Ax nx cx, .slice Ar nr cr, .slice An nn cn, .slice Ah nh ch, .slice Al nl cl] ∧ Blk wr (w.heap.size + 1) 30 #[.slice Ba ma da, .slice Bt nt dt, .slice Bx nx dx, .slice Br nr dr, .slice Bn nn dn, .slice Bh nh dh, .slice Bl nl dl] ∧ Hid (c.toks = d.toks))
 case first =>
  as_aux_lemma =>
   go_wp2
   clear q0
   go_loopw [79] (fun iv wr => ∃ k : Nat, k ≤ nt ∧ iv = .int .i64 k ∧ (Below w.heap.size w wr ∧ Blk wr w.heap.size 30 #[.slice Aa na ca, .slice At nt ct, .slice Ax nx cx, .slice Ar nr cr, .slice An nn cn, .slice Ah nh ch, .slice Al nl cl] ∧ Blk wr (w.heap.size + 1) 30 #[.slice Ba ma da, .slice Bt nt dt, .slice Bx nx dx, .slice Br nr dr, .slice Bn nn dn, .slice Bh nh dh, .slice Bl nl dl]) ∧ Hid (c.toks.take k = d.toks.take k)) (fun iv _ => nt - (intOf iv).toNat)
   case atStart => exact ⟨0, Nat.zero_le _, rfl, ⟨hB, h0, h1⟩, rfl⟩
   case round =>
    clear hB h0 h1
    obtain ⟨k, hk, rfl, ⟨hB, h0, h1⟩, hin⟩ := hrel
    by_cases hlt : k < nt
    ·obtain ⟨g1, o1, ⟨Xk, xnk, xck⟩, hk1, rfl, hg1, hw1, d10⟩ := HC.out.t.at_ (k := k) hlt
     obtain ⟨g2, o2, ⟨Yk, ynk, yck⟩, hk2, rfl, hg2, hw2, d20⟩ := HD.out.t.at_ (k := k) hlt
     have D10 := d10
     have D20 := d20
     replace d10 := (hB.cell (p := ⟨g1, _, none⟩) hg1).trans d10
     replace d20 := (hB.cell (p := ⟨g2, _, none⟩) hg2).trans d20
     have p1 : wr.cell? ⟨w.heap.size, 1, none⟩ = some (.slice (some ⟨g1, o1, none⟩) nt ct) := h0.cell 1
     have q1 : wr.cell? ⟨w.heap.size + 1, 1, none⟩ = some (.slice (some ⟨g2, o2, none⟩) nt dt) := h1.cell 1
     have ht := @take_eq _ c.toks d.toks k hk1 hk2
     have hne := @take_ne _ c.toks d.toks k hk1 hk2
     obtain ⟨xk, hx⟩ : ∃ x, c.toks[k] = x := ⟨_, rfl⟩
     obtain ⟨yk, hy⟩ : ∃ x, d.toks[k] = x := ⟨_, rfl⟩
     rw [hx] at hw1
     rw [hy] at hw2
     rw [hx, hy] at ht hne
     have HT := Lib.hid ht
     have HN := Lib.hid hne
     have k0 : (0 : Int) ≤ k := by omega
     have k1 : (k : Int) < nt := by omega
     have HW := Lib.hid (And.intro hw1 hw2)
     have fk : xnk ≤ 9223372036854775807 := hw1.1.2
     have fk2 : ynk ≤ 9223372036854775807 := hw2.1.2
     have HXL := Lib.hid hw1.len
     have HYL := Lib.hid hw2.len
     have HS := Lib.hid (And.intro hB (And.intro h0 h1))
     have HD1 := Lib.hid (fun (W : World) (hW : Below w.heap.size w W) => And.intro ((hW.cell (p := ⟨g1, _, none⟩) hg1).trans D10) ((hW.cell (p := ⟨g2, _, none⟩) hg2).trans D20))
     clear hx hy ht hne hw1 hw2 hB h0 h1 D10 D20
     by_cases hnk : xnk = ynk
     ·subst hnk
      go_wp2
      go_quiet (fail)
      go_wp2
      clear p1 q1 d10 d20
      go_loopw [101] (fun jv wr => ∃ j : Nat, j ≤ xnk ∧ jv = .int .i64 j ∧ (Below w.heap.size w wr ∧ Blk wr w.heap.size 30 #[.slice Aa na ca, .slice (some ⟨g1, o1, none⟩) nt ct, .slice Ax nx cx, .slice Ar nr cr, .slice An nn cn, .slice Ah nh ch, .slice Al nl cl] ∧ Blk wr (w.heap.size + 1) 30 #[.slice Ba ma da, .slice (some ⟨g2, o2, none⟩) nt dt, .slice Bx nx dx, .slice Br nr dr, .slice Bn nn dn, .slice Bh nh dh, .slice Bl nl dl]) ∧ Hid (xk.take j = yk.take j)) (fun jv _ => xnk - (intOf jv).toNat)
      case atStart => exact ⟨0, Nat.zero_le _, rfl, ⟨below_drewN HS.out.1 _, HS.out.2.1, HS.out.2.2⟩, rfl⟩
      case round =>
       clear HS
       obtain ⟨j, hj, rfl, ⟨hB, h0, h1⟩, hin2⟩ := hrel
       by_cases hlt2 : j < xnk
       ·obtain ⟨g3, o3, hk3, rfl, hg3, hl3, e30⟩ := (HW.out.1.under hB).at_ (k := j) hlt2
        obtain ⟨g4, o4, hk4, rfl, hg4, hl4, e40⟩ := (HW.out.2.under hB).at_ (k := j) hlt2
        obtain ⟨d10, d20⟩ := HD1.out wr hB
        have p1 : wr.cell? ⟨w.heap.size, 1, none⟩ = some (.slice (some ⟨g1, o1, none⟩) nt ct) := h0.cell 1
        have q1 : wr.cell? ⟨w.heap.size + 1, 1, none⟩ = some (.slice (some ⟨g2, o2, none⟩) nt dt) := h1.cell 1
        have ht2 := @take_eq _ xk yk j hk3 hk4
        have hne2 := @take_ne _ xk yk j hk3 hk4
        obtain ⟨x0, hx⟩ : ∃ x, xk[j] = x := ⟨_, rfl⟩
        obtain ⟨y0, hy⟩ : ∃ x, yk[j] = x := ⟨_, rfl⟩
        rw [hx] at e30
        rw [hy] at e40
        rw [hx, hy] at ht2 hne2
        have HT2 := Lib.hid ht2
        have HN2 := Lib.hid hne2
        have j0 : (0 : Int) ≤ j := by omega
        have j1 : (j : Int) < xnk := by omega
        have HS2 := Lib.hid (And.intro hB (And.intro h0 h1))
        clear hx hy ht2 hne2 hl3 hl4 hB h0 h1
        by_cases e0 : x0 = y0
        ·subst e0
         have HI2 : Hid (xk.take (j + 1) = yk.take (j + 1)) := HT2.out rfl hin2.out
         clear HT2 HN2 hin2
         go_wp2
         go_quiet (fail)
         go_wp2
         go_roundw
         case rel => (first | exact ⟨j + 1, by omega, by go_num, ⟨below_drewN HS2.out.1 _, HS2.out.2.1, HS2.out.2.2⟩, HI2⟩ | ((repeat apply Exists.intro); exact ⟨⟨j + 1, by omega, by go_num, ⟨below_drewN HS2.out.1 _, HS2.out.2.1, HS2.out.2.2⟩, HI2⟩, rfl⟩))
         case measure => simp [intOf]; omega
        ·have E3 : (x0 == y0) = false := by simpa using e0
         have HF := Lib.hid (same_no (c := c) (d := d) (.inr (.inl (HN.out (HN2.out e0)))))
         clear HT2 HN2 hin2
         go_wp2
         go_quiet (fail)
         go_wp2
         go_ret
         exact ⟨ret_bool HF.out.symm, below_drewN HS2.out.1 _⟩
       ·have HI : Hid (c.toks.take (k + 1) = d.toks.take (k + 1)) := HT.out (all_eq HXL.out HYL.out (by
         have h := hin2.out
         rw [show j = xnk by omega] at h; exact h)) hin.out
        clear HT HN hin hin2
        go_wp2
        go_roundw
        case rel => (first | exact ⟨k + 1, by omega, by go_num, ⟨hB, h0, h1⟩, HI⟩ | ((repeat apply Exists.intro); exact ⟨⟨k + 1, by omega, by go_num, ⟨hB, h0, h1⟩, HI⟩, rfl⟩))
        case measure => simp [intOf]; omega
     ·have HF := Lib.hid (same_no (c := c) (d := d) (.inr (.inl (HN.out (len_ne HXL.out HYL.out hnk)))))
      have hnd : decide (xnk = ynk) = false := by simpa using hnk
      clear HT HN hin
      go_wp2
      go_quiet (fail)
      go_wp2
      go_ret
      exact ⟨ret_bool HF.out.symm, below_drewN HS.out.1 _⟩
    ·have HE : Hid (c.toks = d.toks) := all_eq LCI.out LDI.out (by
      have h := hin.out
      rw [show k = nt by omega] at h; exact h)
     go_wp2
     go_meet
     case rel => exact ⟨hB, h0, h1, HE⟩
 case rest =>
  clear q0 hB h0 h1
  obtain ⟨hB, h0, h1, E1⟩ := hcut
  have q0 : wc.cell? ⟨w.heap.size, 2, none⟩ = some (.slice Ax nx cx) := h0.cell 2
  have LCI := Lib.hid LC.out.2.1
  have LDI := Lib.hid LD.out.2.1
  go_upto_block 4 with (fail)
  go_cut [] from 16 (fun wr => Below w.heap.size w wr ∧ Blk wr w.heap.size 30 #[.slice Aa na ca, .slice At nt ct, .slice Ax nx cx, .slice Ar nr cr, .slice An nn cn, .slice Ah nh ch, .slice Al nl cl] ∧ Blk wr (w.heap.size + 1) 30 #[.slice Ba ma da, .slice Bt nt dt, .slice Bx nx dx, .slice Br nr dr, .slice Bn nn dn, .slice Bh nh dh, .slice Bl nl dl] ∧ Hid (c.toks = d.toks) ∧ Hid (c.texts = d.texts))
  case first =>
   as_aux_lemma =>
    go_wp2
    clear q0
    go_loopw [126] (fun iv wr => ∃ k : Nat, k ≤ nx ∧ iv = .int .i64 k ∧ (Below w.heap.size w wr ∧ Blk wr w.heap.size 30 #[.slice Aa na ca, .slice At nt ct, .slice Ax nx cx, .slice Ar nr cr, .slice An nn cn, .slice Ah nh ch, .slice Al nl cl] ∧ Blk wr (w.heap.size + 1) 30 #[.slice Ba ma da, .slice Bt nt dt, .slice Bx nx dx, .slice Br nr dr, .slice Bn nn dn, .slice Bh nh dh, .slice Bl nl dl]) ∧ Hid (c.texts.take k = d.texts.take k)) (fun iv _ => nx - (intOf iv).toNat)
    case atStart => exact ⟨0, Nat.zero_le _, rfl, ⟨hB, h0, h1⟩, rfl⟩
    case round =>
     clear hB h0 h1
     obtain ⟨k, hk, rfl, ⟨hB, h0, h1⟩, hin⟩ := hrel
     by_cases hlt : k < nx
     ·obtain ⟨g1, o1, ⟨Xk, xnk, xck⟩, hk1, rfl, hg1, hto1, d10, d11, d12, d13⟩ := HC.out.x.at_ (k := k) hlt
      obtain ⟨g2, o2, ⟨Yk, ynk, yck⟩, hk2, rfl, hg2, hto2, d20, d21, d22, d23⟩ := HD.out.x.at_ (k := k) hlt
      replace d10 := (hB.cell (p := ⟨g1, _, none⟩) hg1).trans d10
      replace d11 := (hB.cell (p := ⟨g1, _, none⟩) hg1).trans d11
      replace d12 := (hB.cell (p := ⟨g1, _, none⟩) hg1).trans d12
      replace d13 := (hB.cell (p := ⟨g1, _, none⟩) hg1).trans d13
      replace d20 := (hB.cell (p := ⟨g2, _, none⟩) hg2).trans d20
      replace d21 := (hB.cell (p := ⟨g2, _, none⟩) hg2).trans d21
      replace d22 := (hB.cell (p := ⟨g2, _, none⟩) hg2).trans d22
      replace d23 := (hB.cell (p := ⟨g2, _, none⟩) hg2).trans d23
      have p2 : wr.cell? ⟨w.heap.size, 2, none⟩ = some (.slice (some ⟨g1, o1, none⟩) nx cx) := h0.cell 2
      have q2 : wr.cell? ⟨w.heap.size + 1, 2, none⟩ = some (.slice (some ⟨g2, o2, none⟩) nx dx) := h1.cell 2
      have ht := @take_eq _ c.texts d.texts k hk1 hk2
      have hne := @take_ne _ c.texts d.texts k hk1 hk2
      obtain ⟨⟨xn, xb, xe, xk⟩, hx⟩ : ∃ x, c.texts[k] = x := ⟨_, rfl⟩
      obtain ⟨⟨yn, yb, ye, yk⟩, hy⟩ : ∃ x, d.texts[k] = x := ⟨_, rfl⟩
      rw [hx] at d10 d11 d12 hto1
      rw [hy] at d20 d21 d22 hto2
      rw [hx, hy] at ht hne
      simp only [] at d10 d11 d12 d20 d21 d22
      have HT := Lib.hid ht
      have HN := Lib.hid hne
      have k0 : (0 : Int) ≤ k := by omega
      have k1 : (k : Int) < nx := by omega
      have hgw1 : g1 < wr.heap.size := Nat.lt_of_lt_of_le hg1 hB.size
      have hgw2 : g2 < wr.heap.size := Nat.lt_of_lt_of_le hg2 hB.size
      have hbw1 : w.heap.size + 1 < wr.heap.size := h1.lt
      have HTO := Lib.hid (And.intro hto1.2.2.2 hto2.2.2.2)
      have HS := Lib.hid (And.intro hB (And.intro h0 h1))
      have hsz : wr.heap.size ≤ (wr.alloc (.cells #[str xn, .int .i64 xb, .int .i64 xe, .slice Xk xnk xck] 66)).heap.size := by simp
      clear hx hy ht hne hto1 hto2 hB h0 h1
      by_cases e0 : xn = yn
      ·subst e0
       by_cases e1 : xb = yb
       ·subst e1
        by_cases e2 : xe = ye
        ·subst e2
         have CC := rEqL_pair_any Xk xnk xck Yk ynk yck xk yk ((wr.alloc (.cells #[str xn, .int .i64 xb, .int .i64 xe, .slice Xk xnk xck] 66)).alloc (.cells #[str xn, .int .i64 xb, .int .i64 xe, .slice Yk ynk yck] 66)) ((HTO.out.1.under ((HS.out.1.alloc HS.out.1.size (.cells #[str xn, .int .i64 xb, .int .i64 xe, .slice Xk xnk xck] 66)).alloc (Nat.le_trans HS.out.1.size hsz) (.cells #[str xn, .int .i64 xb, .int .i64 xe, .slice Yk ynk yck] 66))).up ((HS.out.1.alloc HS.out.1.size (.cells #[str xn, .int .i64 xb, .int .i64 xe, .slice Xk xnk xck] 66)).alloc (Nat.le_trans HS.out.1.size hsz) (.cells #[str xn, .int .i64 xb, .int .i64 xe, .slice Yk ynk yck] 66)).size) ((HTO.out.2.under ((HS.out.1.alloc HS.out.1.size (.cells #[str xn, .int .i64 xb, .int .i64 xe, .slice Xk xnk xck] 66)).alloc (Nat.le_trans HS.out.1.size hsz) (.cells #[str xn, .int .i64 xb, .int .i64 xe, .slice Yk ynk yck] 66))).up ((HS.out.1.alloc HS.out.1.size (.cells #[str xn, .int .i64 xb, .int .i64 xe, .slice Xk xnk xck] 66)).alloc (Nat.le_trans HS.out.1.size hsz) (.cells #[str xn, .int .i64 xb, .int .i64 xe, .slice Yk ynk yck] 66)).size)
         obtain ⟨bb, hbb⟩ : ∃ b, same xk yk = b := ⟨_, rfl⟩
         rw [hbb] at CC
         have HBB := Lib.hid hbb
         have HCC := Lib.hid CC
         have HST := Lib.hid (show Below w.heap.size w ((wr.alloc (.cells #[str xn, .int .i64 xb, .int .i64 xe, .slice Xk xnk xck] 66)).alloc (.cells #[str xn, .int .i64 xb, .int .i64 xe, .slice Yk ynk yck] 66)) ∧ Blk ((wr.alloc (.cells #[str xn, .int .i64 xb, .int .i64 xe, .slice Xk xnk xck] 66)).alloc (.cells #[str xn, .int .i64 xb, .int .i64 xe, .slice Yk ynk yck] 66)) w.heap.size 30 #[.slice Aa na ca, .slice At nt ct, .slice (some ⟨g1, o1, none⟩) nx cx, .slice Ar nr cr, .slice An nn cn, .slice Ah nh ch, .slice Al nl cl] ∧ Blk ((wr.alloc (.cells #[str xn, .int .i64 xb, .int .i64 xe, .slice Xk xnk xck] 66)).alloc (.cells #[str xn, .int .i64 xb, .int .i64 xe, .slice Yk ynk yck] 66)) (w.heap.size + 1) 30 #[.slice Ba ma da, .slice Bt nt dt, .slice (some ⟨g2, o2, none⟩) nx dx, .slice Br nr dr, .slice Bn nn dn, .slice Bh nh dh, .slice Bl nl dl] from ⟨(HS.out.1.alloc HS.out.1.size (.cells #[str xn, .int .i64 xb, .int .i64 xe, .slice Xk xnk xck] 66)).alloc (Nat.le_trans HS.out.1.size hsz) (.cells #[str xn, .int .i64 xb, .int .i64 xe, .slice Yk ynk yck] 66), (HS.out.2.1.alloc (.cells #[str xn, .int .i64 xb, .int .i64 xe, .slice Xk xnk xck] 66)).alloc (.cells #[str xn, .int .i64 xb, .int .i64 xe, .slice Yk ynk yck] 66), (HS.out.2.2.alloc (.cells #[str xn, .int .i64 xb, .int .i64 xe, .slice Xk xnk xck] 66)).alloc (.cells #[str xn, .int .i64 xb, .int .i64 xe, .slice Yk ynk yck] 66)⟩)
         clear hbb CC HTO
         cases bb with
         | true =>
          have HI : Hid (c.texts.take (k + 1) = d.texts.take (k + 1)) := HT.out (by rw [same_iff.1 HBB.out]) hin.out
          clear HT HN hin
          go_wp2_with (go_at_call 32; refine HCC.out.mono ?_; rintro e' w6 ⟨rfl, qq, rfl⟩)
          go_roundw
          case rel => (first | exact ⟨k + 1, by omega, by go_num, ⟨below_drewN HST.out.1 _, HST.out.2.1, HST.out.2.2⟩, HI⟩ | ((repeat apply Exists.intro); exact ⟨⟨k + 1, by omega, by go_num, ⟨below_drewN HST.out.1 _, HST.out.2.1, HST.out.2.2⟩, HI⟩, rfl⟩))
          case measure => simp [intOf]; omega
         | false =>
          have HF := Lib.hid (same_no (c := c) (d := d) (.inr (.inr (.inl (HN.out (fun h => by injection h with j0 j1 j2 j3; have h2 := HBB.out; rw [same_t j3] at h2; cases h2))))))
          clear HT HN hin
          go_wp2_with (go_at_call 32; refine HCC.out.mono ?_; rintro e' w6 ⟨rfl, qq, rfl⟩)
          go_ret
          exact ⟨ret_bool HF.out.symm, below_drewN HST.out.1 _⟩
        ·have E3 : (xe == ye) = false := by simpa using e2
         have HF := Lib.hid (same_no (c := c) (d := d) (.inr (.inr (.inl (HN.out (fun h => by injection h with j0 j1 j2 j3; exact e2 j2))))))
         have HST : Hid (Below w.heap.size w ((wr.alloc (.cells #[str xn, .int .i64 xb, .int .i64 xe, .slice Xk xnk xck] 66)).alloc (.cells #[str xn, .int .i64 xb, .int .i64 ye, .slice Yk ynk yck] 66))) := ((⟨(HS.out.1.alloc HS.out.1.size (.cells #[str xn, .int .i64 xb, .int .i64 xe, .slice Xk xnk xck] 66)).alloc (Nat.le_trans HS.out.1.size hsz) (.cells #[str xn, .int .i64 xb, .int .i64 ye, .slice Yk ynk yck] 66), trivial⟩ : Below w.heap.size w ((wr.alloc (.cells #[str xn, .int .i64 xb, .int .i64 xe, .slice Xk xnk xck] 66)).alloc (.cells #[str xn, .int .i64 xb, .int .i64 ye, .slice Yk ynk yck] 66)) ∧ True)).1
         clear HT HN hin
         go_wp2
         go_ret
         exact ⟨ret_bool HF.out.symm, HST.out⟩
       ·have E3 : (xb == yb) = false := by simpa using e1
        have HF := Lib.hid (same_no (c := c) (d := d) (.inr (.inr (.inl (HN.out (fun h => by injection h with j0 j1 j2 j3; exact e1 j1))))))
        have HST : Hid (Below w.heap.size w ((wr.alloc (.cells #[str xn, .int .i64 xb, .int .i64 xe, .slice Xk xnk xck] 66)).alloc (.cells #[str xn, .int .i64 yb, .int .i64 ye, .slice Yk ynk yck] 66))) := ((⟨(HS.out.1.alloc HS.out.1.size (.cells #[str xn, .int .i64 xb, .int .i64 xe, .slice Xk xnk xck] 66)).alloc (Nat.le_trans HS.out.1.size hsz) (.cells #[str xn, .int .i64 yb, .int .i64 ye, .slice Yk ynk yck] 66), trivial⟩ : Below w.heap.size w ((wr.alloc (.cells #[str xn, .int .i64 xb, .int .i64 xe, .slice Xk xnk xck] 66)).alloc (.cells #[str xn, .int .i64 yb, .int .i64 ye, .slice Yk ynk yck] 66)) ∧ True)).1
        clear HT HN hin
        go_wp2
        go_ret
        exact ⟨ret_bool HF.out.symm, HST.out⟩
      ·have E3 : (xn == yn) = false := by simpa using e0
       have HF := Lib.hid (same_no (c := c) (d := d) (.inr (.inr (.inl (HN.out (fun h => by injection h with j0 j1 j2 j3; exact e0 j0))))))
       have HST : Hid (Below w.heap.size w ((wr.alloc (.cells #[str xn, .int .i64 xb, .int .i64 xe, .slice Xk xnk xck] 66)).alloc (.cells #[str yn, .int .i64 yb, .int .i64 ye, .slice Yk ynk yck] 66))) := ((⟨(HS.out.1.alloc HS.out.1.size (.cells #[str xn, .int .i64 xb, .int .i64 xe, .slice Xk xnk xck] 66)).alloc (Nat.le_trans HS.out.1.size hsz) (.cells #[str yn, .int .i64 yb, .int .i64 ye, .slice Yk ynk yck] 66), trivial⟩ : Below w.heap.size w ((wr.alloc (.cells #[str xn, .int .i64 xb, .int .i64 xe, .slice Xk xnk xck] 66)).alloc (.cells #[str yn, .int .i64 yb, .int .i64 ye, .slice Yk ynk yck] 66)) ∧ True)).1
       clear HT HN hin
       go_wp2
       go_ret
       exact ⟨ret_bool HF.out.symm, HST.out⟩
     ·have HE : Hid (c.texts = d.texts) := all_eq LCI.out LDI.out (by
       have h := hin.out
       rw [show k = nx by omega] at h; exact h)
      go_wp2
      go_meet
      case rel => exact ⟨hB, h0, h1, E1, HE⟩
  case rest =>
   clear q0 hB h0 h1
   obtain ⟨hB, h0, h1, E1, E2⟩ := hcut
   have q0 : wc.cell? ⟨w.heap.size, 3, none⟩ = some (.slice Ar nr cr) := h0.cell 3
   have LCI := Lib.hid LC.out.2.2.1
   have LDI := Lib.hid LD.out.2.2.1
   go_upto_block 6 with (fail)
   go_cut [] from 16 (fun wr => Below w.heap.size w wr ∧ Blk wr w.heap.size 30 #[.slice Aa na ca, .slice At nt ct, .slice Ax nx cx, .slice Ar nr cr, .slice An nn cn, .slice Ah nh ch, .slice Al nl cl] ∧ Blk wr (w.heap.size + 1) 30 #[.slice Ba ma da, .slice Bt nt dt, .slice Bx nx dx, .slice Br nr dr, .slice Bn nn dn, .slice Bh nh dh, .slice Bl nl dl] ∧ Hid (c.toks = d.toks) ∧ Hid (c.texts = d.texts) ∧ Hid (c.regs = d.regs))
   case first =>
    as_aux_lemma =>
     go_wp2
     clear q0
     go_loopw [167] (fun iv wr => ∃ k : Nat, k ≤ nr ∧ iv = .int .i64 k ∧ (Below w.heap.size w wr ∧ Blk wr w.heap.size 30 #[.slice Aa na ca, .slice At nt ct, .slice Ax nx cx, .slice Ar nr cr, .slice An nn cn, .slice Ah nh ch, .slice Al nl cl] ∧ Blk wr (w.heap.size + 1) 30 #[.slice Ba ma da, .slice Bt nt dt, .slice Bx nx dx, .slice Br nr dr, .slice Bn nn dn, .slice Bh nh dh, .slice Bl nl dl]) ∧ Hid (c.regs.take k = d.regs.take k)) (fun iv _ => nr - (intOf iv).toNat)
     case atStart => exact ⟨0, Nat.zero_le _, rfl, ⟨hB, h0, h1⟩, rfl⟩
     case round =>
      clear hB h0 h1
      obtain ⟨k, hk, rfl, ⟨hB, h0, h1⟩, hin⟩ := hrel
      by_cases hlt : k < nr
      ·obtain ⟨g1, o1, ⟨Xk, xnk, xck⟩, hk1, rfl, hg1, hto1, d10, d11, d12, d13⟩ := HC.out.r.at_ (k := k) hlt
       obtain ⟨g2, o2, ⟨Yk, ynk, yck⟩, hk2, rfl, hg2, hto2, d20, d21, d22, d23⟩ := HD.out.r.at_ (k := k) hlt
       replace d10 := (hB.cell (p := ⟨g1, _, none⟩) hg1).trans d10
       replace d11 := (hB.cell (p := ⟨g1, _, none⟩) hg1).trans d11
       replace d12 := (hB.cell (p := ⟨g1, _, none⟩) hg1).trans d12
       replace d13 := (hB.cell (p := ⟨g1, _, none⟩) hg1).trans d13
       replace d20 := (hB.cell (p := ⟨g2, _, none⟩) hg2).trans d20
       replace d21 := (hB.cell (p := ⟨g2, _, none⟩) hg2).trans d21
       replace d22 := (hB.cell (p := ⟨g2, _, none⟩) hg2).trans d22
       replace d23 := (hB.cell (p := ⟨g2, _, none⟩) hg2).trans d23
       have p3 : wr.cell? ⟨w.heap.size, 3, none⟩ = some (.slice (some ⟨g1, o1, none⟩) nr cr) := h0.cell 3
       have q3 : wr.cell? ⟨w.heap.size + 1, 3, none⟩ = some (.slice (some ⟨g2, o2, none⟩) nr dr) := h1.cell 3
       have ht := @take_eq _ c.regs d.regs k hk1 hk2
       have hne := @take_ne _ c.regs d.regs k hk1 hk2
       obtain ⟨⟨xn, xb, xe, xk⟩, hx⟩ : ∃ x, c.regs[k] = x := ⟨_, rfl⟩
       obtain ⟨⟨yn, yb, ye, yk⟩, hy⟩ : ∃ x, d.regs[k] = x := ⟨_, rfl⟩
       rw [hx] at d10 d11 d12 hto1
       rw [hy] at d20 d21 d22 hto2
       rw [hx, hy] at ht hne
       simp only [] at d10 d11 d12 d20 d21 d22
       have HT := Lib.hid ht
       have HN := Lib.hid hne
       have k0 : (0 : Int) ≤ k := by omega
       have k1 : (k : Int) < nr := by omega
       have hgw1 : g1 < wr.heap.size := Nat.lt_of_lt_of_le hg1 hB.size
       have hgw2 : g2 < wr.heap.size := Nat.lt_of_lt_of_le hg2 hB.size
       have hbw1 : w.heap.size + 1 < wr.heap.size := h1.lt
       have HTO := Lib.hid (And.intro hto1.2.2.2 hto2.2.2.2)
       have HS := Lib.hid (And.intro hB (And.intro h0 h1))
       have hsz : wr.heap.size ≤ (wr.alloc (.cells #[str xn, .int .i64 xb, .int .i64 xe, .slice Xk xnk xck] 69)).heap.size := by simp
       clear hx hy ht hne hto1 hto2 hB h0 h1
       by_cases e0 : xn = yn
       ·subst e0
        by_cases e1 : xb = yb
        ·subst e1
         by_cases e2 : xe = ye
         ·subst e2
          have CC := rEqL_pair_any Xk xnk xck Yk ynk yck xk yk ((wr.alloc (.cells #[str xn, .int .i64 xb, .int .i64 xe, .slice Xk xnk xck] 69)).alloc (.cells #[str xn, .int .i64 xb, .int .i64 xe, .slice Yk ynk yck] 69)) ((HTO.out.1.under ((HS.out.1.alloc HS.out.1.size (.cells #[str xn, .int .i64 xb, .int .i64 xe, .slice Xk xnk xck] 69)).alloc (Nat.le_trans HS.out.1.size hsz) (.cells #[str xn, .int .i64 xb, .int .i64 xe, .slice Yk ynk yck] 69))).up ((HS.out.1.alloc HS.out.1.size (.cells #[str xn, .int .i64 xb, .int .i64 xe, .slice Xk xnk xck] 69)).alloc (Nat.le_trans HS.out.1.size hsz) (.cells #[str xn, .int .i64 xb, .int .i64 xe, .slice Yk ynk yck] 69)).size) ((HTO.out.2.under ((HS.out.1.alloc HS.out.1.size (.cells #[str xn, .int .i64 xb, .int .i64 xe, .slice Xk xnk xck] 69)).alloc (Nat.le_trans HS.out.1.size hsz) (.cells #[str xn, .int .i64 xb, .int .i64 xe, .slice Yk ynk yck] 69))).up ((HS.out.1.alloc HS.out.1.size (.cells #[str xn, .int .i64 xb, .int .i64 xe, .slice Xk xnk xck] 69)).alloc (Nat.le_trans HS.out.1.size hsz) (.cells #[str xn, .int .i64 xb, .int .i64 xe, .slice Yk ynk yck] 69)).size)
          obtain ⟨bb, hbb⟩ : ∃ b, same xk yk = b := ⟨_, rfl⟩
          rw [hbb] at CC
          have HBB := Lib.hid hbb
          have HCC := Lib.hid CC
          have HST := Lib.hid (show Below w.heap.size w ((wr.alloc (.cells #[str xn, .int .i64 xb, .int .i64 xe, .slice Xk xnk xck] 69)).alloc (.cells #[str xn, .int .i64 xb, .int .i64 xe, .slice Yk ynk yck] 69)) ∧ Blk ((wr.alloc (.cells #[str xn, .int .i64 xb, .int .i64 xe, .slice Xk xnk xck] 69)).alloc (.cells #[str xn, .int .i64 xb, .int .i64 xe, .slice Yk ynk yck] 69)) w.heap.size 30 #[.slice Aa na ca, .slice At nt ct, .slice Ax nx cx, .slice (some ⟨g1, o1, none⟩) nr cr, .slice An nn cn, .slice Ah nh ch, .slice Al nl cl] ∧ Blk ((wr.alloc (.cells #[str xn, .int .i64 xb, .int .i64 xe, .slice Xk xnk xck] 69)).alloc (.cells #[str xn, .int .i64 xb, .int .i64 xe, .slice Yk ynk yck] 69)) (w.heap.size + 1) 30 #[.slice Ba ma da, .slice Bt nt dt, .slice Bx nx dx, .slice (some ⟨g2, o2, none⟩) nr dr, .slice Bn nn dn, .slice Bh nh dh, .slice Bl nl dl] from ⟨(HS.out.1.alloc HS.out.1.size (.cells #[str xn, .int .i64 xb, .int .i64 xe, .slice Xk xnk xck] 69)).alloc (Nat.le_trans HS.out.1.size hsz) (.cells #[str xn, .int .i64 xb, .int .i64 xe, .slice Yk ynk yck] 69), (HS.out.2.1.alloc (.cells #[str xn, .int .i64 xb, .int .i64 xe, .slice Xk xnk xck] 69)).alloc (.cells #[str xn, .int .i64 xb, .int .i64 xe, .slice Yk ynk yck] 69), (HS.out.2.2.alloc (.cells #[str xn, .int .i64 xb, .int .i64 xe, .slice Xk xnk xck] 69)).alloc (.cells #[str xn, .int .i64 xb, .int .i64 xe, .slice Yk ynk yck] 69)⟩)
          clear hbb CC HTO
          cases bb with
          | true =>
           have HI : Hid (c.regs.take (k + 1) = d.regs.take (k + 1)) := HT.out (by rw [same_iff.1 HBB.out]) hin.out
           clear HT HN hin
           go_wp2_with (go_at_call 32; refine HCC.out.mono ?_; rintro e' w6 ⟨rfl, qq, rfl⟩)
           go_roundw
           case rel => (first | exact ⟨k + 1, by omega, by go_num, ⟨below_drewN HST.out.1 _, HST.out.2.1, HST.out.2.2⟩, HI⟩ | ((repeat apply Exists.intro); exact ⟨⟨k + 1, by omega, by go_num, ⟨below_drewN HST.out.1 _, HST.out.2.1, HST.out.2.2⟩, HI⟩, rfl⟩))
           case measure => simp [intOf]; omega
          | false =>
           have HF := Lib.hid (same_no (c := c) (d := d) (.inr (.inr (.inr (.inl (HN.out (fun h => by injection h with j0 j1 j2 j3; have h2 := HBB.out; rw [same_t j3] at h2; cases h2)))))))
           clear HT HN hin
           go_wp2_with (go_at_call 32; refine HCC.out.mono ?_; rintro e' w6 ⟨rfl, qq, rfl⟩)
           go_ret
           exact ⟨ret_bool HF.out.symm, below_drewN HST.out.1 _⟩
         ·have E3 : (xe == ye) = false := by simpa using e2
          have HF := Lib.hid (same_no (c := c) (d := d) (.inr (.inr (.inr (.inl (HN.out (fun h => by injection h with j0 j1 j2 j3; exact e2 j2)))))))
          have HST : Hid (Below w.heap.size w ((wr.alloc (.cells #[str xn, .int .i64 xb, .int .i64 xe, .slice Xk xnk xck] 69)).alloc (.cells #[str xn, .int .i64 xb, .int .i64 ye, .slice Yk ynk yck] 69))) := ((⟨(HS.out.1.alloc HS.out.1.size (.cells #[str xn, .int .i64 xb, .int .i64 xe, .slice Xk xnk xck] 69)).alloc (Nat.le_trans HS.out.1.size hsz) (.cells #[str xn, .int .i64 xb, .int .i64 ye, .slice Yk ynk yck] 69), trivial⟩ : Below w.heap.size w ((wr.alloc (.cells #[str xn, .int .i64 xb, .int .i64 xe, .slice Xk xnk xck] 69)).alloc (.cells #[str xn, .int .i64 xb, .int .i64 ye, .slice Yk ynk yck] 69)) ∧ True)).1
          clear HT HN hin
          go_wp2
          go_ret
          exact ⟨ret_bool HF.out.symm, HST.out⟩
        ·have E3 : (xb == yb) = false := by simpa using e1
         have HF := Lib.hid (same_no (c := c) (d := d) (.inr (.inr (.inr (.inl (HN.out (fun h => by injection h with j0 j1 j2 j3; exact e1 j1)))))))
         have HST : Hid (Below w.heap.size w ((wr.alloc (.cells #[str xn, .int .i64 xb, .int .i64 xe, .slice Xk xnk xck] 69)).alloc (.cells #[str xn, .int .i64 yb, .int .i64 ye, .slice Yk ynk yck] 69))) := ((⟨(HS.out.1.alloc HS.out.1.size (.cells #[str xn, .int .i64 xb, .int .i64 xe, .slice Xk xnk xck] 69)).alloc (Nat.le_trans HS.out.1.size hsz) (.cells #[str xn, .int .i64 yb, .int .i64 ye, .slice Yk ynk yck] 69), trivial⟩ : Below w.heap.size w ((wr.alloc (.cells #[str xn, .int .i64 xb, .int .i64 xe, .slice Xk xnk xck] 69)).alloc (.cells #[str xn, .int .i64 yb, .int .i64 ye, .slice Yk ynk yck] 69)) ∧ True)).1
         clear HT HN hin
         go_wp2
         go_ret
         exact ⟨ret_bool HF.out.symm, HST.out⟩
       ·have E3 : (xn == yn) = false := by simpa using e0
        have HF := Lib.hid (same_no (c := c) (d := d) (.inr (.inr (.inr (.inl (HN.out (fun h => by injection h with j0 j1 j2 j3; exact e0 j0)))))))
        have HST : Hid (Below w.heap.size w ((wr.alloc (.cells #[str xn, .int .i64 xb, .int .i64 xe, .slice Xk xnk xck] 69)).alloc (.cells #[str yn, .int .i64 yb, .int .i64 ye, .slice Yk ynk yck] 69))) := ((⟨(HS.out.1.alloc HS.out.1.size (.cells #[str xn, .int .i64 xb, .int .i64 xe, .slice Xk xnk xck] 69)).alloc (Nat.le_trans HS.out.1.size hsz) (.cells #[str yn, .int .i64 yb, .int .i64 ye, .slice Yk ynk yck] 69), trivial⟩ : Below w.heap.size w ((wr.alloc (.cells #[str xn, .int .i64 xb, .int .i64 xe, .slice Xk xnk xck] 69)).alloc (.cells #[str yn, .int .i64 yb, .int .i64 ye, .slice Yk ynk yck] 69)) ∧ True)).1
        clear HT HN hin
        go_wp2
        go_ret
        exact ⟨ret_bool HF.out.symm, HST.out⟩
      ·have HE : Hid (c.regs = d.regs) := all_eq LCI.out LDI.out (by
        have h := hin.out
        rw [show k = nr by omega] at h; exact h)
       go_wp2
       go_meet
       case rel => exact ⟨hB, h0, h1, E1, E2, HE⟩
   case rest =>
    clear q0 hB h0 h1
    obtain ⟨hB, h0, h1, E1, E2, E3⟩ := hcut
    have q0 : wc.cell? ⟨w.heap.size, 4, none⟩ = some (.slice An nn cn) := h0.cell 4
    have LCI := Lib.hid LC.out.2.2.2.1
    have LDI := Lib.hid LD.out.2.2.2.1
    go_upto_block 8 with (fail)
    go_cut [] from 16 (fun wr => Below w.heap.size w wr ∧ Blk wr w.heap.size 30 #[.slice Aa na ca, .slice At nt ct, .slice Ax nx cx, .slice Ar nr cr, .slice An nn cn, .slice Ah nh ch, .slice Al nl cl] ∧ Blk wr (w.heap.size + 1) 30 #[.slice Ba ma da, .slice Bt nt dt, .slice Bx nx dx, .slice Br nr dr, .slice Bn nn dn, .slice Bh nh dh, .slice Bl nl dl] ∧ Hid (c.toks = d.toks) ∧ Hid (c.texts = d.texts) ∧ Hid (c.regs = d.regs) ∧ Hid (c.nods = d.nods))
    case first =>
     as_aux_lemma =>
      go_wp2
      clear q0
      go_loopw [208] (fun iv wr => ∃ k : Nat, k ≤ nn ∧ iv = .int .i64 k ∧ (Below w.heap.size w wr ∧ Blk wr w.heap.size 30 #[.slice Aa na ca, .slice At nt ct, .slice Ax nx cx, .slice Ar nr cr, .slice An nn cn, .slice Ah nh ch, .slice Al nl cl] ∧ Blk wr (w.heap.size + 1) 30 #[.slice Ba ma da, .slice Bt nt dt, .slice Bx nx dx, .slice Br nr dr, .slice Bn nn dn, .slice Bh nh dh, .slice Bl nl dl]) ∧ Hid (c.nods.take k = d.nods.take k)) (fun iv _ => nn - (intOf iv).toNat)
      case atStart => exact ⟨0, Nat.zero_le _, rfl, ⟨hB, h0, h1⟩, rfl⟩
      case round =>
       clear hB h0 h1
       obtain ⟨k, hk, rfl, ⟨hB, h0, h1⟩, hin⟩ := hrel
       by_cases hlt : k < nn
       ·obtain ⟨g1, o1, hk1, rfl, hg1, hl1, d10, d11, d12, d13⟩ := (HC.out.n.under hB).at_ (k := k) hlt
        obtain ⟨g2, o2, hk2, rfl, hg2, hl2, d20, d21, d22, d23⟩ := (HD.out.n.under hB).at_ (k := k) hlt
        have p4 : wr.cell? ⟨w.heap.size, 4, none⟩ = some (.slice (some ⟨g1, o1, none⟩) nn cn) := h0.cell 4
        have q4 : wr.cell? ⟨w.heap.size + 1, 4, none⟩ = some (.slice (some ⟨g2, o2, none⟩) nn dn) := h1.cell 4
        have ht := @take_eq _ c.nods d.nods k hk1 hk2
        have hne := @take_ne _ c.nods d.nods k hk1 hk2
        obtain ⟨⟨x0, x1, x2, x3⟩, hx⟩ : ∃ x, c.nods[k] = x := ⟨_, rfl⟩
        obtain ⟨⟨y0, y1, y2, y3⟩, hy⟩ : ∃ x, d.nods[k] = x := ⟨_, rfl⟩
        rw [hx] at d10 d11 d12 d13
        rw [hy] at d20 d21 d22 d23
        rw [hx, hy] at ht hne
        simp only [] at d10 d11 d12 d13 d20 d21 d22 d23
        have HT := Lib.hid ht
        have HN := Lib.hid hne
        have k0 : (0 : Int) ≤ k := by omega
        have k1 : (k : Int) < nn := by omega
        have HS := Lib.hid (And.intro hB (And.intro h0 h1))
        clear hx hy ht hne hl1 hl2 hB h0 h1
        by_cases e0 : x0 = y0
        ·subst e0
         by_cases e1 : x1 = y1
         ·subst e1
          by_cases e2 : x2 = y2
          ·subst e2
           by_cases e3 : x3 = y3
           ·subst e3
            have HI : Hid (c.nods.take (k + 1) = d.nods.take (k + 1)) := HT.out rfl hin.out
            clear HT HN hin
            go_wp2
            go_quiet (fail)
            go_wp2
            go_roundw
            case rel => (first | exact ⟨k + 1, by omega, by go_num, ⟨below_drewN HS.out.1 _, HS.out.2.1, HS.out.2.2⟩, HI⟩ | ((repeat apply Exists.intro); exact ⟨⟨k + 1, by omega, by go_num, ⟨below_drewN HS.out.1 _, HS.out.2.1, HS.out.2.2⟩, HI⟩, rfl⟩))
            case measure => simp [intOf]; omega
           ·have HF := Lib.hid (same_no (c := c) (d := d) (.inr (.inr (.inr (.inr (.inl (HN.out (fun h => by injection h with j0 j1 j2 j3; exact e3 j3))))))))
            clear HT HN hin
            go_wp2
            go_quiet (fail)
            go_wp2
            go_ret
            exact ⟨ret_bool HF.out.symm, below_drewN HS.out.1 _⟩
          ·have HF := Lib.hid (same_no (c := c) (d := d) (.inr (.inr (.inr (.inr (.inl (HN.out (fun h => by injection h with j0 j1 j2 j3; exact e2 j2))))))))
           clear HT HN hin
           go_wp2
           go_quiet (fail)
           go_wp2
           go_ret
           exact ⟨ret_bool HF.out.symm, below_drewN HS.out.1 _⟩
         ·have HF := Lib.hid (same_no (c := c) (d := d) (.inr (.inr (.inr (.inr (.inl (HN.out (fun h => by injection h with j0 j1 j2 j3; exact e1 j1))))))))
          clear HT HN hin
          go_wp2
          go_quiet (fail)
          go_wp2
          go_ret
          exact ⟨ret_bool HF.out.symm, below_drewN HS.out.1 _⟩
        ·have HF := Lib.hid (same_no (c := c) (d := d) (.inr (.inr (.inr (.inr (.inl (HN.out (fun h => by injection h with j0 j1 j2 j3; exact e0 j0))))))))
         clear HT HN hin
         go_wp2
         go_quiet (fail)
         go_wp2
         go_ret
         exact ⟨ret_bool HF.out.symm, below_drewN HS.out.1 _⟩
       ·have HE : Hid (c.nods = d.nods) := all_eq LCI.out LDI.out (by
         have h := hin.out
         rw [show k = nn by omega] at h; exact h)
        go_wp2
        go_meet
        case rel => exact ⟨hB, h0, h1, E1, E2, E3, HE⟩
    case rest =>
     clear q0 hB h0 h1
     obtain ⟨hB, h0, h1, E1, E2, E3, E4⟩ := hcut
     have q0 : wc.cell? ⟨w.heap.size, 5, none⟩ = some (.slice Ah nh ch) := h0.cell 5
     have LCI := Lib.hid LC.out.2.2.2.2.1
     have LDI := Lib.hid LD.out.2.2.2.2.1
     go_upto_block 10 with (fail)
     go_cut [] from 16 (fun wr => Below w.heap.size w wr ∧ Blk wr w.heap.size 30 #[.slice Aa na ca, .slice At nt ct, .slice Ax nx cx, .slice Ar nr cr, .slice An nn cn, .slice Ah nh ch, .slice Al nl cl] ∧ Blk wr (w.heap.size + 1) 30 #[.slice Ba ma da, .slice Bt nt dt, .slice Bx nx dx, .slice Br nr dr, .slice Bn nn dn, .slice Bh nh dh, .slice Bl nl dl] ∧ Hid (c.toks = d.toks) ∧ Hid (c.texts = d.texts) ∧ Hid (c.regs = d.regs) ∧ Hid (c.nods = d.nods) ∧ Hid (c.heads = d.heads))
     case first =>
      as_aux_lemma =>
       go_wp2
       clear q0
       go_loopw [226] (fun iv wr => ∃ k : Nat, k ≤ nh ∧ iv = .int .i64 k ∧ (Below w.heap.size w wr ∧ Blk wr w.heap.size 30 #[.slice Aa na ca, .slice At nt ct, .slice Ax nx cx, .slice Ar nr cr, .slice An nn cn, .slice Ah nh ch, .slice Al nl cl] ∧ Blk wr (w.heap.size + 1) 30 #[.slice Ba ma da, .slice Bt nt dt, .slice Bx nx dx, .slice Br nr dr, .slice Bn nn dn, .slice Bh nh dh, .slice Bl nl dl]) ∧ Hid (c.heads.take k = d.heads.take k)) (fun iv _ => nh - (intOf iv).toNat)
       case atStart => exact ⟨0, Nat.zero_le _, rfl, ⟨hB, h0, h1⟩, rfl⟩
       case round =>
        clear hB h0 h1
        obtain ⟨k, hk, rfl, ⟨hB, h0, h1⟩, hin⟩ := hrel
        by_cases hlt : k < nh
        ·obtain ⟨g1, o1, hk1, rfl, hg1, hl1, d10⟩ := (HC.out.h.under hB).at_ (k := k) hlt
         obtain ⟨g2, o2, hk2, rfl, hg2, hl2, d20⟩ := (HD.out.h.under hB).at_ (k := k) hlt
         have p5 : wr.cell? ⟨w.heap.size, 5, none⟩ = some (.slice (some ⟨g1, o1, none⟩) nh ch) := h0.cell 5
         have q5 : wr.cell? ⟨w.heap.size + 1, 5, none⟩ = some (.slice (some ⟨g2, o2, none⟩) nh dh) := h1.cell 5
         have ht := @take_eq _ c.heads d.heads k hk1 hk2
         have hne := @take_ne _ c.heads d.heads k hk1 hk2
         obtain ⟨x0, hx⟩ : ∃ x, c.heads[k] = x := ⟨_, rfl⟩
         obtain ⟨y0, hy⟩ : ∃ x, d.heads[k] = x := ⟨_, rfl⟩
         rw [hx] at d10
         rw [hy] at d20
         rw [hx, hy] at ht hne
         have HT := Lib.hid ht
         have HN := Lib.hid hne
         have k0 : (0 : Int) ≤ k := by omega
         have k1 : (k : Int) < nh := by omega
         have HS := Lib.hid (And.intro hB (And.intro h0 h1))
         clear hx hy ht hne hl1 hl2 hB h0 h1
         by_cases e0 : x0 = y0
         ·subst e0
          have HI : Hid (c.heads.take (k + 1) = d.heads.take (k + 1)) := HT.out rfl hin.out
          clear HT HN hin
          go_wp2
          go_quiet (fail)
          go_wp2
          go_roundw
          case rel => (first | exact ⟨k + 1, by omega, by go_num, ⟨below_drewN HS.out.1 _, HS.out.2.1, HS.out.2.2⟩, HI⟩ | ((repeat apply Exists.intro); exact ⟨⟨k + 1, by omega, by go_num, ⟨below_drewN HS.out.1 _, HS.out.2.1, HS.out.2.2⟩, HI⟩, rfl⟩))
          case measure => simp [intOf]; omega
         ·have E3 : (x0 == y0) = false := by simpa using e0
          have HF := Lib.hid (same_no (c := c) (d := d) (.inr (.inr (.inr (.inr (.inr (.inl (HN.out (fun h => by exact e0 h)))))))))
          clear HT HN hin
          go_wp2
          go_quiet (fail)
          go_wp2
          go_ret
          exact ⟨ret_bool HF.out.symm, below_drewN HS.out.1 _⟩
        ·have HE : Hid (c.heads = d.heads) := all_eq LCI.out LDI.out (by
          have h := hin.out
          rw [show k = nh by omega] at h; exact h)
         go_wp2
         go_meet
         case rel => exact ⟨hB, h0, h1, E1, E2, E3, E4, HE⟩
     case rest =>
      clear q0 hB h0 h1
      obtain ⟨hB, h0, h1, E1, E2, E3, E4, E5⟩ := hcut
      have q0 : wc.cell? ⟨w.heap.size, 6, none⟩ = some (.slice Al nl cl) := h0.cell 6
      have LCI := Lib.hid LC.out.2.2.2.2.2
      have LDI := Lib.hid LD.out.2.2.2.2.2
      go_upto_block 12 with (fail)
      go_cut [] from 16 (fun wr => Below w.heap.size w wr ∧ Blk wr w.heap.size 30 #[.slice Aa na ca, .slice At nt ct, .slice Ax nx cx, .slice Ar nr cr, .slice An nn cn, .slice Ah nh ch, .slice Al nl cl] ∧ Blk wr (w.heap.size + 1) 30 #[.slice Ba ma da, .slice Bt nt dt, .slice Bx nx dx, .slice Br nr dr, .slice Bn nn dn, .slice Bh nh dh, .slice Bl nl dl] ∧ Hid (c.toks = d.toks) ∧ Hid (c.texts = d.texts) ∧ Hid (c.regs = d.regs) ∧ Hid (c.nods = d.nods) ∧ Hid (c.heads = d.heads) ∧ Hid (c.rels = d.rels))
      case first =>
       as_aux_lemma =>
        go_wp2
        clear q0
        go_loopw [244] (fun iv wr => ∃ k : Nat, k ≤ nl ∧ iv = .int .i64 k ∧ (Below w.heap.size w wr ∧ Blk wr w.heap.size 30 #[.slice Aa na ca, .slice At nt ct, .slice Ax nx cx, .slice Ar nr cr, .slice An nn cn, .slice Ah nh ch, .slice Al nl cl] ∧ Blk wr (w.heap.size + 1) 30 #[.slice Ba ma da, .slice Bt nt dt, .slice Bx nx dx, .slice Br nr dr, .slice Bn nn dn, .slice Bh nh dh, .slice Bl nl dl]) ∧ Hid (c.rels.take k = d.rels.take k)) (fun iv _ => nl - (intOf iv).toNat)
        case atStart => exact ⟨0, Nat.zero_le _, rfl, ⟨hB, h0, h1⟩, rfl⟩
        case round =>
         clear hB h0 h1
         obtain ⟨k, hk, rfl, ⟨hB, h0, h1⟩, hin⟩ := hrel
         by_cases hlt : k < nl
         ·obtain ⟨g1, o1, hk1, rfl, hg1, hl1, d10⟩ := (HC.out.l.under hB).at_ (k := k) hlt
          obtain ⟨g2, o2, hk2, rfl, hg2, hl2, d20⟩ := (HD.out.l.under hB).at_ (k := k) hlt
          have p6 : wr.cell? ⟨w.heap.size, 6, none⟩ = some (.slice (some ⟨g1, o1, none⟩) nl cl) := h0.cell 6
          have q6 : wr.cell? ⟨w.heap.size + 1, 6, none⟩ = some (.slice (some ⟨g2, o2, none⟩) nl dl) := h1.cell 6
          have ht := @take_eq _ c.rels d.rels k hk1 hk2
          have hne := @take_ne _ c.rels d.rels k hk1 hk2
          obtain ⟨x0, hx⟩ : ∃ x, c.rels[k] = x := ⟨_, rfl⟩
          obtain ⟨y0, hy⟩ : ∃ x, d.rels[k] = x := ⟨_, rfl⟩
          rw [hx] at d10
          rw [hy] at d20
          rw [hx, hy] at ht hne
          have HT := Lib.hid ht
          have HN := Lib.hid hne
          have k0 : (0 : Int) ≤ k := by omega
          have k1 : (k : Int) < nl := by omega
          have HS := Lib.hid (And.intro hB (And.intro h0 h1))
          clear hx hy ht hne hl1 hl2 hB h0 h1
          by_cases e0 : x0 = y0
          ·subst e0
           have HI : Hid (c.rels.take (k + 1) = d.rels.take (k + 1)) := HT.out rfl hin.out
           clear HT HN hin
           go_wp2
           go_quiet (fail)
           go_wp2
           go_roundw
           case rel => (first | exact ⟨k + 1, by omega, by go_num, ⟨below_drewN HS.out.1 _, HS.out.2.1, HS.out.2.2⟩, HI⟩ | ((repeat apply Exists.intro); exact ⟨⟨k + 1, by omega, by go_num, ⟨below_drewN HS.out.1 _, HS.out.2.1, HS.out.2.2⟩, HI⟩, rfl⟩))
           case measure => simp [intOf]; omega
          ·have E3 : (x0 == y0) = false := by simpa using e0
           have HF := Lib.hid (same_no (c := c) (d := d) (.inr (.inr (.inr (.inr (.inr (.inr (HN.out (fun h => by exact e0 h)))))))))
           clear HT HN hin
           go_wp2
           go_quiet (fail)
           go_wp2
           go_ret
           exact ⟨ret_bool HF.out.symm, below_drewN HS.out.1 _⟩
         ·have HE : Hid (c.rels = d.rels) := all_eq LCI.out LDI.out (by
           have h := hin.out
           rw [show k = nl by omega] at h; exact h)
          go_wp2
          go_meet
          case rel => exact ⟨hB, h0, h1, E1, E2, E3, E4, E5, HE⟩
      case rest =>
       clear q0 hB h0 h1
       obtain ⟨hB, h0, h1, E1, E2, E3, E4, E5, E6⟩ := hcut
       have HE : Hid (same c d = true) := (same_C c d).2 ⟨R0.out, same_t E1.out, same_t E2.out, same_t E3.out, same_t E4.out, same_t E5.out, same_t E6.out⟩
       go_wp2
       go_ret
       exact ⟨ret_bool HE.out.symm, hB⟩

theorem refEqual_any (H K : CH) (c d : Cor.C) (w : World) (hc : Reads w w.heap.size H c) (hd : Reads w w.heap.size K d) : Calls Tryz.prog 11 #[H.v, K.v] w (Kept (.bool (same c d)) w) := by
 by_cases hg : same c.attrs d.attrs = true ∧ H.t.n = K.t.n ∧ H.x.n = K.x.n ∧ H.r.n = K.r.n ∧ H.n.n = K.n.n ∧ H.h.n = K.h.n ∧ H.l.n = K.l.n
 ·exact refEqual_good H K c d w hc hd hg
 ·exact refEqual_bad H K c d w hc hd hg
end Go.Proofs.YtgkdaebiefhgdaaGreatDoor
