/-
 Several texts of this seat, one behind the other: VertTok, VertLine. No conditions but those of each.
-/
import Derived.Test.YtgkdaebiefhgdaaGreatDoorPVertMm
import Derived.Test.YtgkdaebiefhgdaaGreatDoorPVertPl
import Derived.Test.YtgkdaebiefhgdaaGreatDoorPVertSp
import Derived.Test.YtgkdaebiefhgdaaGreatDoorPVertVc
import Derived.Test.YtgkdaebiefhgdaaGreatDoorPMarkAll
import Derived.RegionTactic
import Derived.Test.YtgkdaebiefhgdaaGreatDoorPVertBgn
import Derived.Laws.EntriesVeiled
namespace Go.Proofs.YtgkdaebiefhgdaaGreatDoor
set_option linter.unusedSimpArgs false
set_option linter.unusedVariables false
open Go.RowKit
open Feat (Bs)
open Tagp (KV unesc)
open Vert (Rd splitT fields tokenP)
def Lines (B g : Nat) (ats : List At) (w : World) (r : Except (Nat × Nat) Rd) (e : Ending) (w' : World) : Prop :=
 Below B w w' ∧ Only w w' ∧ match r with
  | .error p => e = .returned (.agg #[.int .i64 (p.1 : Nat), .int .i64 (p.2 : Nat)])
  | .ok y => e = .returned (.agg #[.int .i64 0, .int .i64 0]) ∧ ∃ h, OwnR w' B g h ats y
theorem Lines.err {B g : Nat} {ats : List At} {w w' : World} {p : Nat × Nat} {e : Ending} (hB : B ≤ w.heap.size) (h : Below w.heap.size w w') (he : e = .returned (.agg #[.int .i64 (p.1 : Nat), .int .i64 (p.2 : Nat)])) : Lines B g ats w (.error p) e w' := ⟨h.mono hB, Only.below h, he⟩
theorem results_tok {w : World} {g : Nat} {x y : Value} (tmps : Array Value) (h4 : tmps.getD 4 undef = .pointer (some ⟨g, 0, none⟩)) (hg : Blk w g 53 #[x, y]) :
  (results Tryz.f58 tmps).run Tryz.prog w = .ok (.agg #[x, y]) w := by
 have hp' : tmps[4]?.getD undef = .pointer (some ⟨g, 0, none⟩) := by simpa using h4
 have c0 := hg.cell 0
 have c1 := hg.cell 1
 simp only [List.getElem?_toArray, List.getElem?_cons_zero, List.getElem?_cons_succ] at c0 c1
 simp [results, Tryz.f58, hp', asAddr, c0, c1, go_sem]
theorem info_slsV : (Tryz.prog.info? 28).map (fun i => (i.zero, i.size, i.bytes)) = some (some (.slice none 0 0), 1, 24) := by kernel_rfl
attribute [local go_sem] byte_mk ByteArray.extract_mk
set_option maxRecDepth 100000 in
set_option maxHeartbeats 4000000 in
theorem token_any (B g : Nat) (h : RdH) (ats : List At) (s : Rd) (l : Bs) (m : Int) (w : World) (k : OwnR w B g h ats s) (hB : 0 < B) (hl : l.length ≤ 1048576) (hm : w.cell? ⟨0, 0, none⟩ = some (.int .i64 m)) :
  Calls Tryz.prog 58 #[.pointer (some ⟨g, 0, none⟩), str l] w (Lines B g ats w (tokenP ats s l)) := by
 obtain ⟨⟨Aa, na, ca⟩, ⟨At', nt, ct⟩, ⟨Ax, nx, cx⟩, ⟨Ar, nr, cr⟩, ⟨Ao, no, co⟩⟩ := h
 obtain ⟨toks, texts, regs, opn, tx⟩ := s
 obtain ⟨i0, hi0, hz0, hz1, hz2⟩ := info_parts info_string
 have hBg : B ≤ w.heap.size := Nat.le_trans k.bg (Nat.le_of_lt k.blk.lt)
 have hB0 := (Below.refl B w).alloc hBg (.cells #[.int .i64 0, .int .i64 0] 53)
 have kb := k.alloc (.cells #[.int .i64 0, .int .i64 0] 53)
 have hF := Blk.new w 53 #[.int .i64 0, .int .i64 0]
 have c8 : _ = some (Value.bool tx) := kb.blk.cell 8
 have c1 : _ = some (Value.slice At' nt ct) := kb.blk.cell 1
 have v0 : _ = some (Value.int .i64 0) := hF.cell 0
 have v1 : _ = some (Value.int .i64 0) := hF.cell 1
 have z0 := hF.free 0
 have z1 := hF.free 1
 have ht : toks.length = nt := k.t.reads.len
 have kt := k.ok.t
 dsimp only at kt
 have HB0 := Lib.hid hB0
 have HKB := Lib.hid kb
 have HFB := Lib.hid hF
 clear hB0 kb hF
 cases tx with
 | false =>
  have HR : Hid (tokenP ats ⟨toks, texts, regs, opn, false⟩ l = .error (0, 17)) := by show _ = _; unfold tokenP; rfl
  go_enter Tryz.func58, Tryz.ntmps58
  go_wp2
  refine bodyPost_ret (results_tok _ rfl (Blk.new w _ _)) rfl ?_
  rw [HR.out]
  exact Lines.err hBg ((Below.refl w.heap.size w).alloc (Nat.le_refl _) _) rfl
 | true =>
  by_cases hmany : nt = 4096
  ·have HR : Hid (tokenP ats ⟨toks, texts, regs, opn, true⟩ l = .error (0, 2)) := by show _ = _; unfold tokenP; dsimp only; rw [if_neg (by simp), if_pos (by rw [ht]; exact hmany)]
   have hm2 : ((nt : Int) == 4096) = true := by rw [beq_iff_eq]; omega
   go_enter Tryz.func58, Tryz.ntmps58
   go_wp2
   refine bodyPost_ret (results_tok _ rfl (Blk.new w _ _)) rfl ?_
   rw [HR.out]
   exact Lines.err hBg ((Below.refl w.heap.size w).alloc (Nat.le_refl _) _) rfl
  ·have hm2 : ((nt : Int) == 4096) = false := by rw [beq_eq_false_iff_ne]; omega
   have hn4 : toks.length ≠ 4096 := by rw [ht]; exact hmany
   have hna : ats.length = na := k.a.reads.len
   obtain ⟨P, hP⟩ : ∃ P, splitT l = P := ⟨_, rfl⟩
   have hPt : tot P = l.length + 1 := by rw [← hP]; exact splitT_tot l
   have HSP := Lib.hid (split_any l m (w.alloc (.cells #[.int .i64 0, .int .i64 0] 53)) (by omega) ((HB0.out.cell hB).trans hm))
   rw [hP] at HSP
   have HP := Lib.hid hP
   have hb1 : Below w.heap.size w (w.alloc (.cells #[.int .i64 0, .int .i64 0] 53)) := (Below.refl _ _).alloc (Nat.le_refl _) _
   have HW2 : Hid (Below w.heap.size w ((w.alloc (.cells #[.int .i64 0, .int .i64 0] 53)).alloc (.cells (strs P).toArray 9))) := hb1.alloc hb1.size _
   have HF2 : Hid (Blk ((w.alloc (.cells #[.int .i64 0, .int .i64 0] 53)).alloc (.cells (strs P).toArray 9)) w.heap.size 53 #[.int .i64 0, .int .i64 0]) := HFB.out.alloc _
   have HG2 : Hid (Blk ((w.alloc (.cells #[.int .i64 0, .int .i64 0] 53)).alloc (.cells (strs P).toArray 9)) (w.heap.size + 1) 9 (strs P).toArray) := by
    have := Blk.new (w.alloc (.cells #[.int .i64 0, .int .i64 0] 53)) 9 (strs P).toArray
    rwa [World.size_alloc] at this
   have HKW := Lib.hid k
   have hPl : P.length ≤ l.length + 1 := by
    have : ∀ L : List Bs, L.length ≤ tot L := fun L => by
     induction L with
     | nil => exact Nat.le_refl _
     | cons a L ih => rw [tot_cons, List.length_cons]; omega
    rw [← hPt]; exact this P
   clear hb1 k hP hmany
   go_enter Tryz.func58, Tryz.ntmps58
   go_wp2_with fail
   refine HSP.out.mono ?_
   rintro en w' ⟨rfl, rfl⟩
   rw [World.size_alloc]
   have HW3 := HW2.out
   have HF3 := HF2.out
   have HG3 := HG2.out
   generalize (w.alloc (.cells #[.int .i64 0, .int .i64 0] 53)).alloc (.cells (strs P).toArray 9) = w2 at HW3 HF3 HG3 ⊢
   clear HSP HW2 HF2 HG2 v0 v1 z0 z1 c8 c1
   go_wp2
   go_loopw [32, 6, 5] (fun iv av vv wr => ∃ (j a : Nat) (vs : List Bs) (Av : Option Addr) (cv : Nat), iv = .int .i64 j ∧ j ≤ P.length ∧ av = .int .i64 a ∧ vv = .slice Av vs.length cv ∧ vs.length = j ∧ Hid (a + tot (P.drop j) = l.length + 1) ∧
     Hid (wr.ownsRow (w.heap.size + 2) 9 1 (.slice Av vs.length cv) vs.length (strs vs)) ∧ Below w.heap.size w wr ∧ Blk wr w.heap.size 53 #[.int .i64 0, .int .i64 0] ∧ Blk wr (w.heap.size + 1) 9 (strs P).toArray ∧
     Hid (fields ats P 0 [] = fields ats (P.drop j) a vs) ∧ Hid (∀ x ∈ vs, Len x) ∧ Hid (vs.length ≤ na)) (fun iv _ _ _ => P.length - (intOf iv).toNat)
   case atStart => exact ⟨0, 0, [], none, 0, rfl, by omega, rfl, rfl, rfl, by show _ = _; rw [List.drop_zero, hPt, Nat.zero_add], World.ownsRow_nil _ _ _ _, HW3, HF3, HG3, by show _ = _; rw [List.drop_zero], fun x hx => by simp at hx, by show _ ≤ _; simp⟩
   case round =>
    obtain ⟨j, a, vs, Av, cv, rfl, hj, rfl, rfl, hvj, hat, hown, hbw, hfb, hpb, hfl, hlen, HLE⟩ := hrel
    have kr := HKW.out.below hbw
    have c0 : wr.cell? ⟨g, 0, none⟩ = some (Value.slice Aa na ca) := kr.blk.cell 0
    have bB : Below B w wr := hbw.mono hBg
    by_cases hjl : j < P.length
    ·obtain ⟨raw, hraw⟩ : ∃ raw, P[j] = raw := ⟨_, rfl⟩
     have hdr : P.drop j = raw :: P.drop (j + 1) := by rw [List.drop_eq_getElem_cons hjl, hraw]
     have p0 : wr.cell? ⟨w.heap.size + 1, j, none⟩ = some (str raw) := (hpb.cell j).trans (by simp [strs, hjl, hraw])
     have hat2 := hat.out
     rw [hdr, tot_cons] at hat2
     rw [hdr] at hfl
     have hj0 : (0 : Int) ≤ (j : Int) := by omega
     have hj1 : (j : Int) < (P.length : Int) := by omega
     by_cases hfull : vs.length = na
     ·have HR : Hid (tokenP ats ⟨toks, texts, regs, opn, true⟩ l = .error (a, 15)) := token_err rfl hn4 (by rw [HP.out, hfl.out, fields_many (by rw [hfull, hna])])
      have q0 : _ = some (Value.int .i64 0) := hfb.cell 0
      have q1 : _ = some (Value.int .i64 0) := hfb.cell 1
      have y0 := hfb.free 0
      have y1 := hfb.free 1
      have e1 : ((vs.length : Int) == (na : Int)) = true := by rw [beq_iff_eq]; omega
      clear kr hj
      go_wp2
      refine bodyPost_ret (results_tok _ rfl ((hfb.set_ 0 _).set_ 1 _)) rfl ?_
      rw [HR.out]
      exact Lines.err hBg ((hbw.setCell (p := ⟨w.heap.size, 0, none⟩) (Nat.le_refl _) _).setCell (p := ⟨w.heap.size, 1, none⟩) (Nat.le_refl _) _) rfl
     ·have hv : vs.length < ats.length := by
       have h1 : vs.length ≤ na := HLE.out
       omega
      have e1 : ((vs.length : Int) == (na : Int)) = false := by rw [beq_eq_false_iff_ne]; omega
      have hrl : raw.length ≤ 1048576 := by omega
      have HU := Lib.hid (unescape_any raw (by omega) wr)
      have hul := unesc_len raw
      obtain ⟨u1, u2, u3, hu⟩ : ∃ u1 u2 u3, Tagp.unesc raw = (u1, u2, u3) := ⟨_, _, _, rfl⟩
      unfold Une at HU
      rw [hu] at HU hul
      dsimp only at HU hul
      have Hu := Lib.hid hu
      clear hu
      go_wp2_with fail
      refine HU.out.mono ?_
      rintro en w3 ⟨hb3, rfl⟩
      have bw3 := hbw.trans (hb3.mono hbw.size)
      have fb3 := hfb.below hb3
      have pb3 := hpb.below hb3
      have ow3 := Lib.hid (own_below hown.out hb3)
      have kr3 := HKW.out.below bw3
      have bB3 : Below B w w3 := bw3.mono hBg
      clear hbw hfb hpb hown kr bB c0 HU p0
      by_cases hu3 : u3 = 0
      ·obtain ⟨ga, oa, hka, hAa, -, hla, ca0, ca1⟩ := kr3.a.reads.at_ (k := vs.length) (by have := hna; show vs.length < na; omega)
       cases hAa
       obtain ⟨⟨ax, ab⟩, hax⟩ : ∃ x, ats[vs.length] = x := ⟨_, rfl⟩
       simp only [hax] at ca0 ca1 hla
       simp only [hvj] at ca0 ca1
       have c0 : w3.cell? ⟨g, 0, none⟩ = some (Value.slice (some ⟨ga, oa, none⟩) na ca) := kr3.blk.cell 0
       have hi1 : (j : Int) < (na : Int) := by omega
       have HV := Lib.hid (vertValue_any (ax, ab) u1 (by omega) w3)
       obtain ⟨ve, hve⟩ : ∃ v, Cor.vlErr (ax, ab) u1 = v := ⟨_, rfl⟩
       rw [hve] at HV
       have Hve := Lib.hid hve
       have e3 : ((u3 : Int) != 0) = false := by rw [hu3]; rfl
       clear hve kr3
       go_wp2_with fail
       refine HV.out.mono ?_
       rintro en w4 ⟨rfl, hb4⟩
       have bw4 := bw3.trans (hb4.mono bw3.size)
       have fb4 := fb3.below hb4
       have pb4 := pb3.below hb4
       have ow4 := Lib.hid (own_below ow3.out hb4)
       have bB4 : Below B w w4 := bw4.mono hBg
       clear bw3 fb3 pb3 ow3 bB3 c0 ca0 ca1 HV
       by_cases hv0 : ve = 0
       ·have e4 : ((ve : Int) != 0) = false := by rw [hv0]; rfl
        have hstep : Hid (fields ats P 0 [] = fields ats (P.drop (j + 1)) (a + raw.length + 1) (vs ++ [u1])) := by
         show _ = _
         rw [hfl.out, fields_step hv (by rw [Hu.out]; exact hu3) (by rw [hax, Hu.out]; exact Hve.out.trans hv0), Hu.out]
        have hw1 : IntKind.i64.wrap ((raw.length : Int) + 1) = ((raw.length + 1 : Nat) : Int) := by rw [IntWalk.i64_in _ (by omega)]; omega
        have hw2 : IntKind.i64.wrap ((a : Int) + ((raw.length + 1 : Nat) : Int)) = ((a + raw.length + 1 : Nat) : Int) := by rw [IntWalk.i64_in _ (by omega)]; omega
        have hw3 : IntKind.i64.wrap ((j : Int) + 1) = ((j + 1 : Nat) : Int) := by rw [IntWalk.i64_in _ (by omega)]; omega
        have hob0 := ow4.out
        rw [hvj] at hob0
        have hob := hob0.alloc (.cells #[str u1] 9)
        clear hob0
        have hsz4 : w.heap.size + 2 ≤ w4.heap.size := by have := pb4.lt; omega
        have F4 := fb4.alloc (.cells #[str u1] 9)
        have P4 := pb4.alloc (.cells #[str u1] 9)
        have B4 := bw4
        clear ow4 bw4 bB4
        go_wp2_with (at_builtin; refine wpList_append_own_at _ rfl (.tmp 76) (.tmp 78) _ rfl (w.heap.size + 2) 9 i0 _ 1 16 Tryz.underlying28 hi0 hz0 hz1 hz2 rfl (by decide) _ _ _ rfl hob ⟨_, 0, none⟩ 1 1 [str u1] rfl rfl ?b1 ?b2 ?b3 ?b4 ?b5 ?_)
        case b1 => intro q u hq; cases q with
         | zero => simp only [List.getElem?_cons_zero, Option.some.injEq] at hq; subst hq; exact (Blk.new w4 9 #[str u1]).cell 0
         | succ q => simp at hq
        case b2 => intro u hu; simp only [List.mem_singleton] at hu; subst hu; rfl
        case b3 => simp [maxLen]; omega
        case b4 => omega
        case b5 => simp; omega
        intro v6 w6 own6 gr6 _ hob6
        obtain ⟨A6, c6, rfl, -, -⟩ := own_slc own6
        have F6 : Blk w6 w.heap.size 53 #[.int .i64 0, .int .i64 0] := (gr6.block _ F4.lt (fun e => by have := (hob.lt _ e.symm).1; omega)).trans F4
        have P6 : Blk w6 (w.heap.size + 1) 9 (strs P).toArray := (gr6.block _ P4.lt (fun e => by have := (hob.lt _ e.symm).1; omega)).trans P4
        have B6 : Below w.heap.size w w6 := (B4.alloc B4.size _).grown gr6 (by simp; omega) (fun q hq => by have := (hob.lt _ hq).1; omega)
        have O6 := Lib.hid own6
        clear own6 gr6 hob6 hob F4 P4 B4
        go_wp2
        go_roundw
        case rel =>
         refine ⟨j + 1, a + raw.length + 1, vs ++ [u1], A6, c6, by go_num, by omega, by go_num, by simp [hvj], by simp [hvj], ?_, ?_, B6, F6, P6, hstep, ?_, ?_⟩
         ·show _ = _; omega
         ·have := O6.out
          rw [← strs_snoc] at this
          exact Lib.hid (by simpa [hvj] using this)
         ·show ∀ x ∈ vs ++ [u1], Len x
          intro x hx
          rcases List.mem_append.1 hx with hx | hx
          ·exact hlen.out x hx
          ·simp at hx; subst hx; show _ ≤ _; omega
         ·show _ ≤ _; simp; omega
        case measure => simp [intOf]; omega
       ·have HR : Hid (tokenP ats ⟨toks, texts, regs, opn, true⟩ l = .error (a, ve)) := token_err rfl hn4 (by rw [HP.out, hfl.out, fields_val hv (by rw [Hu.out]; exact hu3) (by rw [hax, Hu.out]; dsimp only; rw [Hve.out]; exact hv0), hax, Hu.out]; dsimp only; rw [Hve.out])
        have q0 : _ = some (Value.int .i64 0) := fb4.cell 0
        have q1 : _ = some (Value.int .i64 0) := fb4.cell 1
        have y0 := fb4.free 0
        have y1 := fb4.free 1
        have e4 : ((ve : Int) != 0) = true := by rw [bne_iff_ne]; omega
        go_wp2
        refine bodyPost_ret (results_tok _ rfl ((fb4.set_ 0 _).set_ 1 _)) rfl ?_
        rw [HR.out]
        exact Lines.err hBg ((bw4.setCell (p := ⟨w.heap.size, 0, none⟩) (Nat.le_refl _) _).setCell (p := ⟨w.heap.size, 1, none⟩) (Nat.le_refl _) _) rfl
      ·have HR : Hid (tokenP ats ⟨toks, texts, regs, opn, true⟩ l = .error (a + u2, u3)) := token_err rfl hn4 (by rw [HP.out, hfl.out, fields_une hv (by rw [Hu.out]; exact hu3), Hu.out])
       have q0 : _ = some (Value.int .i64 0) := fb3.cell 0
       have q1 : _ = some (Value.int .i64 0) := fb3.cell 1
       have y0 := fb3.free 0
       have y1 := fb3.free 1
       have e3 : ((u3 : Int) != 0) = true := by rw [bne_iff_ne]; omega
       have hw1 : IntKind.i64.wrap ((a : Int) + (u2 : Int)) = ((a + u2 : Nat) : Int) := by rw [IntWalk.i64_in _ (by omega)]; omega
       clear kr3
       go_wp2
       refine bodyPost_ret (results_tok _ rfl ((fb3.set_ 0 _).set_ 1 _)) rfl ?_
       rw [HR.out]
       exact Lines.err hBg ((bw3.setCell (p := ⟨w.heap.size, 0, none⟩) (Nat.le_refl _) _).setCell (p := ⟨w.heap.size, 1, none⟩) (Nat.le_refl _) _) rfl
    ·have hend : Hid (fields ats (splitT l) 0 [] = .ok vs) := by
      show _ = _
      rw [HP.out, hfl.out, List.drop_eq_nil_of_le (by omega)]
      unfold fields; rfl
     by_cases hfew : vs.length < ats.length
     ·have HR : Hid (tokenP ats ⟨toks, texts, regs, opn, true⟩ l = .error (l.length, 15)) := token_few rfl hn4 hend.out hfew
      have q0 : _ = some (Value.int .i64 0) := hfb.cell 0
      have q1 : _ = some (Value.int .i64 0) := hfb.cell 1
      have y0 := hfb.free 0
      have y1 := hfb.free 1
      have hjn : (j : Int) < (na : Int) := by omega
      clear kr
      go_wp2
      refine bodyPost_ret (results_tok _ rfl ((hfb.set_ 0 _).set_ 1 _)) rfl ?_
      rw [HR.out]
      exact Lines.err hBg ((hbw.setCell (p := ⟨w.heap.size, 0, none⟩) (Nat.le_refl _) _).setCell (p := ⟨w.heap.size, 1, none⟩) (Nat.le_refl _) _) rfl
     ·have HR : Hid (tokenP ats ⟨toks, texts, regs, opn, true⟩ l = .ok ⟨toks ++ [vs], texts, regs, opn, true⟩) := token_ok rfl hn4 hend.out hfew
      have hjn : ¬ (j : Int) < (na : Int) := by omega
      obtain ⟨i1, hi1, hy0, hy1, hy2⟩ := info_parts info_slsV
      have hg : g < w.heap.size := HKW.out.blk.lt
      have c1 : wr.cell? ⟨g, 1, none⟩ = some (Value.slice At' nt ct) := kr.blk.cell 1
      have kx := kr.alloc (.cells #[.slice Av j cv] 28)
      obtain ⟨L, hL, hoL, hWL⟩ := kx.t
      have hoL2 : _ := hoL
      have hown2 := hown.out
      rw [hvj] at hown2
      have HY : Hid (OwnW (wr.alloc (.cells #[.slice Av j cv] 28)) B ⟨Av, j, cv⟩ vs) := ⟨own_below (own_base hown2 (by omega)) ((Below.refl _ _).alloc (Nat.le_refl _) _), hlen.out⟩
      have F4 := hfb.alloc (.cells #[.slice Av j cv] 28)
      have hBr : B ≤ wr.heap.size := Nat.le_trans hBg hbw.size
      have B4 := bB.alloc hBr (.cells #[.slice Av j cv] 28)
      have KX := Lib.hid kx
      dsimp only at hoL
      have HOL := Lib.hid hoL
      have HWL := Lib.hid hWL
      clear kx kr hoL2 hown2 hWL
      go_wp2_with (at_builtin; refine wpList_append_own_at _ rfl (.tmp 103) (.tmp 105) _ rfl B 28 i1 _ 1 24 Tryz.underlying23 hi1 hy0 hy1 hy2 rfl (by decide) _ _ _ rfl hoL ⟨_, 0, none⟩ 1 1 [.slice Av j cv] rfl rfl ?b1 ?b2 ?b3 ?b4 ?b5 ?_)
      case b2 => rfl
      case b3 => first | omega | (simp [maxLen]; omega)
      case b4 => omega
      case b5 => first | omega | (simp; omega)
      intro v6 w6 own6 gr6 _ hob6
      obtain ⟨A6, c6, rfl, -, -⟩ := own_slc own6
      have E6 := KX.out.push_t hL HOL.out HWL.out HY.out own6 gr6 (hok := ?hok)
      case hok => exact ⟨by simp; omega, KX.out.ok.x, KX.out.ok.r, KX.out.ok.o, KX.out.ok.ks, KX.out.ok.tx⟩
      have k6 := KX.out.blk.off (Off.grown HOL.out gr6) (by decide)
      have x1 : _ = some (Value.slice At' nt ct) := k6.cell 1
      have xf := k6.free 1
      have F6 : Blk w6 w.heap.size 53 #[.int .i64 0, .int .i64 0] := F4.off (Off.grown HOL.out gr6) (by decide)
      have B6 : Below B w w6 := B4.grown gr6 (by simp; omega) (fun q hq => (HOL.out.lt _ hq).1)
      have F7 := F6.other (p := ⟨g, 1, none⟩) (by show g ≠ w.heap.size; omega) (.slice A6 (nt + 1) c6)
      have q0 : _ = some (Value.int .i64 0) := F7.cell 0
      have q1 : _ = some (Value.int .i64 0) := F7.cell 1
      have y0 := F7.free 0
      have y1 := F7.free 1
      have hgB := KX.out.bg
      have HE6 := Lib.hid E6
      have HB6 := Lib.hid B6
      have HN6 : Hid (Only w (w6.setCell ⟨g, 1, none⟩ (.slice A6 (nt + 1) c6))) := (((Only.below hbw).off (R := 4294967295) (Off.alloc wr _) (by decide)).off (Off.grown HOL.out gr6) (by decide)).off (Off.set_ k6 1 _) (by decide)
      have HF7 := Lib.hid F7
      clear E6 k6 F6 B6 F7 own6 gr6 hob6 hoL F4 B4
      go_wp2
      refine bodyPost_ret (results_tok _ rfl ((HF7.out.set_ 0 _).set_ 1 _)) rfl ?_
      rw [HR.out]
      exact ⟨((HB6.out.setCell (p := ⟨g, 1, none⟩) hgB _).setCell (p := ⟨w.heap.size, 0, none⟩) hBg _).setCell (p := ⟨w.heap.size, 1, none⟩) hBg _, (HN6.out.new (p := ⟨w.heap.size, 0, none⟩) (Nat.le_refl _) _).new (p := ⟨w.heap.size, 1, none⟩) (Nat.le_refl _) _, rfl, _,
       (HE6.out.off (Off.set_ HF7.out 0 _) (by decide)).off (Off.set_ (HF7.out.set_ 0 _) 1 _) (by decide)⟩
end Go.Proofs.YtgkdaebiefhgdaaGreatDoor
namespace Go.Proofs.YtgkdaebiefhgdaaGreatDoor
set_option linter.unusedSimpArgs false
set_option linter.unusedVariables false
open Go.RowKit
open Feat (Bs)
open Tagp (KV)
open Vert (Rd lineV tagOf tagLine)
attribute [local go_sem] byte_mk ByteArray.extract_mk
theorem results_line {w : World} {g : Nat} {x y : Value} (tmps : Array Value) (h4 : tmps.getD 4 undef = .pointer (some ⟨g, 0, none⟩)) (hg : Blk w g 53 #[x, y]) :
  (results Tryz.f23 tmps).run Tryz.prog w = .ok (.agg #[x, y]) w := by
 have hp' : tmps[4]?.getD undef = .pointer (some ⟨g, 0, none⟩) := by simpa using h4
 have c0 := hg.cell 0
 have c1 := hg.cell 1
 simp only [List.getElem?_toArray, List.getElem?_cons_zero, List.getElem?_cons_succ] at c0 c1
 simp [results, Tryz.f23, hp', asAddr, c0, c1, go_sem]
theorem pre_lt {l : Bs} : ([60] : Bs).isPrefixOf l = decide (l.head? = some 60) := by
 cases l with
 | nil => rfl
 | cons c l =>
  rw [List.isPrefixOf]
  show ((60 : UInt8) == c && true) = decide (some c = some 60)
  by_cases h : c = 60
  ·subst h; rfl
  ·rw [decide_eq_false (by simpa using h), beq_eq_false_iff_ne.2 (Ne.symm h)]; rfl

def Done (B g : Nat) (ats : List At) (w' : World) (r : Except Nat Rd) (k : Nat) : Prop := match r with | .error q => k = q | .ok y => k = 0 ∧ ∃ h, OwnR w' B g h ats y
def lift0 (r : Except Nat Rd) : Except (Nat × Nat) Rd := match r with | .error e => .error (0, e) | .ok y => .ok y
theorem line_close {B g : Nat} {ats : List At} {w W w5 : World} {r : Except Nat Rd} {k : Nat} (hBg : B ≤ w.heap.size) (hb : Below w.heap.size w W) (hb5 : Below B W w5) (ho : Only W w5) (hF : Blk W w.heap.size 53 #[.int .i64 0, .int .i64 0])
  (hk : Done B g ats w5 r k) :
  Lines B g ats w (lift0 r) (.returned (.agg #[.int .i64 0, .int .i64 (k : Nat)])) ((w5.setCell ⟨w.heap.size, 0, none⟩ (.int .i64 0)).setCell ⟨w.heap.size, 1, none⟩ (.int .i64 (k : Nat))) := by
 have hB5 : Below B w w5 := (hb.mono hBg).trans hb5
 have hF5 := ho.blk hF aside_f
 refine ⟨(hB5.setCell (p := ⟨w.heap.size, 0, none⟩) hBg _).setCell (p := ⟨w.heap.size, 1, none⟩) hBg _, (((Only.below hb).trans ho).new (p := ⟨w.heap.size, 0, none⟩) (Nat.le_refl _) _).new (p := ⟨w.heap.size, 1, none⟩) (Nat.le_refl _) _, ?_⟩
 cases r with
 | error q =>
  have hk : k = q := hk
  subst hk
  rfl
 | ok y =>
  obtain ⟨rfl, h, hO⟩ := hk
  exact ⟨rfl, h, (hO.off (Off.set_ hF5 0 _) (by decide)).off (Off.set_ (hF5.set_ 0 _) 1 _) (by decide)⟩
theorem steps_lines {B g : Nat} {ats : List At} {w w' : World} {r : Except Nat Rd} {e : Ending} (h : Steps B g ats w r e w') : ∃ k : Nat, e = .returned (.int .i64 (k : Nat)) ∧ Below B w w' ∧ Only w w' ∧ Done B g ats w' r k := by
 obtain ⟨h1, h2, h3⟩ := h
 cases r with
 | error q => exact ⟨q, h3, h1, h2, rfl⟩
 | ok y => exact ⟨0, h3.1, h1, h2, rfl, h3.2⟩

set_option maxRecDepth 100000 in
set_option maxHeartbeats 4000000 in
theorem line_any (B g : Nat) (h : RdH) (ats : List At) (s : Rd) (l : Bs) (m : Int) (w : World) (k : OwnR w B g h ats s) (hB : 0 < B) (hl : l.length ≤ 1048576) (hm : w.cell? ⟨0, 0, none⟩ = some (.int .i64 m)) :
  Calls Tryz.prog 23 #[.pointer (some ⟨g, 0, none⟩), str l] w (Lines B g ats w (lineV ats s l)) := by
 have hBg : B ≤ w.heap.size := Nat.le_trans k.bg (Nat.le_of_lt k.blk.lt)
 have hb1 := (Below.refl w.heap.size w).alloc (Nat.le_refl _) (.cells #[.int .i64 0, .int .i64 0] 53)
 have kb := k.below hb1
 have hF := Blk.new w 53 #[.int .i64 0, .int .i64 0]
 have HP := Lib.hid (hasPrefix_any l [60] (w.alloc (.cells #[.int .i64 0, .int .i64 0] 53)))
 rw [pre_lt] at HP
 have HB1 := Lib.hid hb1
 have HFB := Lib.hid hF
 have HKB := Lib.hid kb
 by_cases hlt : l.head? = some 60
 ·rw [decide_eq_true hlt] at HP
  have HPT := Lib.hid (parseTag_any l (w.alloc (.cells #[.int .i64 0, .int .i64 0] 53)) (by omega))
  have hgk := tagOf_keys l
  have hnl := tagOf_name l
  obtain ⟨cl, nm, ks, at_, er, hto⟩ : ∃ cl nm ks at_ er, tagOf l = ((cl, nm, ks), at_, er) := ⟨_, _, _, _, _, rfl⟩
  unfold Parsed at HPT
  rw [show parseP l = ((cl, nm, ks), at_, er) from hto] at HPT
  rw [hto] at hgk hnl
  dsimp only at HPT hgk hnl
  have HTO := Lib.hid hto
  have HGK := Lib.hid hgk
  clear hto hgk hb1 hF kb k
  by_cases he : er = 0
  ·subst he
   cases cl with
   | false =>
    by_cases hnt : nm = [116, 101, 120, 116]
    ·have HR : Hid (lineV ats s l = lift0 (Vert.beginText s ks)) := by
      show _ = _
      unfold lineV
      rw [if_pos hlt, HTO.out, if_neg (by simp)]
      unfold tagLine
      dsimp only
      rw [if_pos (show nm = Vert.text from hnt), if_neg (by simp)]
      cases Vert.beginText s ks <;> rfl
     have hq : (nm == [116, 101, 120, 116]) = true := by rw [beq_iff_eq]; exact hnt
     go_enter Tryz.func23, Tryz.ntmps23
     go_wp2_with fail
     refine HP.out.mono ?_
     rintro en w1 ⟨rfl, rfl⟩
     go_wp2_with fail
     refine HPT.out.mono ?_
     rintro en w2 ⟨v, rfl, own2, hb2⟩
     obtain ⟨A2, c2, rfl, -, -⟩ := own_slc own2
     have hb3 : Below w2.heap.size w2 ((w2.alloc (.cells #[.bool false, str nm, .slice A2 ks.length c2] 106)).alloc (.cells #[.func (Fn.func 60) #[] #[], .func (Fn.func 61) #[] #[], .func (Fn.func 62) #[] #[], .func (Fn.func 63) #[] #[]] 111)).drew := (((Below.refl _ _).alloc (Nat.le_refl _) _).alloc (by simp) _).drew
     have hsz2 : w.heap.size < w2.heap.size := by have := hb2.size; rw [World.size_alloc] at this; omega
     have hbw2 : Below w.heap.size w w2 := HB1.out.trans (hb2.mono HB1.out.size)
     have HBW : Hid (Below w.heap.size w ((w2.alloc (.cells #[.bool false, str nm, .slice A2 ks.length c2] 106)).alloc (.cells #[.func (Fn.func 60) #[] #[], .func (Fn.func 61) #[] #[], .func (Fn.func 62) #[] #[], .func (Fn.func 63) #[] #[]] 111)).drew) := hbw2.trans (hb3.mono hbw2.size)
     have HFW := Lib.hid ((HFB.out.below hb2).below hb3)
     have HKW := Lib.hid ((HKB.out.below hb2).below hb3)
     have HTW : Hid (Blk ((w2.alloc (.cells #[.bool false, str nm, .slice A2 ks.length c2] 106)).alloc (.cells #[.func (Fn.func 60) #[] #[], .func (Fn.func 61) #[] #[], .func (Fn.func 62) #[] #[], .func (Fn.func 63) #[] #[]] 111)).drew w2.heap.size 106 #[.bool false, str nm, .slice A2 ks.length c2]) := ((Blk.new w2 _ _).alloc _).off (R := 4294967295) (Off.drew _) (by decide)
     have hmw := Blk.new (w2.alloc (.cells #[.bool false, str nm, .slice A2 ks.length c2] 106)) 111 #[.func (Fn.func 60) #[] #[], .func (Fn.func 61) #[] #[], .func (Fn.func 62) #[] #[], .func (Fn.func 63) #[] #[]]
     rw [World.size_alloc] at hmw
     have HMW := Lib.hid (hmw.off (R := 4294967295) (Off.drew _) (by decide))
     have hoW : Hid (World.ownsRow ((w2.alloc (.cells #[.bool false, str nm, .slice A2 ks.length c2] 106)).alloc (.cells #[.func (Fn.func 60) #[] #[], .func (Fn.func 61) #[] #[], .func (Fn.func 62) #[] #[], .func (Fn.func 63) #[] #[]] 111)).drew B 84 2 (.slice A2 ks.length c2) ks.length (ks.flatMap prV)) := own_below (own_base own2 (Nat.le_trans hBg HB1.out.size)) hb3
     have HC := Lib.hid (beginText_any B g h ats s false nm A2 ks.length c2 ks ((w2.alloc (.cells #[.bool false, str nm, .slice A2 ks.length c2] 106)).alloc (.cells #[.func (Fn.func 60) #[] #[], .func (Fn.func 61) #[] #[], .func (Fn.func 62) #[] #[], .func (Fn.func 63) #[] #[]] 111)).drew HKW.out hoW.out (fun p hp => goodK_len HGK.out p hp) (by have := HGK.out.1; omega))
     have HS12 := (⟨HMW.out.cell 2, HTW.out.cell 0, HTW.out.cell 1, HTW.out.cell 2⟩ : _ ∧ _ ∧ _ ∧ _)
     clear own2 hb2 hb3 hbw2 hmw hlt hnt
     go_wp2
     generalize hr : Vert.beginText s ks = r at HR HC
     have HRR := Lib.hid hr
     clear hr
     go_region_held3 (fun W => W.cell? ⟨w2.heap.size + 1, 2, none⟩ = some (.func (Fn.func 62) #[] #[]) ∧ W.cell? ⟨w2.heap.size, 0, none⟩ = some (.bool false) ∧ W.cell? ⟨w2.heap.size, 1, none⟩ = some (str nm) ∧ W.cell? ⟨w2.heap.size, 2, none⟩ = some (.slice A2 ks.length c2)) (first | go_keep | exact ⟨x0, x1, x2, x3⟩ | exact ⟨u0, u1, u2, u3⟩) (first | (go_at_call 62; refine HC.out.mono ?_; intro en w5 hst; obtain ⟨kk, rfl, hb5, ho5, hk5⟩ := steps_lines hst; have MB := ho5.blk HMW.out aside_m; have TB := ho5.blk HTW.out aside_t; have x0 := MB.cell 2; have x1 := TB.cell 0; have x2 := TB.cell 1; have x3 := TB.cell 2; have FB := ho5.blk HFW.out aside_f; have q0 := FB.cell 0; have q1 := FB.cell 1; have z0 := FB.free 0; have z1 := FB.free 1; have MB2 := (MB.other (p := ⟨w.heap.size, 0, none⟩) (by show w.heap.size ≠ w2.heap.size + 1; omega) (.int .i64 0)).other (p := ⟨w.heap.size, 1, none⟩) (by show w.heap.size ≠ w2.heap.size + 1; omega) (.int .i64 (kk : Nat)); have TB2 := (TB.other (p := ⟨w.heap.size, 0, none⟩) (by show w.heap.size ≠ w2.heap.size; omega) (.int .i64 0)).other (p := ⟨w.heap.size, 1, none⟩) (by show w.heap.size ≠ w2.heap.size; omega) (.int .i64 (kk : Nat)); have u0 := MB2.cell 2; have u1 := TB2.cell 0; have u2 := TB2.cell 1; have u3 := TB2.cell 2))
     go_wp2
     refine bodyPost_ret (results_line _ rfl ((FB.set_ 0 _).set_ 1 _)) rfl ?_
     rw [HR.out]
     exact line_close hBg HBW.out hb5 ho5 HFW.out hk5
    ·have HR : Hid (lineV ats s l = lift0 (Vert.beginReg s nm ks)) := by
      show _ = _
      unfold lineV
      rw [if_pos hlt, HTO.out, if_neg (by simp)]
      unfold tagLine
      dsimp only
      rw [if_neg (show ¬ nm = Vert.text from hnt), if_neg (by simp)]
      cases Vert.beginReg s nm ks <;> rfl
     have hq : (nm == [116, 101, 120, 116]) = false := by rw [beq_eq_false_iff_ne]; exact hnt
     go_enter Tryz.func23, Tryz.ntmps23
     go_wp2_with fail
     refine HP.out.mono ?_
     rintro en w1 ⟨rfl, rfl⟩
     go_wp2_with fail
     refine HPT.out.mono ?_
     rintro en w2 ⟨v, rfl, own2, hb2⟩
     obtain ⟨A2, c2, rfl, -, -⟩ := own_slc own2
     have hb3 : Below w2.heap.size w2 ((w2.alloc (.cells #[.bool false, str nm, .slice A2 ks.length c2] 106)).alloc (.cells #[.func (Fn.func 60) #[] #[], .func (Fn.func 61) #[] #[], .func (Fn.func 62) #[] #[], .func (Fn.func 63) #[] #[]] 111)).drew := (((Below.refl _ _).alloc (Nat.le_refl _) _).alloc (by simp) _).drew
     have hsz2 : w.heap.size < w2.heap.size := by have := hb2.size; rw [World.size_alloc] at this; omega
     have hbw2 : Below w.heap.size w w2 := HB1.out.trans (hb2.mono HB1.out.size)
     have HBW : Hid (Below w.heap.size w ((w2.alloc (.cells #[.bool false, str nm, .slice A2 ks.length c2] 106)).alloc (.cells #[.func (Fn.func 60) #[] #[], .func (Fn.func 61) #[] #[], .func (Fn.func 62) #[] #[], .func (Fn.func 63) #[] #[]] 111)).drew) := hbw2.trans (hb3.mono hbw2.size)
     have HFW := Lib.hid ((HFB.out.below hb2).below hb3)
     have HKW := Lib.hid ((HKB.out.below hb2).below hb3)
     have HTW : Hid (Blk ((w2.alloc (.cells #[.bool false, str nm, .slice A2 ks.length c2] 106)).alloc (.cells #[.func (Fn.func 60) #[] #[], .func (Fn.func 61) #[] #[], .func (Fn.func 62) #[] #[], .func (Fn.func 63) #[] #[]] 111)).drew w2.heap.size 106 #[.bool false, str nm, .slice A2 ks.length c2]) := ((Blk.new w2 _ _).alloc _).off (R := 4294967295) (Off.drew _) (by decide)
     have hmw := Blk.new (w2.alloc (.cells #[.bool false, str nm, .slice A2 ks.length c2] 106)) 111 #[.func (Fn.func 60) #[] #[], .func (Fn.func 61) #[] #[], .func (Fn.func 62) #[] #[], .func (Fn.func 63) #[] #[]]
     rw [World.size_alloc] at hmw
     have HMW := Lib.hid (hmw.off (R := 4294967295) (Off.drew _) (by decide))
     have hoW : Hid (World.ownsRow ((w2.alloc (.cells #[.bool false, str nm, .slice A2 ks.length c2] 106)).alloc (.cells #[.func (Fn.func 60) #[] #[], .func (Fn.func 61) #[] #[], .func (Fn.func 62) #[] #[], .func (Fn.func 63) #[] #[]] 111)).drew B 84 2 (.slice A2 ks.length c2) ks.length (ks.flatMap prV)) := own_below (own_base own2 (Nat.le_trans hBg HB1.out.size)) hb3
     have HC := Lib.hid (beginRegion_any B g h ats s false nm A2 ks.length c2 ks ((w2.alloc (.cells #[.bool false, str nm, .slice A2 ks.length c2] 106)).alloc (.cells #[.func (Fn.func 60) #[] #[], .func (Fn.func 61) #[] #[], .func (Fn.func 62) #[] #[], .func (Fn.func 63) #[] #[]] 111)).drew HKW.out (show nm.length ≤ _ by omega) hoW.out (fun p hp => goodK_len HGK.out p hp) (by have := HGK.out.1; omega))
     have HS12 := (⟨HMW.out.cell 0, HTW.out.cell 0, HTW.out.cell 1, HTW.out.cell 2⟩ : _ ∧ _ ∧ _ ∧ _)
     clear own2 hb2 hb3 hbw2 hmw hlt hnt
     go_wp2
     generalize hr : Vert.beginReg s nm ks = r at HR HC
     have HRR := Lib.hid hr
     clear hr
     go_region_held3 (fun W => W.cell? ⟨w2.heap.size + 1, 0, none⟩ = some (.func (Fn.func 60) #[] #[]) ∧ W.cell? ⟨w2.heap.size, 0, none⟩ = some (.bool false) ∧ W.cell? ⟨w2.heap.size, 1, none⟩ = some (str nm) ∧ W.cell? ⟨w2.heap.size, 2, none⟩ = some (.slice A2 ks.length c2)) (first | go_keep | exact ⟨x0, x1, x2, x3⟩ | exact ⟨u0, u1, u2, u3⟩) (first | (go_at_call 60; refine HC.out.mono ?_; intro en w5 hst; obtain ⟨kk, rfl, hb5, ho5, hk5⟩ := steps_lines hst; have MB := ho5.blk HMW.out aside_m; have TB := ho5.blk HTW.out aside_t; have x0 := MB.cell 0; have x1 := TB.cell 0; have x2 := TB.cell 1; have x3 := TB.cell 2; have FB := ho5.blk HFW.out aside_f; have q0 := FB.cell 0; have q1 := FB.cell 1; have z0 := FB.free 0; have z1 := FB.free 1; have MB2 := (MB.other (p := ⟨w.heap.size, 0, none⟩) (by show w.heap.size ≠ w2.heap.size + 1; omega) (.int .i64 0)).other (p := ⟨w.heap.size, 1, none⟩) (by show w.heap.size ≠ w2.heap.size + 1; omega) (.int .i64 (kk : Nat)); have TB2 := (TB.other (p := ⟨w.heap.size, 0, none⟩) (by show w.heap.size ≠ w2.heap.size; omega) (.int .i64 0)).other (p := ⟨w.heap.size, 1, none⟩) (by show w.heap.size ≠ w2.heap.size; omega) (.int .i64 (kk : Nat)); have u0 := MB2.cell 0; have u1 := TB2.cell 0; have u2 := TB2.cell 1; have u3 := TB2.cell 2))
     go_wp2
     refine bodyPost_ret (results_line _ rfl ((FB.set_ 0 _).set_ 1 _)) rfl ?_
     rw [HR.out]
     exact line_close hBg HBW.out hb5 ho5 HFW.out hk5
   | true =>
    by_cases hnt : nm = [116, 101, 120, 116]
    ·have HR : Hid (lineV ats s l = lift0 (Vert.endText s)) := by
      show _ = _
      unfold lineV
      rw [if_pos hlt, HTO.out, if_neg (by simp)]
      unfold tagLine
      dsimp only
      rw [if_pos (show nm = Vert.text from hnt), if_pos rfl]
      cases Vert.endText s <;> rfl
     have hq : (nm == [116, 101, 120, 116]) = true := by rw [beq_iff_eq]; exact hnt
     go_enter Tryz.func23, Tryz.ntmps23
     go_wp2_with fail
     refine HP.out.mono ?_
     rintro en w1 ⟨rfl, rfl⟩
     go_wp2_with fail
     refine HPT.out.mono ?_
     rintro en w2 ⟨v, rfl, own2, hb2⟩
     obtain ⟨A2, c2, rfl, -, -⟩ := own_slc own2
     have hb3 : Below w2.heap.size w2 ((w2.alloc (.cells #[.bool true, str nm, .slice A2 ks.length c2] 106)).alloc (.cells #[.func (Fn.func 60) #[] #[], .func (Fn.func 61) #[] #[], .func (Fn.func 62) #[] #[], .func (Fn.func 63) #[] #[]] 111)).drew := (((Below.refl _ _).alloc (Nat.le_refl _) _).alloc (by simp) _).drew
     have hsz2 : w.heap.size < w2.heap.size := by have := hb2.size; rw [World.size_alloc] at this; omega
     have hbw2 : Below w.heap.size w w2 := HB1.out.trans (hb2.mono HB1.out.size)
     have HBW : Hid (Below w.heap.size w ((w2.alloc (.cells #[.bool true, str nm, .slice A2 ks.length c2] 106)).alloc (.cells #[.func (Fn.func 60) #[] #[], .func (Fn.func 61) #[] #[], .func (Fn.func 62) #[] #[], .func (Fn.func 63) #[] #[]] 111)).drew) := hbw2.trans (hb3.mono hbw2.size)
     have HFW := Lib.hid ((HFB.out.below hb2).below hb3)
     have HKW := Lib.hid ((HKB.out.below hb2).below hb3)
     have HTW : Hid (Blk ((w2.alloc (.cells #[.bool true, str nm, .slice A2 ks.length c2] 106)).alloc (.cells #[.func (Fn.func 60) #[] #[], .func (Fn.func 61) #[] #[], .func (Fn.func 62) #[] #[], .func (Fn.func 63) #[] #[]] 111)).drew w2.heap.size 106 #[.bool true, str nm, .slice A2 ks.length c2]) := ((Blk.new w2 _ _).alloc _).off (R := 4294967295) (Off.drew _) (by decide)
     have hmw := Blk.new (w2.alloc (.cells #[.bool true, str nm, .slice A2 ks.length c2] 106)) 111 #[.func (Fn.func 60) #[] #[], .func (Fn.func 61) #[] #[], .func (Fn.func 62) #[] #[], .func (Fn.func 63) #[] #[]]
     rw [World.size_alloc] at hmw
     have HMW := Lib.hid (hmw.off (R := 4294967295) (Off.drew _) (by decide))
     have hoW : Hid (World.ownsRow ((w2.alloc (.cells #[.bool true, str nm, .slice A2 ks.length c2] 106)).alloc (.cells #[.func (Fn.func 60) #[] #[], .func (Fn.func 61) #[] #[], .func (Fn.func 62) #[] #[], .func (Fn.func 63) #[] #[]] 111)).drew B 84 2 (.slice A2 ks.length c2) ks.length (ks.flatMap prV)) := own_below (own_base own2 (Nat.le_trans hBg HB1.out.size)) hb3
     have HC := Lib.hid (endText_any B g h ats s #[.bool true, str nm, .slice A2 ks.length c2] ((w2.alloc (.cells #[.bool true, str nm, .slice A2 ks.length c2] 106)).alloc (.cells #[.func (Fn.func 60) #[] #[], .func (Fn.func 61) #[] #[], .func (Fn.func 62) #[] #[], .func (Fn.func 63) #[] #[]] 111)).drew HKW.out)
     have HS12 := (⟨HMW.out.cell 3, HTW.out.cell 0, HTW.out.cell 1, HTW.out.cell 2⟩ : _ ∧ _ ∧ _ ∧ _)
     clear own2 hb2 hb3 hbw2 hmw hlt hnt
     go_wp2
     generalize hr : Vert.endText s = r at HR HC
     have HRR := Lib.hid hr
     clear hr
     go_region_held3 (fun W => W.cell? ⟨w2.heap.size + 1, 3, none⟩ = some (.func (Fn.func 63) #[] #[]) ∧ W.cell? ⟨w2.heap.size, 0, none⟩ = some (.bool true) ∧ W.cell? ⟨w2.heap.size, 1, none⟩ = some (str nm) ∧ W.cell? ⟨w2.heap.size, 2, none⟩ = some (.slice A2 ks.length c2)) (first | go_keep | exact ⟨x0, x1, x2, x3⟩ | exact ⟨u0, u1, u2, u3⟩) (first | (go_at_call 63; refine HC.out.mono ?_; intro en w5 hst; obtain ⟨kk, rfl, hb5, ho5, hk5⟩ := steps_lines hst; have MB := ho5.blk HMW.out aside_m; have TB := ho5.blk HTW.out aside_t; have x0 := MB.cell 3; have x1 := TB.cell 0; have x2 := TB.cell 1; have x3 := TB.cell 2; have FB := ho5.blk HFW.out aside_f; have q0 := FB.cell 0; have q1 := FB.cell 1; have z0 := FB.free 0; have z1 := FB.free 1; have MB2 := (MB.other (p := ⟨w.heap.size, 0, none⟩) (by show w.heap.size ≠ w2.heap.size + 1; omega) (.int .i64 0)).other (p := ⟨w.heap.size, 1, none⟩) (by show w.heap.size ≠ w2.heap.size + 1; omega) (.int .i64 (kk : Nat)); have TB2 := (TB.other (p := ⟨w.heap.size, 0, none⟩) (by show w.heap.size ≠ w2.heap.size; omega) (.int .i64 0)).other (p := ⟨w.heap.size, 1, none⟩) (by show w.heap.size ≠ w2.heap.size; omega) (.int .i64 (kk : Nat)); have u0 := MB2.cell 3; have u1 := TB2.cell 0; have u2 := TB2.cell 1; have u3 := TB2.cell 2))
     go_wp2
     refine bodyPost_ret (results_line _ rfl ((FB.set_ 0 _).set_ 1 _)) rfl ?_
     rw [HR.out]
     exact line_close hBg HBW.out hb5 ho5 HFW.out hk5
    ·have HR : Hid (lineV ats s l = lift0 (Vert.endReg s nm)) := by
      show _ = _
      unfold lineV
      rw [if_pos hlt, HTO.out, if_neg (by simp)]
      unfold tagLine
      dsimp only
      rw [if_neg (show ¬ nm = Vert.text from hnt), if_pos rfl]
      cases Vert.endReg s nm <;> rfl
     have hq : (nm == [116, 101, 120, 116]) = false := by rw [beq_eq_false_iff_ne]; exact hnt
     go_enter Tryz.func23, Tryz.ntmps23
     go_wp2_with fail
     refine HP.out.mono ?_
     rintro en w1 ⟨rfl, rfl⟩
     go_wp2_with fail
     refine HPT.out.mono ?_
     rintro en w2 ⟨v, rfl, own2, hb2⟩
     obtain ⟨A2, c2, rfl, -, -⟩ := own_slc own2
     have hb3 : Below w2.heap.size w2 ((w2.alloc (.cells #[.bool true, str nm, .slice A2 ks.length c2] 106)).alloc (.cells #[.func (Fn.func 60) #[] #[], .func (Fn.func 61) #[] #[], .func (Fn.func 62) #[] #[], .func (Fn.func 63) #[] #[]] 111)).drew := (((Below.refl _ _).alloc (Nat.le_refl _) _).alloc (by simp) _).drew
     have hsz2 : w.heap.size < w2.heap.size := by have := hb2.size; rw [World.size_alloc] at this; omega
     have hbw2 : Below w.heap.size w w2 := HB1.out.trans (hb2.mono HB1.out.size)
     have HBW : Hid (Below w.heap.size w ((w2.alloc (.cells #[.bool true, str nm, .slice A2 ks.length c2] 106)).alloc (.cells #[.func (Fn.func 60) #[] #[], .func (Fn.func 61) #[] #[], .func (Fn.func 62) #[] #[], .func (Fn.func 63) #[] #[]] 111)).drew) := hbw2.trans (hb3.mono hbw2.size)
     have HFW := Lib.hid ((HFB.out.below hb2).below hb3)
     have HKW := Lib.hid ((HKB.out.below hb2).below hb3)
     have HTW : Hid (Blk ((w2.alloc (.cells #[.bool true, str nm, .slice A2 ks.length c2] 106)).alloc (.cells #[.func (Fn.func 60) #[] #[], .func (Fn.func 61) #[] #[], .func (Fn.func 62) #[] #[], .func (Fn.func 63) #[] #[]] 111)).drew w2.heap.size 106 #[.bool true, str nm, .slice A2 ks.length c2]) := ((Blk.new w2 _ _).alloc _).off (R := 4294967295) (Off.drew _) (by decide)
     have hmw := Blk.new (w2.alloc (.cells #[.bool true, str nm, .slice A2 ks.length c2] 106)) 111 #[.func (Fn.func 60) #[] #[], .func (Fn.func 61) #[] #[], .func (Fn.func 62) #[] #[], .func (Fn.func 63) #[] #[]]
     rw [World.size_alloc] at hmw
     have HMW := Lib.hid (hmw.off (R := 4294967295) (Off.drew _) (by decide))
     have hoW : Hid (World.ownsRow ((w2.alloc (.cells #[.bool true, str nm, .slice A2 ks.length c2] 106)).alloc (.cells #[.func (Fn.func 60) #[] #[], .func (Fn.func 61) #[] #[], .func (Fn.func 62) #[] #[], .func (Fn.func 63) #[] #[]] 111)).drew B 84 2 (.slice A2 ks.length c2) ks.length (ks.flatMap prV)) := own_below (own_base own2 (Nat.le_trans hBg HB1.out.size)) hb3
     have HC := Lib.hid (endRegion_any B g h ats s true nm A2 ks.length c2 ((w2.alloc (.cells #[.bool true, str nm, .slice A2 ks.length c2] 106)).alloc (.cells #[.func (Fn.func 60) #[] #[], .func (Fn.func 61) #[] #[], .func (Fn.func 62) #[] #[], .func (Fn.func 63) #[] #[]] 111)).drew HKW.out)
     have HS12 := (⟨HMW.out.cell 1, HTW.out.cell 0, HTW.out.cell 1, HTW.out.cell 2⟩ : _ ∧ _ ∧ _ ∧ _)
     clear own2 hb2 hb3 hbw2 hmw hlt hnt
     go_wp2
     generalize hr : Vert.endReg s nm = r at HR HC
     have HRR := Lib.hid hr
     clear hr
     go_region_held3 (fun W => W.cell? ⟨w2.heap.size + 1, 1, none⟩ = some (.func (Fn.func 61) #[] #[]) ∧ W.cell? ⟨w2.heap.size, 0, none⟩ = some (.bool true) ∧ W.cell? ⟨w2.heap.size, 1, none⟩ = some (str nm) ∧ W.cell? ⟨w2.heap.size, 2, none⟩ = some (.slice A2 ks.length c2)) (first | go_keep | exact ⟨x0, x1, x2, x3⟩ | exact ⟨u0, u1, u2, u3⟩) (first | (go_at_call 61; refine HC.out.mono ?_; intro en w5 hst; obtain ⟨kk, rfl, hb5, ho5, hk5⟩ := steps_lines hst; have MB := ho5.blk HMW.out aside_m; have TB := ho5.blk HTW.out aside_t; have x0 := MB.cell 1; have x1 := TB.cell 0; have x2 := TB.cell 1; have x3 := TB.cell 2; have FB := ho5.blk HFW.out aside_f; have q0 := FB.cell 0; have q1 := FB.cell 1; have z0 := FB.free 0; have z1 := FB.free 1; have MB2 := (MB.other (p := ⟨w.heap.size, 0, none⟩) (by show w.heap.size ≠ w2.heap.size + 1; omega) (.int .i64 0)).other (p := ⟨w.heap.size, 1, none⟩) (by show w.heap.size ≠ w2.heap.size + 1; omega) (.int .i64 (kk : Nat)); have TB2 := (TB.other (p := ⟨w.heap.size, 0, none⟩) (by show w.heap.size ≠ w2.heap.size; omega) (.int .i64 0)).other (p := ⟨w.heap.size, 1, none⟩) (by show w.heap.size ≠ w2.heap.size; omega) (.int .i64 (kk : Nat)); have u0 := MB2.cell 1; have u1 := TB2.cell 0; have u2 := TB2.cell 1; have u3 := TB2.cell 2))
     go_wp2
     refine bodyPost_ret (results_line _ rfl ((FB.set_ 0 _).set_ 1 _)) rfl ?_
     rw [HR.out]
     exact line_close hBg HBW.out hb5 ho5 HFW.out hk5
  ·have HR : Hid (lineV ats s l = .error (at_, er)) := by
    show _ = _
    unfold lineV
    rw [if_pos hlt, HTO.out, if_pos he]
   have hq : ((er : Int) != 0) = true := by rw [bne_iff_ne]; omega
   go_enter Tryz.func23, Tryz.ntmps23
   go_wp2_with fail
   refine HP.out.mono ?_
   rintro en w1 ⟨rfl, rfl⟩
   go_wp2_with fail
   refine HPT.out.mono ?_
   rintro en w2 ⟨v, rfl, own2, hb2⟩
   obtain ⟨A2, c2, rfl, -, -⟩ := own_slc own2
   have HB2 : Hid (Below w.heap.size w (w2.alloc (.cells #[.bool cl, str nm, .slice A2 ks.length c2] 106))) := (HB1.out.trans (hb2.mono HB1.out.size)).alloc (Nat.le_trans HB1.out.size hb2.size) _
   have HF2 := Lib.hid ((HFB.out.below hb2).alloc (.cells #[.bool cl, str nm, .slice A2 ks.length c2] 106))
   have q0 : _ = some (Value.int .i64 0) := HF2.out.cell 0
   have q1 : _ = some (Value.int .i64 0) := HF2.out.cell 1
   have y0 := HF2.out.free 0
   have y1 := HF2.out.free 1
   clear own2 hb2 hlt he
   go_wp2
   refine bodyPost_ret (results_line _ rfl ((HF2.out.set_ 0 _).set_ 1 _)) rfl ?_
   rw [HR.out]
   exact Lines.err hBg ((HB2.out.setCell (p := ⟨w.heap.size, 0, none⟩) (Nat.le_refl _) _).setCell (p := ⟨w.heap.size, 1, none⟩) (Nat.le_refl _) _) rfl
 ·rw [decide_eq_false hlt] at HP
  have HR : Hid (lineV ats s l = Vert.tokenP ats s l) := by show _ = _; unfold lineV; rw [if_neg hlt]
  have hm1 : (w.alloc (.cells #[.int .i64 0, .int .i64 0] 53)).cell? ⟨0, 0, none⟩ = some (.int .i64 m) := (HB1.out.cell (by show 0 < w.heap.size; omega)).trans hm
  have HT := Lib.hid (token_any B g h ats s l m (w.alloc (.cells #[.int .i64 0, .int .i64 0] 53)) HKB.out hB hl hm1)
  unfold Lines at HT
  clear hlt hb1 hF kb k hm1
  cases hr : Vert.tokenP ats s l with
  | error p =>
   rw [hr] at HT HR
   dsimp only at HT
   clear hr
   go_enter Tryz.func23, Tryz.ntmps23
   go_wp2_with fail
   refine HP.out.mono ?_
   rintro en w1 ⟨rfl, rfl⟩
   go_wp2_with fail
   refine HT.out.mono ?_
   rintro en w2 ⟨hb2, ho2, rfl⟩
   have HF2 := Lib.hid (ho2.blk HFB.out aside_f)
   have HB2 : Hid (Below B w w2) := (HB1.out.mono hBg).trans hb2
   have HO2 : Hid (Only w w2) := (Only.below HB1.out).trans ho2
   have q0 : _ = some (Value.int .i64 0) := HF2.out.cell 0
   have q1 : _ = some (Value.int .i64 0) := HF2.out.cell 1
   have y0 := HF2.out.free 0
   have y1 := HF2.out.free 1
   clear hb2 ho2
   go_wp2
   refine bodyPost_ret (results_line _ rfl ((HF2.out.set_ 0 _).set_ 1 _)) rfl ?_
   rw [HR.out]
   exact ⟨(HB2.out.setCell (p := ⟨w.heap.size, 0, none⟩) hBg _).setCell (p := ⟨w.heap.size, 1, none⟩) hBg _, (HO2.out.new (p := ⟨w.heap.size, 0, none⟩) (Nat.le_refl _) _).new (p := ⟨w.heap.size, 1, none⟩) (Nat.le_refl _) _, rfl⟩
  | ok y =>
   rw [hr] at HT HR
   dsimp only at HT
   clear hr
   go_enter Tryz.func23, Tryz.ntmps23
   go_wp2_with fail
   refine HP.out.mono ?_
   rintro en w1 ⟨rfl, rfl⟩
   go_wp2_with fail
   refine HT.out.mono ?_
   rintro en w2 ⟨hb2, ho2, rfl, h2, k2⟩
   have HF2 := Lib.hid (ho2.blk HFB.out aside_f)
   have HB2 : Hid (Below B w w2) := (HB1.out.mono hBg).trans hb2
   have HO2 : Hid (Only w w2) := (Only.below HB1.out).trans ho2
   have HK2 := Lib.hid k2
   have q0 : _ = some (Value.int .i64 0) := HF2.out.cell 0
   have q1 : _ = some (Value.int .i64 0) := HF2.out.cell 1
   have y0 := HF2.out.free 0
   have y1 := HF2.out.free 1
   clear hb2 ho2 k2
   go_wp2
   refine bodyPost_ret (results_line _ rfl ((HF2.out.set_ 0 _).set_ 1 _)) rfl ?_
   rw [HR.out]
   exact ⟨(HB2.out.setCell (p := ⟨w.heap.size, 0, none⟩) hBg _).setCell (p := ⟨w.heap.size, 1, none⟩) hBg _, (HO2.out.new (p := ⟨w.heap.size, 0, none⟩) (Nat.le_refl _) _).new (p := ⟨w.heap.size, 1, none⟩) (Nat.le_refl _) _, rfl, h2, (HK2.out.off (Off.set_ HF2.out 0 _) (by decide)).off (Off.set_ (HF2.out.set_ 0 _) 1 _) (by decide)⟩
end Go.Proofs.YtgkdaebiefhgdaaGreatDoor
