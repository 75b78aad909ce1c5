/-
  The contracts of the reference's Digits and Format. Conditions: few heads and relations.
-/
import Derived.Test.YtnbnmomichegaaaDoorDepFmt
import Derived.BigQuiet
import Derived.IntWalk
import Derived.Deep.QuietTactic
import Derived.Deep.CutRange
import Derived.Deep.CutBlock
namespace Go.Proofs.YtnbnmomichegaaaDoor
set_option linter.unusedSimpArgs false
set_option linter.unusedVariables false
open Go.RowKit Utf Dep
open Feat (Bs)

theorem quiet_s9 {P : Program} {f : FuncId} {args : Array Value} {w : World} {n : Nat} {v : Value} (h : Calls P f args (w.drewN n) (SameW v (w.drewN n))) : Calls P f args (w.drewN n) fun e w'' => e = .returned v ∧ ∃ m, w'' = w.drewN m :=
  h.mono fun _ _ ⟨he, hm⟩ => ⟨he, n, hm.symm⟩
theorem enc_ascii {n : Nat} (h : n < 128) : Utf8.encode (n : Int) = ⟨([UInt8.ofNat n] : Bs).toArray⟩ := by
  have hv : Utf8.valid (n : Int) = true := by unfold Utf8.valid; simp; omega
  unfold Utf8.encode
  simp only [hv, if_true, Int.toNat_natCast]
  rw [if_pos h]
theorem enc_dgt {u : Nat} (h : u < 10) : Utf8.encode (48 + (u : Int)) = ⟨([UInt8.ofNat (48 + u)] : Bs).toArray⟩ := by
  rw [show (48 + (u : Int)) = ((48 + u : Nat) : Int) by omega]; exact enc_ascii (by omega)

set_option maxRecDepth 100000 in
set_option maxHeartbeats 2000000 in
theorem digits_any (k : Nat) : ∀ (u : Nat) (w : World), u ≤ k → u ≤ 1000000 → Calls Tryd.prog 18 #[.int .i64 (u : Nat)] w (SameW (str (Lib.decDigits u)) w) := by
  induction k with
  | zero =>
    intro u w hk hu
    obtain rfl : u = 0 := by omega
    have HE : Hid (Value.string (Utf8.encode 48) = str (Lib.decDigits 0)) := by
      show _ = _
      have := enc_dgt (u := 0) (by omega)
      rw [show (48 : Int) = 48 + ((0 : Nat) : Int) by omega, this, Lib.decDigits, dif_pos (by omega)]
    go_enter Tryd.func18, Tryd.ntmps18
    go_wp2_with fail
    go_ret
    exact ⟨by rw [HE.out]; rfl, rfl⟩
  | succ k ih =>
    intro u w hk hu
    by_cases h : u < 10
    · have HE : Hid (Value.string (Utf8.encode (48 + (u : Int))) = str (Lib.decDigits u)) := by
        show _ = _
        rw [enc_dgt h, Lib.decDigits, dif_pos h]
      go_enter Tryd.func18, Tryd.ntmps18
      go_wp2_with fail
      go_ret
      exact ⟨by rw [HE.out]; rfl, rfl⟩
    · have hd : Calls Tryd.prog 18 #[.int .i64 ((u : Int) / 10)] w (SameW (str (Lib.decDigits (u / 10))) w) := by
        have := ih (u / 10) w (by omega) (by omega)
        rw [show ((u : Int) / 10) = ((u / 10 : Nat) : Int) by omega]; exact this
      have HD := Lib.hid hd
      have hl := (dec_len (u := u / 10) (by omega)).2
      have r1 : (Op.stringOp .add ⟨(Lib.decDigits (u / 10)).toArray⟩ (Utf8.encode (48 + (u : Int) % 10))).run Tryd.prog w = .ok (str (Lib.decDigits u)) w := by
        rw [show (48 + (u : Int) % 10) = 48 + ((u % 10 : Nat) : Int) by omega, enc_dgt (show u % 10 < 10 by omega), add_str w _ _ (by simp; omega)]
        conv => rhs; rw [Lib.decDigits, dif_neg h]
      have hge : ¬ (u : Int) < 10 := by omega
      clear hd ih
      go_enter Tryd.func18, Tryd.ntmps18
      go_wp2_with (go_at_call 18; refine HD.out.mono ?_; rintro e' w' ⟨rfl, rfl⟩)
      go_ret
      exact ⟨rfl, rfl⟩

set_option maxRecDepth 100000 in
set_option maxHeartbeats 8000000 in
theorem refFormat_any (A B : Option Addr) (n m c d : Nat) (h : List Int) (l : List Bs) (w : World) (hn : n ≤ 200) (hm : m ≤ 200) (hsl : Sl w w.heap.size 1 A n (ints h)) (hst : Sl w w.heap.size 1 B m (strs l)) (hle : ∀ s ∈ l, s.length ≤ 9223372036854775807) :
    Calls Tryd.prog 7 #[.slice A n c, .slice B m d] w (Fmtd (fmtA h l) w) := by
  have hhl : h.length = n := hsl.ilen
  have hll : l.length = m := hst.len
  obtain ⟨⟨c1, c2⟩, hc⟩ : ∃ p, chk h = p := ⟨_, rfl⟩
  have C1 := refCheck_any A n c h w (by omega) hsl
  rw [hc] at C1
  have C1 := Lib.hid C1
  have HC : Hid ((chk h).2 = c2) := by show _ = _; rw [hc]
  have HHL := Lib.hid hhl
  have HLL := Lib.hid hll
  clear hc hhl hll
  by_cases h0 : c2 = 0
  · subst h0
    have GR := Lib.hid (good_range HC.out)
    by_cases hlen : n = m
    · subst hlen
      go_enter Tryd.func7, Tryd.ntmps7
      go_wp2_with (go_at_call 16; refine C1.out.mono ?_; rintro e' w1 ⟨rfl, rfl⟩)
      go_loopw [26, 8] (fun iv ov wr => ∃ k : Nat, k ≤ n ∧ iv = .int .i64 k ∧ ov = str (fmtL (h.take k) (l.take k)) ∧ Below w.heap.size w wr ∧ Hid ((l.take k).any badR = false)) (fun iv _ _ => n - (intOf iv).toNat)
      case atStart => exact ⟨0, Nat.zero_le _, rfl, rfl, Below.refl _ _, Lib.hid rfl⟩
      case round =>
        obtain ⟨k, hk, rfl, rfl, hB, hany⟩ := hrel
        have hNN := fmt_take HHL.out HLL.out (by omega) GR.out.2 hk hany.out
        by_cases hlt : k < n
        · obtain ⟨gs, os, hk2, rfl, hg, d0⟩ := (hst.under hB).at_ hlt
          obtain ⟨gh, oh, hk3, rfl, hg3, d1⟩ := (hsl.under hB).int hlt
          have hrl := hle _ (List.getElem_mem hk2)
          have hzr := GR.out.2 _ (List.getElem_mem hk3)
          have hmem := Lib.hid (List.getElem_mem hk2)
          have HS1 := Lib.hid (List.take_succ_eq_append_getElem hk2)
          have HS2 := Lib.hid (List.take_succ_eq_append_getElem hk3)
          obtain ⟨r, hr⟩ : ∃ r, l[k] = r := ⟨_, rfl⟩
          obtain ⟨z, hz⟩ : ∃ z, h[k] = z := ⟨_, rfl⟩
          rw [hr] at d0 hrl hmem HS1
          rw [hz] at d1 hzr HS2
          rw [HHL.out] at hzr
          obtain ⟨T, hT⟩ : ∃ T, fmtL (h.take k) (l.take k) = T := ⟨_, rfl⟩
          have HTS : Hid (fmtL (h.take (k + 1)) (l.take (k + 1)) = T ++ lnF z r) := by
            show _ = _
            rw [HS1.out, HS2.out, fmtL_snoc z r (by have := HHL.out; have := HLL.out; simp; omega), hT]
          rw [hT] at hNN ⊢
          obtain ⟨D, hD⟩ : ∃ D, Lib.decDigits (z + 1).toNat = D := ⟨_, rfl⟩
          have hDl := dec_len (u := (z + 1).toNat) (by omega)
          rw [hD] at hDl
          have HDD := Lib.hid hD
          have DG := Lib.hid (fun (W : World) => show Calls Tryd.prog 18 #[.int .i64 (z + 1)] W (SameW (str D) W) by
            have := digits_any (z + 1).toNat (z + 1).toNat W (Nat.le_refl _) (by omega)
            rw [hD, show (((z + 1).toNat : Nat) : Int) = z + 1 by omega] at this
            exact this)
          clear hr hz hT hD HS2
          by_cases hre : r = []
          · have HAN := Lib.hid (any_step HS1.out hany.out (show badR r = false by rw [hre]; rfl))
            have hrl2 : r.length ≤ 32 := by rw [hre]; simp
            have e1 : (r == []) = true := by rw [hre]; rfl
            have e2 : r.isEmpty = true := by rw [hre]; rfl
            clear hre
            have r1 : ∀ W, (Op.stringOp .add ⟨D.toArray⟩ ⟨#[9]⟩).run Tryd.prog W = .ok (str (D ++ [9])) W := fun W => add_str W D [9] (by simp; omega)
            have r2 : ∀ W, (Op.stringOp .add ⟨(D ++ [9]).toArray⟩ ⟨r.toArray⟩).run Tryd.prog W = .ok (str (D ++ [9] ++ r)) W := fun W => add_str W _ r (by simp; omega)
            have r3 : ∀ W, (Op.stringOp .add ⟨(D ++ [9] ++ r).toArray⟩ ⟨#[10]⟩).run Tryd.prog W = .ok (str (D ++ [9] ++ r ++ [10])) W := fun W => add_str W _ [10] (by simp; omega)
            have r4 : ∀ W, (Op.stringOp .add ⟨T.toArray⟩ ⟨(D ++ [9] ++ r ++ [10]).toArray⟩).run Tryd.prog W = .ok (str (T ++ (D ++ [9] ++ r ++ [10]))) W := fun W => add_str W _ _ (by simp; omega)
            have hsum : IntKind.i64.wrap (z + 1) = z + 1 := IntWalk.i64_in _ (by omega)
            go_upto_region 12 with (fail)
            go_quiet ((go_at_call 18; exact quiet_s9 (DG.out _)))
            go_wp2
            go_roundw
            case rel => exact ⟨k + 1, by omega, by go_num, by rw [HTS.out]; simp [lnF, HDD.out, ByteArray.mk_append_mk], below_drewN hB _, HAN.out⟩
            case measure => simp [intOf]; omega
          · have e1 : (r == []) = false := by simpa using hre
            have e2 : r.isEmpty = false := by simpa using hre
            cases hok : Tagp.okName r with
            | false =>
              have HF : Hid (fmtA h l = ([], 4)) := fmtA_bad HC.out (HHL.out.trans HLL.out.symm) (any_bad hmem.out (by unfold badR; rw [hok, e2]; rfl))
              clear hre
              go_wp2_with (go_at_call 17; refine (refValidName_any r hrl _).mono ?_; rintro e' w6 ⟨rfl, rfl⟩; rw [hok])
              go_ret2
              exact fmtd_ret HF.out rfl hB
            | true =>
              have hbr : badR r = false := by unfold badR; rw [hok]; simp
              have HAN := Lib.hid (any_step HS1.out hany.out hbr)
              have hrl2 := (name_ten hbr).2
              clear hre hbr
              go_wp2_with (go_at_call 17; refine (refValidName_any r hrl _).mono ?_; rintro e' w6 ⟨rfl, rfl⟩; rw [hok]; refine Hid.out ?_)
              refine Lib.hid ?_
              clear hok
              have r1 : ∀ W, (Op.stringOp .add ⟨D.toArray⟩ ⟨#[9]⟩).run Tryd.prog W = .ok (str (D ++ [9])) W := fun W => add_str W D [9] (by simp; omega)
              have r2 : ∀ W, (Op.stringOp .add ⟨(D ++ [9]).toArray⟩ ⟨r.toArray⟩).run Tryd.prog W = .ok (str (D ++ [9] ++ r)) W := fun W => add_str W _ r (by simp; omega)
              have r3 : ∀ W, (Op.stringOp .add ⟨(D ++ [9] ++ r).toArray⟩ ⟨#[10]⟩).run Tryd.prog W = .ok (str (D ++ [9] ++ r ++ [10])) W := fun W => add_str W _ [10] (by simp; omega)
              have r4 : ∀ W, (Op.stringOp .add ⟨T.toArray⟩ ⟨(D ++ [9] ++ r ++ [10]).toArray⟩).run Tryd.prog W = .ok (str (T ++ (D ++ [9] ++ r ++ [10]))) W := fun W => add_str W _ _ (by simp; omega)
              have hsum : IntKind.i64.wrap (z + 1) = z + 1 := IntWalk.i64_in _ (by omega)
              go_upto_region 12 with (fail)
              go_quiet ((go_at_call 18; exact quiet_s9 (DG.out _)))
              go_wp2
              go_roundw
              case rel => exact ⟨k + 1, by omega, by go_num, by rw [HTS.out]; simp [lnF, HDD.out, ByteArray.mk_append_mk], below_drewN hB _, HAN.out⟩
              case measure => simp [intOf]; omega
        · obtain rfl : n = k := by omega
          have ht1 : h.take n = h := List.take_of_length_le (by rw [HHL.out]; exact Nat.le_refl _)
          have ht2 : l.take n = l := List.take_of_length_le (by rw [HLL.out]; exact Nat.le_refl _)
          rw [ht1, ht2]
          rw [ht2] at hany
          have HF := Lib.hid (fmtA_ok HC.out (HHL.out.trans HLL.out.symm) hany.out)
          clear ht1 ht2 hany
          go_wp2
          go_ret2
          exact fmtd_ret HF.out rfl hB
    · have HF := Lib.hid (fmtA_len HC.out (by rw [HHL.out, HLL.out]; exact hlen))
      have e1 : ((n : Int) == (m : Int)) = false := by rw [beq_eq_false_iff_ne]; omega
      go_enter Tryd.func7, Tryd.ntmps7
      go_wp2_with (go_at_call 16; refine C1.out.mono ?_; rintro e' w1 ⟨rfl, rfl⟩)
      go_ret2
      exact fmtd_ret HF.out rfl (Below.refl _ _)
  · have HF : Hid (fmtA h l = ([], c2)) := by show _ = _; rw [fmtA_chk (by rw [HC.out]; exact h0), HC.out]
    obtain ⟨z, hz⟩ : ∃ z : Int, (c2 : Int) = z := ⟨_, rfl⟩
    rw [hz] at C1
    have e1 : (z == 0) = false := by rw [beq_eq_false_iff_ne]; omega
    have HZ := Lib.hid hz
    clear hz h0
    go_enter Tryd.func7, Tryd.ntmps7
    go_wp2_with (go_at_call 16; refine C1.out.mono ?_; rintro e' w1 ⟨rfl, rfl⟩)
    go_ret2
    exact fmtd_ret HF.out HZ.out (Below.refl _ _)
end Go.Proofs.YtnbnmomichegaaaDoor
