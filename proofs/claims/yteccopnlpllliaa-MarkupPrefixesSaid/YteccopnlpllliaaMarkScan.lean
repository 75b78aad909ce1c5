/-
  The contracts of the scanner's sees and eat. Condition: the text's length is an int.
-/
import Derived.Test.YteccopnlpllliaaMarkUn
namespace Go.Proofs.Yteccopnlpllliaa
open Go.RowKit Utf Tagp
open Feat (Bs)
attribute [local go_sem] byte_mk ByteArray.extract_mk

/-- The scanner lies in block g, at place i of the text. -/
def At (w : World) (g : Nat) (s : Bs) (i : Nat) : Prop := Blk w g 62 #[str s, .int .i64 (i : Nat)]
theorem At.c0 {w : World} {g i : Nat} {s : Bs} (h : At w g s i) : w.cell? ⟨g, 0, none⟩ = some (str s) := (Blk.cell h 0).trans rfl
theorem At.c1 {w : World} {g i : Nat} {s : Bs} (h : At w g s i) : w.cell? ⟨g, 1, none⟩ = some (.int .i64 (i : Nat)) := (Blk.cell h 1).trans rfl

set_option maxHeartbeats 800000 in
theorem sees_any (s : Bs) (g i : Nat) (c : UInt8) (w : World) (hi : i ≤ s.length) (h : At w g s i) :
    Calls Try.prog 53 #[.pointer (some ⟨g, 0, none⟩), .int .u8 (c.toNat : Nat)] w (Drawn (.bool (s[i]? == some c)) w) := by
  have k0 := h.c0
  have k1 := h.c1
  by_cases hlt : i < s.length
  · have he : s[i]? = some s[i] := List.getElem?_eq_getElem hlt
    have hc : ((s[i].toNat : Int) == (c.toNat : Int)) = (s[i]? == some c) := by
      rw [he, Bool.eq_iff_iff]; simp only [beq_iff_eq, Option.some.injEq]
      exact ⟨fun h => UInt8.toNat_inj.1 (by omega), fun h => by rw [h]⟩
    have HC := Lib.hid hc
    clear he hc
    go_enter Try.func53, Try.ntmps53
    go_wp2
    go_quiet (fail)
    go_wp2
    go_ret
    exact ⟨ret_bool HC.out, _, rfl⟩
  · have he : Hid ((s[i]? == some c) = false) := by show _ = _; rw [List.getElem?_eq_none (by omega)]; rfl
    go_enter Try.func53, Try.ntmps53
    go_wp2
    go_quiet (fail)
    go_wp2
    go_ret
    exact ⟨ret_bool he.out.symm, _, rfl⟩
theorem At.drewN {w : World} {g i : Nat} {s : Bs} (h : At w g s i) (q : Nat) : At (w.drewN q) g s i := h
theorem At.move {w : World} {g i : Nat} {s : Bs} (h : At w g s i) (j : Nat) : At (w.setCell ⟨g, 1, none⟩ (.int .i64 (j : Nat))) g s j := Blk.set_ h 1 _
theorem At.free {w : World} {g i : Nat} {s : Bs} (h : At w g s i) (k : Nat) : w.frozen? ⟨g, k, none⟩ = false := Blk.free h k

/-- What the scanner's methods end with: a result and a place further on, or a fault. -/
def fault (p : Nat × Nat) : Ending := .panicked [{ v := .iface 59 (.agg #[.int .i64 (p.1 : Nat), .int .i64 (p.2 : Nat)]), recovered := false }]
def Scan {α : Type} (s : Bs) (g : Nat) (w : World) (r : R (α × Nat)) (val : α → Value → World → Prop) (e : Ending) (w' : World) : Prop :=
  w.grownBy w' (some g) ∧ match r with
    | .ok (a, j) => At w' g s j ∧ ∃ v, e = .returned v ∧ val a v w'
    | .error p => e = fault p

theorem grown_drewN {w : World} {row : Option Nat} (q : Nat) : w.grownBy (w.drewN q) row := ⟨rfl, rfl, rfl, Nat.le_refl _, fun _ _ _ => rfl⟩
theorem grown_move {w : World} {g : Nat} (v : Value) : w.grownBy (w.setCell ⟨g, 1, none⟩ v) (some g) := ⟨rfl, rfl, rfl, by simp, fun k _ hk => setCell_block (fun h => hk (by rw [h]))⟩

set_option maxHeartbeats 800000 in
theorem eat_any (s : Bs) (g i : Nat) (c : UInt8) (w : World) (hs : s.length ≤ 9223372036854775807) (hi : i ≤ s.length) (h : At w g s i) :
    Calls Try.prog 52 #[.pointer (some ⟨g, 0, none⟩), .int .u8 (c.toNat : Nat)] w
      (Scan s g w ((eatP s c i).map fun j => ((), j)) fun _ v _ => v = .tuple #[]) := by
  have k1 := h.c1
  have kf := h.free 1
  by_cases hc : s[i]? = some c
  · have hs1 : Hid ((s[i]? == some c) = true) := by show _ = _; rw [hc]; simp
    have HE : Hid (eatP s c i = .ok (i + 1)) := by show _ = _; unfold eatP; rw [if_pos hc]
    have hlt : i < s.length := (List.getElem?_eq_some_iff.1 hc).1
    clear hc
    go_enter Try.func52, Try.ntmps52
    go_wp2_with fail
    refine (sees_any s g i c w hi h).mono ?_
    rintro e w1 ⟨rfl, q, rfl⟩
    rw [hs1.out]
    go_wp2
    go_end0
    rw [HE.out]
    exact ⟨(grown_drewN q).trans (grown_move _), (h.drewN q).move (i + 1), _, rfl, rfl⟩
  · have hs1 : Hid ((s[i]? == some c) = false) := by show _ = _; simpa using hc
    have HE : Hid (eatP s c i = .error (i, 3)) := by show _ = _; unfold eatP; rw [if_neg hc]
    clear hc
    go_enter Try.func52, Try.ntmps52
    go_wp2_with fail
    refine (sees_any s g i c w hi h).mono ?_
    rintro e w1 ⟨rfl, q, rfl⟩
    rw [hs1.out]
    go_wp2
    refine ⟨rfl, grown_drewN q, ?_⟩
    rw [HE.out]
    rfl

theorem run_ge (p : UInt8 → Bool) (s : Bs) (i : Nat) : i ≤ run p s i := by unfold run; omega
theorem run_le (p : UInt8 → Bool) (s : Bs) (i : Nat) (hi : i ≤ s.length) : run p s i ≤ s.length := by
  unfold run
  have := (List.takeWhile_prefix p (l := s.drop i)).length_le
  rw [List.length_drop] at this
  omega
theorem run_step {p : UInt8 → Bool} {s : Bs} {i : Nat} (hi : i < s.length) (h : p s[i] = true) : run p s i = run p s (i + 1) := by
  unfold run
  rw [List.drop_eq_getElem_cons hi]
  simp only [List.takeWhile_cons, h, if_true, List.length_cons]
  omega
theorem run_stop {p : UInt8 → Bool} {s : Bs} {i : Nat} (hi : i < s.length) (h : p s[i] = false) : run p s i = i := by
  unfold run
  rw [List.drop_eq_getElem_cons hi, List.takeWhile_cons, if_neg (by rw [h]; simp)]
  rfl
theorem run_end (p : UInt8 → Bool) {s : Bs} {i : Nat} (hi : s.length ≤ i) : run p s i = i := by
  unfold run
  rw [List.drop_eq_nil_of_le hi]
  simp

theorem goesOn_is {c : UInt8} {b : Bool} (h : gon c = b) (w : World) : Calls Try.prog 33 #[.int .u8 (c.toNat : Nat)] w fun e w' => e = .returned (.bool b) ∧ w' = w := by
  subst h
  exact (goesOn_any c w).mono fun e w' h => ⟨h.1, h.2.symm⟩
set_option maxRecDepth 100000 in
set_option maxHeartbeats 1600000 in
theorem name_any (s : Bs) (g i : Nat) (w : World) (hs : s.length ≤ 9223372036854775807) (hi : i ≤ s.length) (h : At w g s i) :
    Calls Try.prog 54 #[.pointer (some ⟨g, 0, none⟩)] w (Scan s g w (nameP s i) fun n v _ => v = str n) := by
  have k0 := h.c0
  have k1 := h.c1
  by_cases hlt : i < s.length
  · have he : s[i]? = some s[i] := List.getElem?_eq_getElem hlt
    have hne : ((i : Int) == (s.length : Int)) = false := by rw [beq_eq_false_iff_ne]; omega
    cases hb : beg s[i] with
    | false =>
      have HE : Hid (nameP s i = .error (i, 3)) := by show _ = _; unfold nameP; rw [he]; simp [hb]
      have HB := Lib.hid hb
      clear he hb
      go_enter Try.func54, Try.ntmps54
      go_wp2_with fail
      refine (begins_any s[i] w).mono ?_
      rintro e w1 ⟨rfl, rfl⟩
      rw [HB.out]
      go_wp2
      refine ⟨rfl, grown_drewN 0, ?_⟩
      rw [HE.out]
      rfl
    | true =>
      have HE : Hid (nameP s i = if 32 < run gon s i - i then .error (i, 2) else .ok ((s.drop i).take (run gon s i - i), run gon s i)) := by show _ = _; unfold nameP; rw [he]; simp [hb]
      have HB := Lib.hid hb
      clear he hb
      go_enter Try.func54, Try.ntmps54
      go_wp2_with fail
      refine (begins_any s[i] w).mono ?_
      rintro e w1 ⟨rfl, rfl⟩
      rw [HB.out]
      go_wp2
      go_loopw [54] (fun _ wr => ∃ j : Nat, i ≤ j ∧ j ≤ s.length ∧ w.grownBy wr (some g) ∧ At wr g s j ∧ Hid (run gon s i = run gon s j)) (fun _ wr => s.length - (intOf ((wr.cell? ⟨g, 1, none⟩).getD undef)).toNat)
      case atStart => exact ⟨i, Nat.le_refl _, hi, grown_drewN 0, h, rfl⟩
      case round =>
        obtain ⟨j, hij, hj, hg, hat, hrun⟩ := hrel
        have c0 := hat.c0
        have c1 := hat.c1
        have cf := hat.free 1
        by_cases hjl : j < s.length
        · cases hgn : gon s[j] with
          | true =>
            have HR := Lib.hid (run_step (p := gon) hjl hgn)
            have HG := Lib.hid hgn
            clear hgn
            go_wp2
            go_quiet (exact Calls.quiet_of_same (goesOn_is HG.out _))
            go_wp2
            go_roundw
            case rel =>
              refine ⟨j + 1, by omega, by omega, hg.trans ((grown_drewN _).trans (grown_move _)), (hat.drewN _).move (j + 1), ?_⟩
              show _ = _
              rw [hrun.out, HR.out]
            case measure =>
              have e1 : ((wr.drewN nq).setCell ⟨g, 1, none⟩ (.int .i64 ((j : Int) + 1))).cell? ⟨g, 1, none⟩ = some (.int .i64 ((j + 1 : Nat) : Int)) := ((hat.drewN nq).move (j + 1)).c1
              rw [e1, c1]
              simp [intOf]
              omega
          | false =>
            have HR := Lib.hid (run_stop (p := gon) hjl hgn)
            have HG := Lib.hid hgn
            clear hgn
            by_cases h32 : 32 < j - i
            · have hd : decide ((32 : Int) < (j : Int) - (i : Int)) = true := by rw [decide_eq_true_iff]; omega
              have HF : Hid (nameP s i = .error (i, 2)) := by show _ = _; rw [HE.out, hrun.out, HR.out, if_pos h32]
              clear h32
              go_wp2
              go_quiet (exact Calls.quiet_of_same (goesOn_is HG.out _))
              go_wp2
              refine ⟨rfl, hg.trans (grown_drewN _), ?_⟩
              rw [HF.out]
              rfl
            · have hd : decide ((32 : Int) < (j : Int) - (i : Int)) = false := by rw [decide_eq_false_iff_not]; omega
              have HF : Hid (nameP s i = .ok ((s.drop i).take (j - i), j)) := by show _ = _; rw [HE.out, hrun.out, HR.out, if_neg h32]
              clear h32
              go_wp2
              go_quiet (exact Calls.quiet_of_same (goesOn_is HG.out _))
              go_wp2
              go_quiet (fail)
              go_wp2
              go_ret
              rw [HF.out]
              exact ⟨hg.trans ((grown_drewN _).trans (grown_drewN _)), (hat.drewN _).drewN _, _, rfl, rfl⟩
        · have HR := Lib.hid (run_end gon (s := s) (i := j) (by omega))
          by_cases h32 : 32 < j - i
          · have hd : decide ((32 : Int) < (j : Int) - (i : Int)) = true := by rw [decide_eq_true_iff]; omega
            have HF : Hid (nameP s i = .error (i, 2)) := by show _ = _; rw [HE.out, hrun.out, HR.out, if_pos h32]
            clear h32
            go_wp2
            go_quiet (fail)
            go_wp2
            refine ⟨rfl, hg.trans (grown_drewN _), ?_⟩
            rw [HF.out]
            rfl
          · have hd : decide ((32 : Int) < (j : Int) - (i : Int)) = false := by rw [decide_eq_false_iff_not]; omega
            have HF : Hid (nameP s i = .ok ((s.drop i).take (j - i), j)) := by show _ = _; rw [HE.out, hrun.out, HR.out, if_neg h32]
            clear h32
            go_wp2
            go_quiet (fail)
            go_wp2
            go_quiet (fail)
            go_wp2
            go_ret
            rw [HF.out]
            exact ⟨hg.trans ((grown_drewN _).trans (grown_drewN _)), (hat.drewN _).drewN _, _, rfl, rfl⟩
  · have he : s[i]? = none := List.getElem?_eq_none (by omega)
    have hne : ((i : Int) == (s.length : Int)) = true := by rw [beq_iff_eq]; omega
    have HE : Hid (nameP s i = .error (i, 3)) := by show _ = _; unfold nameP; rw [he]; rfl
    clear he
    go_enter Try.func54, Try.ntmps54
    go_wp2
    refine ⟨rfl, grown_drewN 0, ?_⟩
    rw [HE.out]
    rfl
end Go.Proofs.Yteccopnlpllliaa
