/-
  The contracts of markup.ValidValue and of the reference's ValidValue: for every text both return the same error (vErr), and change nothing that was there. Condition: the text's length is an int.
-/
import Derived.Test.YtaihgoohmcipkaaUnits
import Derived.WalkSpells
import Derived.WalkLawsBesides
import Derived.BigQuiet
import Derived.Deep.QuietTactic
namespace Go.Proofs.Ytaihgoohmcipkaa
open Go.RowKit Utf

/-- The call returns v; nothing that was there has changed. -/
def Kept (v : Value) (w : World) (e : Ending) (w' : World) : Prop := e = .returned v ∧ Below w.heap.size w w'

theorem vErr_long {l : List UInt8} (h : 120 < l.length) : vErr l = 2 := by unfold vErr; rw [if_pos h]
theorem vErr_enc {l : List UInt8} (h : ¬ 120 < l.length) (k : ok l = false) : vErr l = 7 := by unfold vErr; rw [if_neg h, k]; rfl
theorem vErr_ctl {l : List UInt8} (h : ¬ 120 < l.length) (k : ok l = true) : vErr l = if ctlB l then 14 else 0 := by unfold vErr; rw [if_neg h, k]; rfl
theorem ctlT_int (r : Nat) : ctlT r = (decide ((r : Int) ≤ 31) || (r : Int) == 127) := by
  unfold ctlT
  rw [Bool.eq_iff_iff]; simp; omega

set_option maxHeartbeats 1000000 in
theorem value_any (l : List UInt8) (hl : l.length ≤ 9223372036854775807) (w : World) :
    Calls Try.prog 88 #[str l] w (Kept (.int .i64 (vErr l : Nat)) w) := by
  by_cases h1 : 120 < l.length
  · have e : (vErr l : Int) = 2 := by rw [vErr_long h1]; rfl
    have E := Lib.hid e
    clear e
    go_enter Try.func88, Try.ntmps88
    go_wp2
    go_ret
    exact ⟨ret_int E.out.symm, Below.refl _ _⟩
  · cases h2 : ok l with
    | false =>
      have E := Lib.hid (vErr_enc h1 h2)
      go_enter Try.func88, Try.ntmps88
      go_wp2_with (go_at_call 94; refine (valid_any l hl _).mono ?_; rintro e w1 ⟨rfl, hb⟩)
      go_ret
      exact ⟨ret_int (by rw [E.out]; rfl), hb⟩
    | true =>
      have E := Lib.hid (vErr_ctl h1 h2)
      have C := Lib.hid (ctl_eq l h2)
      go_enter Try.func88, Try.ntmps88
      go_wp2_with (go_at_call 94; refine (valid_any l hl _).mono ?_; rintro e w1 ⟨rfl, hb⟩)
      go_loopw [] (fun wr => ∃ pos : Nat, pos ≤ l.length ∧ wr = w1.iter ⟨l.toArray⟩ pos ∧ Hid (ctl l = ctl (l.drop pos))) (fun wr => l.length - wr.iterPos w1.heap.size)
      case atStart => exact ⟨0, Nat.zero_le _, rfl, rfl⟩
      case round =>
        obtain ⟨pos, hpos, rfl, hc⟩ := hrel
        have hbi : Below w.heap.size w (w1.iter ⟨l.toArray⟩ pos) := hb.alloc hb.size _
        by_cases hp : pos < l.length
        · have hd := decode_drop ⟨l.toArray⟩ pos (by show pos < l.toArray.size; simpa using hp)
          obtain ⟨b, t, hbt⟩ : ∃ b t, l.drop pos = b :: t := ⟨_, _, List.drop_eq_getElem_cons hp⟩
          have hw := dec_width b t
          obtain ⟨r', hr'⟩ : ∃ r', (dec (b :: t)).1 = r' := ⟨_, rfl⟩
          obtain ⟨n', hn'⟩ : ∃ n', (dec (b :: t)).2 = n' := ⟨_, rfl⟩
          have hlen : t.length + 1 = l.length - pos := by have := congrArg List.length hbt; simp at this; omega
          rw [hn'] at hw
          have hdd : Utf8.decode ⟨l.toArray⟩ pos = (r', n') := by rw [hd, hbt, ← hr', ← hn']
          have hnx : ∀ ty, (Instr.next (.pointer (some ⟨w1.heap.size, 0, none⟩)) true ty).run Try.prog (w1.iter ⟨l.toArray⟩ pos) = .ok (.tuple #[.bool true, .int .i64 pos, .int .i32 r']) (w1.iter ⟨l.toArray⟩ (pos + n')) := by
            intro ty
            have := run_next_any (P := Try.prog) w1 ⟨l.toArray⟩ pos ty (by show pos < l.toArray.size; simpa using hp)
            rw [hdd] at this; exact this
          have hcn : ctl (l.drop pos) = (ctlT r' || ctl (l.drop (pos + n'))) := by rw [hbt, ctl_cons, hr', hn', ← hbt, List.drop_drop]
          have CN := Lib.hid hcn
          have hbi2 : Below w.heap.size w (w1.iter ⟨l.toArray⟩ (pos + n')) := hb.alloc hb.size _
          have T := Lib.hid (ctlT_int r')
          clear hd hbt hr' hn' hdd hcn
          by_cases c1 : (r' : Int) ≤ 31
          · go_wp2
            go_ret
            exact ⟨ret_int (by rw [E.out, ← C.out, hc.out, CN.out, T.out, decide_eq_true c1]; rfl), hbi2⟩
          · by_cases c2 : ((r' : Int) == 127) = true
            · go_wp2
              go_ret
              exact ⟨ret_int (by rw [E.out, ← C.out, hc.out, CN.out, T.out, c2]; simp), hbi2⟩
            · have c2 : ((r' : Int) == 127) = false := by simpa using c2
              go_wp2
              go_roundw
              case rel => exact ⟨pos + n', by omega, rfl, by show _ = _; rw [hc.out, CN.out, T.out, c2, decide_eq_false c1]; rfl⟩
              case measure => simp [World.iterPos_iter]; omega
        · have hnx : ∀ ty, (Instr.next (.pointer (some ⟨w1.heap.size, 0, none⟩)) true ty).run Try.prog (w1.iter ⟨l.toArray⟩ pos) = .ok (.tuple #[.bool false]) (w1.iter ⟨l.toArray⟩ pos) := by
            intro ty
            exact run_next_end (P := Try.prog) w1 ⟨l.toArray⟩ pos ty (by show ¬ pos < l.toArray.size; simpa using hp)
          go_wp2
          go_ret
          exact ⟨ret_int (by rw [E.out, ← C.out, hc.out, List.drop_eq_nil_of_le (by omega)]; rfl), hbi⟩
end Go.Proofs.Ytaihgoohmcipkaa
