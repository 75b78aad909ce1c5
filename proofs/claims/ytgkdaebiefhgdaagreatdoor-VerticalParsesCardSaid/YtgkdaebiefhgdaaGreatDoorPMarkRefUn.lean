/-
 The contract of the reference's Unescape. Condition: the text has at most 2 to the 44th bytes.
-/
import Derived.Test.YtgkdaebiefhgdaaGreatDoorPMarkRefOne
namespace Go.Proofs.YtgkdaebiefhgdaaGreatDoor
open Go.RowKit Utf Tagp
open Feat (Bs)
attribute [local go_sem] byte_mk ByteArray.extract_mk
set_option maxRecDepth 100000 in
set_option maxHeartbeats 800000 in
theorem refUnescape_any (s : Bs) (hs : s.length ≤ 17592186044416) (w : World) : Calls Tryz.prog 71 #[str s] w (Une s w) := by
 go_enter Tryz.func71, Tryz.ntmps71
 go_wp2
 go_loopw [5, 6] (fun v iv wr => ∃ (i : Nat) (out : Bs), i ≤ s.length ∧ out.length ≤ i ∧ iv = .int .i64 i ∧ v = str out ∧ Below w.heap.size w wr ∧
   Hid (un s 0 0 = (un (s.drop i) 0 i).map (out ++ ·))) (fun _ iv _ => s.length - (intOf iv).toNat)
 case atStart => exact ⟨0, [], by omega, by simp, rfl, rfl, Below.refl _ _, by show _ = _; rw [List.drop_zero]; cases un s 0 0 <;> rfl⟩
 case round =>
  obtain ⟨i, out, hi, ho, rfl, rfl, hB, hun⟩ := hrel
  by_cases hlt : i < s.length
  ·by_cases h38 : s[i] = 38
   ·have b1 : ((s[i].toNat : Int) != 38) = false := by rw [h38]; rfl
    have hex := refOne_any (s.drop i) (by rw [List.length_drop]; omega) wr
    have hsl : (s.drop i).take (s.length - i) = s.drop i := List.take_of_length_le (by rw [List.length_drop]; omega)
    have hl := esc1_len (s.drop i)
    rw [List.length_drop] at hl
    by_cases hn : (esc1 (s.drop i)).2 = 0
    ·have HU := Lib.hid (un_bad s i hlt h38 hn)
     unfold RefOne at hex
     rw [if_pos hn, hn] at hex
     clear h38 hn hl
     go_wp2_with fail
     refine hex.mono ?_
     rintro e w1 ⟨hb1, rfl⟩
     go_wp2
     go_ret3
     exact une_bad (hB.trans (Below.mono hb1 hB.size)) (by rw [hun.out, HU.out]; rfl) rfl
    ·have hmin := esc1_min _ hn
     have HU := Lib.hid (un_esc s i hlt h38 hn)
     have eq0 : (((esc1 (s.drop i)).2 : Int) == 0) = false := by rw [beq_eq_false_iff_ne]; omega
     unfold RefOne at hex
     rw [if_neg hn] at hex
     obtain ⟨c, n, hcn⟩ : ∃ c n, esc1 (s.drop i) = (c, n) := ⟨_, _, rfl⟩
     rw [hcn] at hex HU hl hmin eq0
     simp only at hl hmin eq0
     have hel := enc_len c
     obtain ⟨x, hx⟩ : ∃ x, enc c = x := ⟨_, rfl⟩
     simp only [hx] at hex HU hel
     have r1 := fun W => add_str (P := Tryz.prog) W out x (by omega)
     clear h38 hn hcn hx
     go_wp2_with fail
     refine hex.mono ?_
     rintro e w1 ⟨hb1, rfl⟩
     go_wp2
     go_roundw
     case rel => exact ⟨i + n, out ++ x, by omega, by rw [List.length_append]; omega, by go_num, rfl, hB.trans (Below.mono hb1 hB.size), by show _ = _; rw [hun.out, HU.out, map_map]; simp⟩
     case measure => simp [intOf]; omega
   ·have b1 : ((s[i].toNat : Int) != 38) = true := by rw [bne_iff_ne]; intro h; exact h38 (UInt8.toNat_inj.1 (by show _ = 38; omega))
    have HU := Lib.hid (un_at s i hlt h38)
    have hcut : (s.drop i).take 1 = [s[i]] := by rw [List.drop_eq_getElem_cons hlt]; rfl
    have r1 : ∀ W, (Op.stringOp .add ⟨out.toArray⟩ ⟨#[s[i]]⟩).run Tryz.prog W = .ok (str (out ++ [s[i]])) W := fun W => add_str W out [s[i]] (by simp; omega)
    clear h38
    go_wp2
    go_roundw
    case rel => exact ⟨i + 1, out ++ [s[i]], by omega, by rw [List.length_append]; simp; omega, by go_num, rfl, hB, by show _ = _; rw [hun.out, HU.out, map_map]; simp⟩
    case measure => simp [intOf]; omega
  ·have hd : s.drop i = [] := List.drop_eq_nil_of_le (by omega)
   have hfin : Hid (un s 0 0 = .ok out) := by show _ = _; rw [hun.out, hd]; simp [Tagp.un, Except.map]
   clear hd hun
   go_wp2
   go_ret3
   exact une_ok hB hfin.out rfl
end Go.Proofs.YtgkdaebiefhgdaaGreatDoor
