/-
 The contract of the reference's reading of one escape. Condition: the text's length is an int.
-/
import Derived.Test.YtgkdaebiefhgdaaGreatDoorPMarkAll
namespace Go.Proofs.YtgkdaebiefhgdaaGreatDoor
open Go.RowKit Utf Tagp
open Feat (Bs)
attribute [local go_sem] byte_mk ByteArray.extract_mk
def esc4 : List KV := [([38, 97, 109, 112, 59], [38]), ([38, 108, 116, 59], [60]), ([38, 103, 116, 59], [62]), ([38, 113, 117, 111, 116, 59], [34])]
theorem esc4_hit (s : Bs) : ∀ (j : Nat) (hj : j < esc4.length), (∀ i (hi : i < esc4.length), i < j → (esc4[i]).1.isPrefixOf s = false) → (esc4[j]).1.isPrefixOf s = true → (esc1 s).2 = (esc4[j]).1.length ∧ enc (esc1 s).1 = (esc4[j]).2 ∧ (esc1 s).2 ≠ 0
 | 0, _, _, h => by
  have e : esc1 s = (38, 5) := by unfold esc1; rw [if_pos (by exact h)]
  rw [e]; exact ⟨rfl, enc_38, by decide⟩
 | 1, _, b, h => by
  have b0 := b 0 (by decide) (by decide)
  have e : esc1 s = (60, 4) := by unfold esc1; rw [if_neg (by rw [show [38, 97, 109, 112, 59].isPrefixOf s = false from b0]; simp), if_pos (by exact h)]
  rw [e]; exact ⟨rfl, enc_60, by decide⟩
 | 2, _, b, h => by
  have b0 := b 0 (by decide) (by decide)
  have b1 := b 1 (by decide) (by decide)
  have e : esc1 s = (62, 4) := by unfold esc1; rw [if_neg (by rw [show [38, 97, 109, 112, 59].isPrefixOf s = false from b0]; simp), if_neg (by rw [show [38, 108, 116, 59].isPrefixOf s = false from b1]; simp), if_pos (by exact h)]
  rw [e]; exact ⟨rfl, enc_62, by decide⟩
 | 3, _, b, h => by
  have b0 := b 0 (by decide) (by decide)
  have b1 := b 1 (by decide) (by decide)
  have b2 := b 2 (by decide) (by decide)
  have e : esc1 s = (34, 6) := by unfold esc1; rw [if_neg (by rw [show [38, 97, 109, 112, 59].isPrefixOf s = false from b0]; simp), if_neg (by rw [show [38, 108, 116, 59].isPrefixOf s = false from b1]; simp), if_neg (by rw [show [38, 103, 116, 59].isPrefixOf s = false from b2]; simp), if_pos (by exact h)]
  rw [e]; exact ⟨rfl, enc_34, by decide⟩
 | k + 4, hj, _, _ => absurd hj (by simp [esc4])
theorem esc4_len (j : Nat) (hj : j < esc4.length) : (esc4[j]).1.length ≤ 6 := by
 match j, hj with
 | 0, _ => show 5 ≤ 6; omega
 | 1, _ => show 4 ≤ 6; omega
 | 2, _ => show 4 ≤ 6; omega
 | 3, _ => show 6 ≤ 6; omega
 | k + 4, hj => exact absurd hj (by simp [esc4])

def RefOne (s : Bs) (w : World) (e : Ending) (w' : World) : Prop := Below w.heap.size w w' ∧ e = .returned (.tuple #[str (if (esc1 s).2 = 0 then [] else enc (esc1 s).1), .int .i64 ((esc1 s).2 : Nat)])
theorem refOne_no {s : Bs} {w w' : World} {e : Ending} (h : esc1 s = (0, 0)) (hb : Below w.heap.size w w') (he : e = .returned (.tuple #[str [], .int .i64 0])) : RefOne s w e w' := by unfold RefOne; rw [h]; exact ⟨hb, he⟩
theorem refOne_yes {s x : Bs} {n : Nat} {w w' : World} {e : Ending} (h : (esc1 s).2 = n) (hx : enc (esc1 s).1 = x) (h0 : (esc1 s).2 ≠ 0) (hb : Below w.heap.size w w') (he : e = .returned (.tuple #[str x, .int .i64 (n : Nat)])) : RefOne s w e w' := by
 unfold RefOne; rw [if_neg h0, h, hx]; exact ⟨hb, he⟩
theorem refOne_num {s : Bs} {n i : Nat} {w w' : World} {e : Ending} (h : esc1 s = (n, i + 1)) (hb : Below w.heap.size w w') (he : e = .returned (.tuple #[.string (Utf8.encode (n : Int)), .int .i64 ((i : Int) + 1)])) : RefOne s w e w' := by
 unfold RefOne
 rw [h, if_neg (by simp), ← enc_back]
 exact ⟨hb, he⟩
theorem esc1_short {s : Bs} (h1 : [38, 97, 109, 112, 59].isPrefixOf s = false) (h2 : [38, 108, 116, 59].isPrefixOf s = false) (h3 : [38, 103, 116, 59].isPrefixOf s = false) (h4 : [38, 113, 117, 111, 116, 59].isPrefixOf s = false) (hl : s.length < 4) : esc1 s = (0, 0) := by
 cases h5 : [38, 35].isPrefixOf s with
 | false => unfold esc1; simp only [h1, h2, h3, h4, h5, Bool.false_eq_true, if_false]
 | true =>
  rw [esc1_num h1 h2 h3 h4 h5]
  by_cases hz : 2 + (digs s).length = 2
  ·rw [if_pos (.inl hz)]
  ·refine if_pos (.inr (.inl fun h => ?_))
   have := (List.getElem?_eq_some_iff.1 h).1
   omega
theorem sl_own_new (w : World) (l : List KV) : Sl (w.alloc (.cells (prs l).toArray 84)) (w.heap.size + 1) 2 (some ⟨w.heap.size, 0, none⟩) l.length (prs l) := by
 refine ⟨prs_len l, fun _ => ⟨_, 0, rfl, Nat.lt_succ_self _, fun j u hj => ?_⟩⟩
 rw [Nat.zero_add, (Blk.new w 84 (prs l).toArray).cell j, ← hj]
 simp

set_option maxRecDepth 100000 in
set_option maxHeartbeats 3200000 in
theorem refOne_any (s : Bs) (hs : s.length ≤ 9223372036854775807) (w : World) : Calls Tryz.prog 114 #[str s] w (RefOne s w) := by
 have hsl0 : Sl (w.alloc (.cells #[str [38, 97, 109, 112, 59], str [38], str [38, 108, 116, 59], str [60], str [38, 103, 116, 59], str [62], str [38, 113, 117, 111, 116, 59], str [34]] 84)) (w.heap.size + 1) 2 (some ⟨w.heap.size, 0, none⟩) 4 (prs esc4) := sl_own_new w esc4
 have hB0 : Below (w.heap.size + 1) (w.alloc (.cells #[str [38, 97, 109, 112, 59], str [38], str [38, 108, 116, 59], str [60], str [38, 103, 116, 59], str [62], str [38, 113, 117, 111, 116, 59], str [34]] 84)) (w.alloc (.cells #[str [38, 97, 109, 112, 59], str [38], str [38, 108, 116, 59], str [60], str [38, 103, 116, 59], str [62], str [38, 113, 117, 111, 116, 59], str [34]] 84)) := Below.refl _ _
 have hB00 := (Below.refl w.heap.size w).alloc (Nat.le_refl _) (.cells #[str [38, 97, 109, 112, 59], str [38], str [38, 108, 116, 59], str [60], str [38, 103, 116, 59], str [62], str [38, 113, 117, 111, 116, 59], str [34]] 84)
 obtain ⟨w0, hw0⟩ : ∃ w0, w0 = (w.alloc (.cells #[str [38, 97, 109, 112, 59], str [38], str [38, 108, 116, 59], str [60], str [38, 103, 116, 59], str [62], str [38, 113, 117, 111, 116, 59], str [34]] 84)) := ⟨_, rfl⟩
 have hw1 : w.heap.size + 1 ≤ w0.heap.size := by rw [hw0]; simp
 have HW := Lib.hid hw0
 rw [← hw0] at hsl0 hB0 hB00
 clear hw0
 go_enter Tryz.func114, Tryz.ntmps114
 go_wp2
 go_loopw [14] (fun iv wr => ∃ j : Nat, j ≤ 4 ∧ iv = .int .i64 j ∧ Below (w.heap.size + 1) w0 wr ∧ Hid (∀ i (hi : i < esc4.length), i < j → (esc4[i]).1.isPrefixOf s = false)) (fun iv _ => 4 - (intOf iv).toNat)
 case atStart => exact ⟨0, by omega, rfl, by rw [HW.out]; exact Below.refl _ _, fun i _ h => by omega⟩
 case round =>
  obtain ⟨j, hj, rfl, hB, hno⟩ := hrel
  have hBw : Below w.heap.size w wr := hB00.trans (Below.mono hB (by omega))
  by_cases hlt : j < 4
  ·obtain ⟨g, o, hj', hg, hgl, c0, c1⟩ := sl_pair (hsl0.under hB) hlt
   cases hg
   rw [Nat.zero_add] at c0 c1
   have hhit := esc4_hit s j hj' hno.out
   have hpl := esc4_len j hj'
   have hnext : (esc4[j]).1.isPrefixOf s = false → ∀ i (hi : i < esc4.length), i < j + 1 → (esc4[i]).1.isPrefixOf s = false := by
    intro h i hi hij
    by_cases e : i = j
    ·subst e; exact h
    ·exact hno.out i hi (by omega)
   obtain ⟨p, hp⟩ : ∃ p, esc4[j] = p := ⟨_, rfl⟩
   rw [hp] at hhit hpl c0 c1 hnext
   have HH := Lib.hid hhit
   have HN := Lib.hid hnext
   clear hp hhit hnext
   have hBa := hBw.alloc hBw.size (.cells #[str p.1, str p.2] 84)
   have hBb := hB.alloc (Nat.le_trans hw1 hB.size) (.cells #[str p.1, str p.2] 84)
   by_cases hl : p.1.length ≤ s.length
   ·have hd : decide ((p.1.length : Int) ≤ (s.length : Int)) = true := by rw [decide_eq_true_iff]; omega
    cases hpre : p.1.isPrefixOf s with
    | true =>
     have hx : List.take p.1.length s = p.1 := by have := pre_take (p := p.1) (s := s); rw [hpre] at this; exact eq_of_beq this.symm
     obtain ⟨a1, a2, a3⟩ := HH.out hpre
     have A1 : Hid ((esc1 s).2 = p.1.length ∧ enc (esc1 s).1 = p.2 ∧ (esc1 s).2 ≠ 0) := ⟨a1, a2, a3⟩
     clear hpre a1 a2 a3 HH HN
     go_wp2
     go_quiet (fail)
     go_wp2
     go_quiet (fail)
     go_wp2
     go_ret2
     exact refOne_yes A1.out.1 A1.out.2.1 A1.out.2.2 (below_drewN (below_drewN hBa _) _) rfl
    | false =>
     have hx : (List.take p.1.length s == p.1) = false := by rw [← pre_take]; exact hpre
     have HX := Lib.hid (HN.out hpre)
     clear hpre
     go_wp2
     go_quiet (fail)
     go_wp2
     go_roundw
     case rel => exact ⟨j + 1, by omega, by go_num, below_drewN hBb _, HX.out⟩
     case measure => simp [intOf]; omega
   ·have hd : decide ((p.1.length : Int) ≤ (s.length : Int)) = false := by rw [decide_eq_false_iff_not]; omega
    have HX := Lib.hid (HN.out (pre_no (by omega)))
    go_wp2
    go_quiet (fail)
    go_wp2
    go_roundw
    case rel => exact ⟨j + 1, by omega, by go_num, below_drewN hBb _, HX.out⟩
    case measure => simp [intOf]; omega
  ·obtain rfl : j = 4 := by omega
   have h1 : [38, 97, 109, 112, 59].isPrefixOf s = false := hno.out 0 (by decide) (by decide)
   have h2 : [38, 108, 116, 59].isPrefixOf s = false := hno.out 1 (by decide) (by decide)
   have h3 : [38, 103, 116, 59].isPrefixOf s = false := hno.out 2 (by decide) (by decide)
   have h4 : [38, 113, 117, 111, 116, 59].isPrefixOf s = false := hno.out 3 (by decide) (by decide)
   clear hno
   by_cases hl4 : s.length < 4
   ·have hd : decide ((s.length : Int) < 4) = true := by rw [decide_eq_true_iff]; omega
    have HR := Lib.hid (esc1_short h1 h2 h3 h4 hl4)
    clear h1 h2 h3 h4
    go_wp2
    go_ret2
    exact refOne_no HR.out hBw rfl
   ·have hd : decide ((s.length : Int) < 4) = false := by rw [decide_eq_false_iff_not]; omega
    cases h5 : [38, 35].isPrefixOf s with
    | false =>
     have hx : (List.take 2 s == [38, 35]) = false := by rw [← h5]; exact (pre_take (p := [38, 35]) (s := s)).symm
     have HR : Hid (esc1 s = (0, 0)) := by show _ = _; unfold esc1; simp only [h1, h2, h3, h4, h5, Bool.false_eq_true, if_false]
     clear h1 h2 h3 h4 h5
     go_wp2
     go_ret2
     exact refOne_no HR.out hBw rfl
    | true =>
     have hx : List.take 2 s = [38, 35] := by have := pre_take (p := [38, 35]) (s := s); rw [h5] at this; exact eq_of_beq this.symm
     have HE := Lib.hid (esc1_num h1 h2 h3 h4 h5)
     have hl2 : 2 ≤ s.length := by omega
     clear h1 h2 h3 h4 h5 hsl0 hB0 hB00 hB HW hw1 hlt hj
     go_wp2
     clear hx
     go_loop [6, 7] (fun n i => ∃ j : Nat, j ≤ (digs s).length ∧ i = .int .i64 ((2 + j : Nat) : Int) ∧ n = .int .i64 (val ((digs s).take j) : Nat)) (fun _ i => 9 - (intOf i).toNat)
     case atStart => exact ⟨0, by omega, rfl, rfl⟩
     case round =>
      obtain ⟨j, hj, rfl, rfl⟩ := hrel
      obtain ⟨hd7, hdl⟩ := digs_le s
      have hdl := hdl hl2
      obtain ⟨i, hi⟩ : ∃ i, 2 + j = i := ⟨_, rfl⟩
      rw [hi]
      by_cases hlt : j < (digs s).length
      ·obtain ⟨q1, q2, q3, q4⟩ := digs_at s j hlt
       have hv0 := val_digs s j
       have hv1 : val ((digs s).take (j + 1)) = 10 * val ((digs s).take j) + ((digs s)[j].toNat - 48) := by rw [List.take_succ_eq_append_getElem hlt, val_snoc]
       have hv2 := val_digs s (j + 1)
       rw [q3] at hv1
       simp only [hi] at q1 q2 q4 hv1
       obtain ⟨d1, d2⟩ := dig_parts q4
       have hc48 : 48 ≤ s[i].toNat := by have := of_decide_eq_true d1; omega
       have hc57 : s[i].toNat ≤ 57 := by have := of_decide_eq_true d2; omega
       obtain ⟨n, hn⟩ : ∃ n, val ((digs s).take j) = n := ⟨_, rfl⟩
       rw [hn] at hv0 hv1 ⊢
       have b9 : decide ((i : Int) < 9) = true := by rw [decide_eq_true_iff]; omega
       have u1 : IntKind.u8.wrap ((s[i].toNat : Int) - 48) = (s[i].toNat : Int) - 48 := by simp [IntKind.wrap, IntKind.signed, IntKind.bits]; omega
       have HV := Lib.hid hv1
       clear hv1 hn q3 q4
       go_wp2
       go_round
       case rel => exact ⟨j + 1, by omega, by rw [← hi]; go_num, by rw [HV.out]; go_num⟩
       case measure => simp [intOf]; omega
      ·have hje : j = (digs s).length := by omega
       subst hje
       rw [List.take_length]
       have hv0 := val_digs s (digs s).length
       rw [List.take_length] at hv0
       have hend := digs_end s
       simp only [hi] at hend
       rw [hi] at HE
       obtain ⟨n, hn⟩ : ∃ n, val (digs s) = n := ⟨_, rfl⟩
       rw [hn] at hv0 HE ⊢
       clear hn
       by_cases hil : i < s.length
       ·have hg0 : s[i]? = some s[i] := List.getElem?_eq_getElem hil
        have h2l : 2 < s.length := by omega
        have g2 : s[2]? = some s[2] := List.getElem?_eq_getElem h2l
        rw [hg0, g2] at HE
        have eil : decide ((s.length : Int) ≤ (i : Int)) = false := by rw [decide_eq_false_iff_not]; omega
        have guard9 : decide ((i : Int) < 9) = false ∨ (decide ((i : Int) < 9) = true ∧ (decide (48 ≤ (s[i].toNat : Int)) = false ∨ (decide (48 ≤ (s[i].toNat : Int)) = true ∧ decide ((s[i].toNat : Int) ≤ 57) = false))) := by
         by_cases h9 : i < 9
         ·exact .inr ⟨by rw [decide_eq_true_iff]; omega, dig_not (hend hil h9)⟩
         ·exact .inl (by rw [decide_eq_false_iff_not]; omega)
        have hcase := one_cases hil h2l HE.out
        clear hend hd7 hdl hi hj hlt hg0 g2 HE hv0
        rcases guard9 with g9 | ⟨g9, g48 | ⟨g48, g57⟩⟩
        all_goals rcases hcase with ⟨t1, hr⟩ | ⟨t1, ⟨t2, hr⟩ | ⟨t2, ⟨t3, t4, hr⟩ | ⟨t3 | ⟨t3, t4⟩, ⟨t5, t6, hr⟩ | ⟨t5 | ⟨t5, t6⟩, ⟨t7, hr⟩ | ⟨t7, hn2, hr⟩⟩⟩⟩⟩
        all_goals have HR := Lib.hid hr
        all_goals clear hr
        all_goals go_wp2
        all_goals go_ret2
        all_goals first
         | exact refOne_no HR.out hBw rfl
         | exact refOne_num HR.out hBw rfl
       ·have eil : decide ((s.length : Int) ≤ (i : Int)) = true := by rw [decide_eq_true_iff]; omega
        have hnil : s[i]? = none := List.getElem?_eq_none (by omega)
        rw [hnil] at HE
        have HR : Hid (esc1 s = (0, 0)) := by show _ = _; rw [HE.out, if_pos (Or.inr (Or.inl (by simp)))]
        clear hend hd7 hdl hj hlt hnil HE hv0
        by_cases hi2 : i = 2
        ·have t1 : ((i : Int) == 2) = true := by rw [beq_iff_eq]; omega
         clear hi hi2
         go_wp2
         go_ret2
         exact refOne_no HR.out hBw rfl
        ·have t1 : ((i : Int) == 2) = false := by rw [beq_eq_false_iff_ne]; omega
         clear hi hi2
         go_wp2
         go_ret2
         exact refOne_no HR.out hBw rfl
end Go.Proofs.YtgkdaebiefhgdaaGreatDoor
