/-
 Several texts of this seat, one behind the other: MarkCheck, MarkFmt, MarkAwake, MarkLaws, MarkStay, MarkNum, MarkRound. No conditions but those of each.
-/
import Derived.Test.YtgkdaebiefhgdaaGreatDoorJMarkAll
namespace Go.Proofs.YtgkdaebiefhgdaaGreatDoor
open Go.RowKit Utf Tagp
open Feat (Bs lt)
attribute [local go_sem] byte_mk ByteArray.extract_mk
def Short (l : List KV) : Prop := ∀ k (hk : k < l.length), l[k].1.length ≤ 9223372036854775807 ∧ l[k].2.length ≤ 9223372036854775807
theorem Sl.take {w : World} {B n k : Nat} {A : Option Addr} {l : List KV} (h : Sl w B 2 A n (prs l)) (hk : k ≤ n) : Sl w B 2 A k (prs (l.take k)) := by
 have hl : l.length = n := by have := h.1; rw [prs_len] at this; omega
 refine ⟨by rw [prs_len, List.length_take]; omega, fun hp => ?_⟩
 rw [prs_len, List.length_take] at hp
 obtain ⟨g, o, e, hg, hc⟩ := h.2 (by rw [prs_len]; omega)
 refine ⟨g, o, e, hg, fun j u hj => hc j u ?_⟩
 have hjl : j < (prs (l.take k)).length := (List.getElem?_eq_some_iff.1 hj).1
 rw [← hj]
 conv => lhs; rw [← List.take_append_drop k l, prs_append]
 exact List.getElem?_append_left hjl
theorem chkKeys_step (l : List KV) (k : Nat) (hk : k < l.length) : chkKeys (l.take k) (l.drop k) = if okName l[k].1 = false then 4 else if hasK (l.take k) l[k].1 = true then 5 else if vErr l[k].2 ≠ 0 then vErr l[k].2 else chkKeys (l.take (k + 1)) (l.drop (k + 1)) := by
 rw [List.drop_eq_getElem_cons hk, chkKeys, List.take_succ_eq_append_getElem hk]

set_option maxRecDepth 100000 in
set_option maxHeartbeats 1600000 in
theorem check_any (cl : Bool) (nm : Bs) (A : Option Addr) (n c : Nat) (l : List KV) (w : World) (hn : n ≤ 9223372036854775807) (hnc : n ≤ c) (hnm : nm.length ≤ 9223372036854775807) (hsh : Short l) (h : Sl w w.heap.size 2 A n (prs l)) :
  Calls Tryz.prog 124 #[.agg #[.bool cl, str nm, .slice A n c]] w (fun e w' => e = .returned (.int .i64 (chk cl nm l : Nat)) ∧ Below w.heap.size w w') := by
 have hl : l.length = n := by have := h.1; rw [prs_len] at this; omega
 obtain ⟨i0, hi0, hz0, hz1, hz2⟩ := info_parts info_pairM
 have hblk := Blk.new w 106 #[.bool cl, str nm, .slice A n c]
 have hB0 := (Below.refl w.heap.size w).alloc (Nat.le_refl _) (.cells #[.bool cl, str nm, .slice A n c] 106)
 go_enter Tryz.func124, Tryz.ntmps124
 go_wp2_with fail
 refine (validName_any nm (by omega) _).mono ?_
 rintro e w1 ⟨rfl, rfl⟩
 cases hok : okName nm with
 | false =>
  have HF : Hid (chk cl nm l = 4) := by show _ = _; unfold chk; rw [if_pos hok]
  clear hok
  go_wp2
  go_ret
  exact ⟨by rw [HF.out]; rfl, hB0⟩
 | true =>
  have HC : Hid (chk cl nm l = if (cl = true ∧ 0 < l.length) ∨ 8 < l.length then 15 else chkKeys [] l) := by show _ = _; unfold chk; rw [if_neg (by rw [hok]; simp)]
  clear hok
  by_cases h15 : (cl = true ∧ 0 < l.length) ∨ 8 < l.length
  ·have HF := Lib.hid (HC.out.trans (if_pos h15))
   cases cl with
   | true =>
    by_cases h0 : 0 < n
    ·clear h15
     go_wp2
     go_ret
     exact ⟨by rw [HF.out]; rfl, hB0⟩
    ·omega
   | false =>
    have h8 : 8 < n := by simp at h15; omega
    clear h15
    go_wp2
    go_ret
    exact ⟨by rw [HF.out]; rfl, hB0⟩
  ·have HC2 := Lib.hid (HC.out.trans (if_neg h15))
   have h8 : ¬ 8 < n := by omega
   have h0 : cl = true → ¬ 0 < n := by intro e h; exact h15 (.inl ⟨e, by omega⟩)
   clear h15 HC
   obtain ⟨b0, hb0⟩ : ∃ b, b = cl := ⟨_, rfl⟩
   have hloop : True := trivial
   cases cl with
   | true =>
    obtain rfl : n = 0 := by have := h0 rfl; omega
    obtain rfl : l = [] := List.eq_nil_of_length_eq_zero hl
    go_wp2
    go_loopw [27] (fun iv wr => iv = .int .i64 0 ∧ Below w.heap.size w wr) (fun _ _ => 0)
    case atStart => exact ⟨rfl, hB0⟩
    case round =>
     obtain ⟨rfl, hB⟩ := hrel
     go_wp2
     go_ret
     exact ⟨by rw [HC2.out]; rfl, hB⟩
   | false =>
    clear h0 hb0 hloop
    go_wp2
    go_loopw [27] (fun iv wr => ∃ k : Nat, k ≤ n ∧ iv = .int .i64 k ∧ Below w.heap.size w wr ∧ Blk wr w.heap.size 106 #[.bool false, str nm, .slice A n c] ∧ Hid (chkKeys [] l = chkKeys (l.take k) (l.drop k))) (fun iv _ => n - (intOf iv).toNat)
    case atStart => exact ⟨0, Nat.zero_le _, rfl, hB0, hblk, rfl⟩
    case round =>
     obtain ⟨k, hk, rfl, hB, hb, hkeys⟩ := hrel
     by_cases hlt : k < n
     ·obtain ⟨g, o, hk', rfl, hg, c0, c1⟩ := sl_pair (h.under hB) hlt
      have hstep := Lib.hid (chkKeys_step l k hk')
      have hsp := hsh k hk'
      obtain ⟨p, hp⟩ : ∃ p, l[k] = p := ⟨_, rfl⟩
      rw [hp] at hstep c0 c1 hsp
      clear hp
      have HS := Lib.hid (hkeys.out.trans hstep.out)
      clear hkeys hstep
      go_wp2_with fail
      refine (validName_any p.1 (by omega) _).mono ?_
      rintro e w2 ⟨rfl, rfl⟩
      have hBa := hB.alloc hB.size (.cells #[str p.1, str p.2] 84)
      have hBx : Below w.heap.size w (wr.alloc (.cells #[str p.1, str p.2] 84)).drew := hBa.drew
      have hba := hb.alloc (.cells #[str p.1, str p.2] 84)
      have hpa := Blk.new wr 84 #[str p.1, str p.2]
      have hlw : w.heap.size < wr.heap.size := Blk.lt hb
      cases hok : okName p.1 with
      | false =>
       have HF : Hid (chk false nm l = 4) := by show _ = _; rw [HC2.out, HS.out, if_pos hok]
       clear hok
       go_wp2
       go_ret
       exact ⟨by rw [HF.out]; rfl, hBa⟩
      | true =>
       have HS2 := Lib.hid (HS.out.trans (if_neg (by rw [hok]; simp)))
       clear hok HS
       have hexH := has_any (some ⟨g, o, none⟩) k c (l.take k) p.1 (wr.alloc (.cells #[str p.1, str p.2] 84)).drew (by omega) (((h.under hBx).take hk).up hBx.size)
       have hs1 := fun W => slice_to (P := Tryz.prog) 64 84 i0 Tryz.underlying64 hi0 (some ⟨g, o, none⟩) n c k (by omega) W
       have d2 := fun O => (hb.alloc O).cell 2
       have d20 := hb.cell 2
       cases hH : hasK (l.take k) p.1 with
       | true =>
        have HF : Hid (chk false nm l = 5) := by show _ = _; rw [HC2.out, HS2.out, if_pos hH]
        rw [hH] at hexH
        clear hH
        go_wp2
        go_region_law (go_simp; refine hexH.mono ?_; rintro e w3 ⟨rfl, hb3⟩; go_simp)
        all_goals
         go_wp2
         go_ret
         exact ⟨by rw [HF.out]; rfl, hBx.trans (Below.mono hb3 hBx.size)⟩
       | false =>
        have HS3 := Lib.hid (HS2.out.trans (if_neg (by rw [hH]; simp)))
        rw [hH] at hexH
        clear hH HS2
        go_wp2
        go_region_law (go_simp; refine hexH.mono ?_; rintro e w3 ⟨rfl, hb3⟩; have v1 := (Blk.below (w := (wr.alloc (.cells #[str p.1, str p.2] 84)).drew) hpa hb3).cell 1; have v0 := (Blk.below (w := (wr.alloc (.cells #[str p.1, str p.2] 84)).drew) hpa hb3).cell 0; go_simp)
        all_goals
         have hB3 := hBx.trans (Below.mono hb3 hBx.size)
         have hbt := Blk.below (w := (wr.alloc (.cells #[str p.1, str p.2] 84)).drew) hba hb3
         go_wp2_with fail
         refine (value_any p.2 (by omega) _).mono ?_
         rintro e w4 ⟨rfl, hb4⟩
         have hB4 := hB3.trans (Below.mono hb4 hB3.size)
         have hbt4 := hbt.below hb4
         by_cases hv : vErr p.2 = 0
         ·have E : ((vErr p.2 : Int) != 0) = false := by rw [hv]; rfl
          have HS4 := Lib.hid (HS3.out.trans (if_neg (by rw [hv]; simp)))
          clear hv HS3
          go_wp2
          go_roundw
          case rel => exact ⟨k + 1, by omega, by go_num, hB4, hbt4, HS4⟩
          case measure => simp [intOf]; omega
         ·have E : ((vErr p.2 : Int) != 0) = true := by rw [bne_iff_ne]; omega
          have HF : Hid (chk false nm l = vErr p.2) := by show _ = _; rw [HC2.out, HS3.out, if_pos hv]
          clear hv
          go_wp2
          go_ret
          exact ⟨by rw [HF.out]; rfl, hB4⟩
     ·obtain rfl : k = n := by omega
      have HF : Hid (chk false nm l = 0) := by
       show _ = _
       rw [HC2.out, hkeys.out, List.drop_eq_nil_of_le (by omega)]
       rfl
      go_wp2
      go_ret
      exact ⟨by rw [HF.out]; rfl, hB⟩
end Go.Proofs.YtgkdaebiefhgdaaGreatDoor
namespace Go.Proofs.YtgkdaebiefhgdaaGreatDoor
open Go.RowKit Utf Tagp
open Feat (Bs lt)
attribute [local go_sem] byte_mk ByteArray.extract_mk
def Texted (r : Bs × Nat) (w : World) (e : Ending) (w' : World) : Prop := e = .returned (.tuple #[str r.1, .int .i64 (r.2 : Nat)]) ∧ Below w.heap.size w w'
theorem texted_ret {r r' : Bs × Nat} {w w' : World} (h : r' = r) (hb : Below w.heap.size w w') {e : Ending} (he : e = .returned (.tuple #[str r.1, .int .i64 (r.2 : Nat)])) : Texted r' w e w' := by subst h; exact ⟨he, hb⟩
theorem okName_len {s : Bs} (h : okName s = true) : 1 ≤ s.length ∧ s.length ≤ 32 := by
 unfold okName at h
 simp only [Bool.and_eq_true, decide_eq_true_eq] at h
 exact ⟨h.1.1.1, h.1.1.2⟩
theorem vErr_len {s : Bs} (h : vErr s = 0) : s.length ≤ 120 := by
 rcases Nat.lt_or_ge 120 s.length with k | k
 ·rw [vErr_long k] at h; cases h
 ·exact k
theorem chkKeys_ok : ∀ (b l : List KV), chkKeys b l = 0 → ∀ p ∈ l, okName p.1 = true ∧ vErr p.2 = 0
 | b, [], _ => by simp
 | b, q :: r, h => by
  rw [chkKeys] at h
  split at h
  ·cases h
  ·rename_i h1
   split at h
   ·cases h
   ·split at h
    ·rename_i h3; exact absurd h h3
    ·rename_i h3
     intro p hp
     rcases List.mem_cons.1 hp with e | e
     ·rw [e]; exact ⟨by simpa using h1, by simpa using h3⟩
     ·exact chkKeys_ok _ r h p e
theorem chk_ok {cl : Bool} {nm : Bs} {l : List KV} (h : chk cl nm l = 0) : okName nm = true ∧ (cl = true → l = []) ∧ l.length ≤ 8 ∧ ∀ p ∈ l, okName p.1 = true ∧ vErr p.2 = 0 := by
 unfold chk at h
 split at h
 ·cases h
 ·rename_i h1
  split at h
  ·cases h
  ·rename_i h2
   refine ⟨by simpa using h1, fun hc => List.eq_nil_of_length_eq_zero ?_, ?_, chkKeys_ok _ l h⟩
   ·by_cases h0 : 0 < l.length
    ·exact absurd (.inl ⟨hc, h0⟩) h2
    ·omega
   ·by_cases h8 : 8 < l.length
    ·exact absurd (.inr h8) h2
    ·omega
theorem mem_sortP {x : KV} {l : List KV} (h : x ∈ sortP l) : x ∈ l := by
 have : ∀ (l m : List KV), x ∈ l.foldl (fun m p => insP p m) m → x ∈ l ∨ x ∈ m := by
  intro l
  induction l with
  | nil => intro m h; exact .inr h
  | cons p r ih =>
   intro m h
   rcases ih _ h with k | k
   ·exact .inl (List.mem_cons_of_mem _ k)
   ·rcases mem_insP k with e | e
    ·exact .inl (by rw [e]; exact List.mem_cons_self)
    ·exact .inr e
 rcases this l [] h with k | k
 ·exact k
 ·simp at k

set_option maxRecDepth 100000 in
set_option maxHeartbeats 1600000 in
theorem formatTag_any (cl : Bool) (nm : Bs) (A : Option Addr) (n c : Nat) (l : List KV) (w : World) (hn : n ≤ 9223372036854775807) (hnc : n ≤ c) (hnm : nm.length ≤ 9223372036854775807) (hsh : Short l) (h : Sl w w.heap.size 2 A n (prs l)) :
  Calls Tryz.prog 81 #[.agg #[.bool cl, str nm, .slice A n c]] w (Texted (fmtT cl nm l) w) := by
 have hl : l.length = n := by have := h.1; rw [prs_len] at this; omega
 have hblk := Blk.new w 106 #[.bool cl, str nm, .slice A n c]
 have hB0 := (Below.refl w.heap.size w).alloc (Nat.le_refl _) (.cells #[.bool cl, str nm, .slice A n c] 106)
 have hC := check_any cl nm A n c l (w.alloc (.cells #[.bool cl, str nm, .slice A n c] 106)) hn hnc hnm hsh ((h.under hB0).up hB0.size)
 go_enter Tryz.func81, Tryz.ntmps81
 go_wp2_with fail
 refine hC.mono ?_
 rintro e w1 ⟨rfl, hb1⟩
 have hB1 := hB0.trans (Below.mono hb1 hB0.size)
 have hblk1 := hblk.below hb1
 by_cases hk : chk cl nm l = 0
 ·have E : ((chk cl nm l : Int) != 0) = false := by rw [hk]; rfl
  have HF : Hid (fmtT cl nm l = if cl = true then ([60, 47] ++ nm ++ [62], 0) else ([60] ++ nm ++ (sortP l).flatMap keyT ++ [62], 0)) := by show _ = _; unfold fmtT; rw [if_neg (by rw [hk]; simp)]
  obtain ⟨hok, hcl, h8, hall⟩ := chk_ok hk
  have hn32 := (okName_len hok).2
  have HA := Lib.hid hall
  have HCL := Lib.hid hcl
  clear hok hall hcl
  have HK := Lib.hid hk
  clear hk
  have d0 := hblk1.cell 0
  have d1 := hblk1.cell 1
  have d2 := hblk1.cell 2
  cases cl with
  | true =>
   have r1 : (Op.stringOp .add ⟨#[60, 47]⟩ ⟨nm.toArray⟩).run Tryz.prog w1 = .ok (str ([60, 47] ++ nm)) w1 := add_str w1 [60, 47] nm (by simp; omega)
   obtain ⟨a1, ha1⟩ : ∃ a, a = [60, 47] ++ nm := ⟨_, rfl⟩
   have hl1 : a1.length = nm.length + 2 := by rw [ha1]; simp
   rw [← ha1] at r1
   have r2 : (Op.stringOp .add ⟨a1.toArray⟩ ⟨#[62]⟩).run Tryz.prog w1 = .ok (str (a1 ++ [62])) w1 := add_str w1 a1 [62] (by simp; omega)
   obtain ⟨a2, ha2⟩ : ∃ a, a = a1 ++ [62] := ⟨_, rfl⟩
   rw [← ha2] at r2
   have HT : Hid (a2 = [60, 47] ++ nm ++ [62]) := by show _ = _; rw [ha2, ha1]
   clear ha1 ha2
   go_wp2
   go_ret2
   exact texted_ret (r := (a2, 0)) (by rw [HF.out, if_pos trivial, HT.out]) hB1 rfl
  | false =>
   have r1 : (Op.stringOp .add ⟨#[60]⟩ ⟨nm.toArray⟩).run Tryz.prog w1 = .ok (str ([60] ++ nm)) w1 := add_str w1 [60] nm (by simp; omega)
   obtain ⟨a1, ha1⟩ : ∃ a, a = [60] ++ nm := ⟨_, rfl⟩
   have hl1 : a1.length = nm.length + 1 := by rw [ha1]; simp
   rw [← ha1] at r1
   have HA1 := Lib.hid ha1
   clear ha1
   have hsl1 := (h.under hB1).up hB1.size
   go_wp2_with fail
   refine (sorted_any A n c l _ (by omega) hsl1).mono ?_
   rintro e w2 ⟨v, rfl, own2, hb2⟩
   obtain ⟨A2, c2, rfl, -⟩ := own_slc own2
   have hB2 := hB1.trans (Below.mono hb2 hB1.size)
   have hsl2 := own_sl own2
   obtain ⟨m, hm⟩ : ∃ m, m = sortP l := ⟨_, rfl⟩
   have HM := Lib.hid hm
   have hml : m.length = n := by rw [hm, sortP_len, hl]
   have hmn : (sortP l).length = n := by rw [sortP_len, hl]
   rw [hmn] at own2 hsl2
   rw [hmn]
   rw [← hm] at own2 hsl2
   clear hm hmn hsl1
   go_wp2
   go_loopw [26, 5] (fun iv ov wr => ∃ (k : Nat) (acc : Bs), k ≤ n ∧ iv = .int .i64 k ∧ ov = str acc ∧ Below w2.heap.size w2 wr ∧ acc.length ≤ 33 + 1000 * k ∧ Hid (acc = [60] ++ nm ++ (m.take k).flatMap keyT)) (fun iv _ _ => n - (intOf iv).toNat)
   case atStart => exact ⟨0, a1, Nat.zero_le _, rfl, rfl, Below.refl _ _, by omega, by show _ = _; rw [HA1.out]; simp⟩
   case round =>
    obtain ⟨k, acc, hk, rfl, rfl, hB, hlen, hacc⟩ := hrel
    by_cases hlt : k < n
    ·obtain ⟨g, o, hk', rfl, hg, c0, c1⟩ := sl_pair (hsl2.under hB) hlt
     have hpk : okName m[k].1 = true ∧ vErr m[k].2 = 0 := HA.out _ (mem_sortP (by rw [← HM.out]; exact List.getElem_mem hk'))
     have hp1 := (okName_len hpk.1).2
     have hp2 := vErr_len hpk.2
     have hst : Hid ((m.take (k + 1)).flatMap keyT = (m.take k).flatMap keyT ++ keyT m[k]) := by show _ = _; rw [List.take_succ_eq_append_getElem hk', List.flatMap_append]; simp
     obtain ⟨p, hp⟩ : ∃ p, m[k] = p := ⟨_, rfl⟩
     rw [hp] at hst c0 c1 hp1 hp2
     clear hp hpk
     have hel := esc_len p.2
     have hBa := hB.alloc hB.size (.cells #[str p.1, str p.2] 84)
     have hexE := fun W => escape_any p.2 (by omega) W
     obtain ⟨ep, hep⟩ : ∃ e, e = esc p.2 := ⟨_, rfl⟩
     rw [← hep] at hexE hel
     obtain ⟨b1, hb1'⟩ : ∃ a, a = [32] ++ p.1 := ⟨_, rfl⟩
     have r3 : ∀ W, (Op.stringOp .add ⟨#[32]⟩ ⟨p.1.toArray⟩).run Tryz.prog W = .ok (str b1) W := fun W => by rw [hb1']; exact add_str W [32] p.1 (by simp; omega)
     have hb1l : b1.length = p.1.length + 1 := by rw [hb1']; simp
     obtain ⟨b2, hb2'⟩ : ∃ a, a = b1 ++ [61, 34] := ⟨_, rfl⟩
     have r4 : ∀ W, (Op.stringOp .add ⟨b1.toArray⟩ ⟨#[61, 34]⟩).run Tryz.prog W = .ok (str b2) W := fun W => by rw [hb2']; exact add_str W b1 [61, 34] (by simp; omega)
     have hb2l : b2.length = b1.length + 2 := by rw [hb2']; simp
     obtain ⟨b3, hb3'⟩ : ∃ a, a = b2 ++ ep := ⟨_, rfl⟩
     have r5 : ∀ W, (Op.stringOp .add ⟨b2.toArray⟩ ⟨ep.toArray⟩).run Tryz.prog W = .ok (str b3) W := fun W => by rw [hb3']; exact add_str W b2 ep (by omega)
     have hb3l : b3.length = b2.length + ep.length := by rw [hb3']; simp
     obtain ⟨b4, hb4'⟩ : ∃ a, a = b3 ++ [34] := ⟨_, rfl⟩
     have r6 : ∀ W, (Op.stringOp .add ⟨b3.toArray⟩ ⟨#[34]⟩).run Tryz.prog W = .ok (str b4) W := fun W => by rw [hb4']; exact add_str W b3 [34] (by simp; omega)
     have hb4l : b4.length = b3.length + 1 := by rw [hb4']; simp
     obtain ⟨b5, hb5'⟩ : ∃ a, a = acc ++ b4 := ⟨_, rfl⟩
     have r7 : ∀ W, (Op.stringOp .add ⟨acc.toArray⟩ ⟨b4.toArray⟩).run Tryz.prog W = .ok (str b5) W := fun W => by rw [hb5']; exact add_str W acc b4 (by omega)
     have hb5l : b5.length = acc.length + b4.length := by rw [hb5']; simp
     have HB : Hid (b5 = [60] ++ nm ++ (m.take (k + 1)).flatMap keyT) := by
      show _ = _
      rw [hst.out, hb5', hb4', hb3', hb2', hb1', hep, hacc.out]
      simp [keyT]
     clear hep hb1' hb2' hb3' hb4' hb5' hst
     have hpa := Blk.new wr 84 #[str p.1, str p.2]
     go_wp2
     go_region_law (go_simp; refine (hexE _).mono ?_; rintro e w3 ⟨rfl, hb3⟩; have v1 := (Blk.below (w := (wr.alloc (.cells #[str p.1, str p.2] 84)).drew) hpa hb3).cell 1; have v0 := (Blk.below (w := (wr.alloc (.cells #[str p.1, str p.2] 84)).drew) hpa hb3).cell 0; go_simp)
     all_goals
      go_wp2
      go_roundw
      case rel => exact ⟨k + 1, b5, by omega, by go_num, rfl, (hBa.drew).trans (Below.mono hb3 (hBa.drew).size), by omega, HB⟩
      case measure => simp [intOf]; omega
    ·obtain rfl : k = n := by omega
     obtain ⟨b1, hb1'⟩ : ∃ a, a = acc ++ [62] := ⟨_, rfl⟩
     have r3 : (Op.stringOp .add ⟨acc.toArray⟩ ⟨#[62]⟩).run Tryz.prog wr = .ok (str b1) wr := by rw [hb1']; exact add_str wr acc [62] (by simp; omega)
     have HB : Hid (b1 = [60] ++ nm ++ (sortP l).flatMap keyT ++ [62]) := by
      show _ = _
      rw [hb1', hacc.out, List.take_of_length_le (by omega), HM.out]
     clear hb1'
     go_wp2
     go_ret2
     exact texted_ret (r := (b1, 0)) (by rw [HF.out, if_neg (by simp), HB.out]) (hB2.trans (Below.mono hB hB2.size)) rfl
 ·have E : ((chk cl nm l : Int) != 0) = true := by rw [bne_iff_ne]; omega
  have HF : Hid (fmtT cl nm l = ([], chk cl nm l)) := by show _ = _; unfold fmtT; rw [if_pos hk]
  clear hk
  go_wp2
  go_ret2
  exact texted_ret (r := ([], chk cl nm l)) HF.out hB1 rfl
end Go.Proofs.YtgkdaebiefhgdaaGreatDoor
namespace Go.Proofs.YtgkdaebiefhgdaaGreatDoor
open Go.RowKit Utf Tagp
open Feat (Bs lt)
attribute [local go_sem] byte_mk ByteArray.extract_mk
end Go.Proofs.YtgkdaebiefhgdaaGreatDoor
namespace Go.Proofs.YtgkdaebiefhgdaaGreatDoor
open Go.RowKit Utf Tagp
open Feat (Bs lt)
attribute [local go_sem] byte_mk ByteArray.extract_mk
theorem esc_cons (c : UInt8) (r : Bs) : esc (c :: r) = escB c ++ esc r := by simp [esc]
theorem un_escB (c : UInt8) (t : Bs) (i : Nat) : Tagp.un (escB c ++ t) 0 i = (Tagp.un t 0 (i + (escB c).length)).map (c :: ·) := by
 unfold escB
 split
 ·rename_i h; subst h
  simp [Tagp.un, esc1, List.isPrefixOf, enc_38]
 ·split
  ·rename_i h; subst h
   simp [Tagp.un, esc1, List.isPrefixOf, enc_60]
  ·split
   ·rename_i h; subst h
    simp [Tagp.un, esc1, List.isPrefixOf, enc_62]
   ·split
    ·rename_i h; subst h
     simp [Tagp.un, esc1, List.isPrefixOf, enc_34]
    ·rename_i h _ _ _
     simp [Tagp.un, h]
theorem un_back : ∀ (s : Bs) (i : Nat), Tagp.un (esc s) 0 i = .ok s
 | [], i => rfl
 | c :: r, i => by rw [esc_cons, un_escB, un_back r]; rfl
theorem unesc_esc (s : Bs) : unesc (esc s) = (s, 0, 0) := by unfold unesc; rw [un_back]

end Go.Proofs.YtgkdaebiefhgdaaGreatDoor
namespace Go.Proofs.YtgkdaebiefhgdaaGreatDoor
open Go.RowKit Utf Tagp
open Feat (Bs)
theorem tw_stop {p : UInt8 → Bool} {c : UInt8} (hc : p c = false) (r : Bs) : ∀ l : Bs, (l ++ c :: r).takeWhile p = l.takeWhile p
 | [] => by simp [hc]
 | x :: l => by
  cases hx : p x with
  | true => simp only [List.cons_append, List.takeWhile_cons, hx, if_true, tw_stop hc r l]
  | false => simp [hx]
theorem at_in (s tail : Bs) (i : Nat) (hi : i < s.length) : (s ++ 62 :: tail)[i]? = s[i]? := List.getElem?_append_left hi
end Go.Proofs.YtgkdaebiefhgdaaGreatDoor
namespace Go.Proofs.YtgkdaebiefhgdaaGreatDoor
open Go.RowKit Utf Tagp
open Feat (Bs)
theorem tw_all {p : UInt8 → Bool} {c : UInt8} (hc : p c = false) (r : Bs) : ∀ l : Bs, (∀ x ∈ l, p x = true) → (l ++ c :: r).takeWhile p = l
 | [], _ => by simp [hc]
 | x :: l, h => by
  rw [List.cons_append, List.takeWhile_cons, if_pos (h x (by simp)), tw_all hc r l (fun y hy => h y (by simp [hy]))]
end Go.Proofs.YtgkdaebiefhgdaaGreatDoor
namespace Go.Proofs.YtgkdaebiefhgdaaGreatDoor
open Go.RowKit Utf Tagp
open Feat (Bs lt)
theorem at_drop {s r : Bs} {i : Nat} {c : UInt8} (h : s.drop i = c :: r) : s[i]? = some c ∧ s.drop (i + 1) = r := by
 have h1 : (s.drop i)[0]? = some c := by rw [h]; rfl
 rw [List.getElem?_drop] at h1
 refine ⟨by simpa using h1, ?_⟩
 rw [← List.drop_drop, h]
 rfl
theorem drop_more {s a r : Bs} {i : Nat} (h : s.drop i = a ++ r) : s.drop (i + a.length) = r := by
 rw [← List.drop_drop, h]
 simp
theorem run_text {p : UInt8 → Bool} {s a r : Bs} {i : Nat} {c : UInt8} (h : s.drop i = a ++ c :: r) (ha : ∀ x ∈ a, p x = true) (hc : p c = false) : run p s i = i + a.length := by
 unfold run
 rw [h, tw_all hc r a ha]
theorem nameP_text {s nm r : Bs} {i : Nat} {c : UInt8} (h : s.drop i = nm ++ c :: r) (hn : okName nm = true) (hc : gon c = false) : nameP s i = .ok (nm, i + nm.length) := by
 have hl := okName_len hn
 have hok := hn
 unfold okName at hok
 simp only [Bool.and_eq_true] at hok
 have hall : ∀ x ∈ nm, gon x = true := List.all_eq_true.1 hok.2
 have hb := hok.1.2
 have hr := run_text h hall hc
 have h0 : s[i]? = nm.head? := by
  have e : (s.drop i)[0]? = nm.head? := by
   rw [h, List.getElem?_append_left (by omega), List.head?_eq_getElem?]
  rw [List.getElem?_drop] at e
  simpa using e
 unfold nameP
 rw [hr, h0, if_pos hb, if_neg (by omega), h]
 congr 2
 rw [show i + nm.length - i = nm.length by omega]
 exact List.take_left' rfl
theorem eatP_text {s r : Bs} {i : Nat} {c : UInt8} (h : s.drop i = c :: r) : eatP s c i = .ok (i + 1) := by
 unfold eatP
 rw [if_pos (at_drop h).1]
theorem escB_plain (c : UInt8) : ∀ x ∈ escB c, plainCh x = true := by
 unfold escB
 split
 ·decide
 ·split
  ·decide
  ·split
   ·decide
   ·split
    ·decide
    ·intro x hx
     rw [List.mem_singleton.1 hx]
     unfold plainCh
     simp_all
theorem esc_plain (v : Bs) : ∀ x ∈ esc v, plainCh x = true := by
 intro x hx
 unfold esc at hx
 obtain ⟨c, _, hc⟩ := List.mem_flatMap.1 hx
 exact escB_plain c x hc
theorem valueP_text {s v r : Bs} {i : Nat} (h : s.drop i = esc v ++ 34 :: r) (hv : vErr v = 0) : valueP s i = .ok (v, i + (esc v).length + 1) := by
 have hr := run_text (p := plainCh) h (esc_plain v) (by decide)
 have hd := drop_more h
 unfold valueP
 rw [hr, eatP_text hd, show i + (esc v).length - i = (esc v).length by omega, h]
 simp only
 rw [show (esc v ++ 34 :: r).take (esc v).length = esc v from List.take_left' rfl, unesc_esc]
 simp [hv]
theorem keyP_text {s r : Bs} {i : Nat} {p : KV} {acc : List KV} (h : s.drop i = p.1 ++ ([61, 34] ++ (esc p.2 ++ 34 :: r))) (hn : okName p.1 = true) (hv : vErr p.2 = 0) (hh : hasK acc p.1 = false) (h8 : acc.length ≠ 8) :
  ∃ j, keyP s acc i = .ok (p, j) ∧ s.drop j = r := by
 have h1 := nameP_text (c := 61) (r := [34] ++ (esc p.2 ++ 34 :: r)) (s := s) (i := i) h hn (by decide)
 have d1 := drop_more h
 have d2 : s.drop (i + p.1.length) = 61 :: 34 :: (esc p.2 ++ 34 :: r) := d1
 have e1 := eatP_text d2
 have d3 := (at_drop d2).2
 have e2 := eatP_text d3
 have d4 := (at_drop d3).2
 have e3 := valueP_text d4 hv
 have d5 := drop_more d4
 have d6 := (at_drop d5).2
 refine ⟨_, ?_, d6⟩
 unfold keyP
 rw [h1]
 simp only
 rw [if_neg (by rw [hh]; simp), if_neg h8, e1]
 simp only
 rw [e2]
 simp only
 rw [e3]
theorem keyT_at (p : KV) (r : Bs) : keyT p ++ r = 32 :: (p.1 ++ ([61, 34] ++ (esc p.2 ++ 34 :: r))) := by simp [keyT]

theorem keysP_text {s r : Bs} : ∀ (ks acc : List KV) (i m : Nat), s.drop i = (if ks = [] then [] else List.replicate m 32) ++ (ks.flatMap keyT ++ 62 :: r) → acc.length + ks.length ≤ 8 →
  (∀ p ∈ ks, okName p.1 = true ∧ vErr p.2 = 0) → ((acc ++ ks).map (·.1)).Nodup → ∃ j, keysP s (9 - acc.length) acc i = .ok (acc ++ ks, j) ∧ s.drop j = 62 :: r
 | [], acc, i, m, h, hl, _, _ => by
  have h' : s.drop i = 62 :: r := by simpa using h
  refine ⟨i, ?_, h'⟩
  rw [keysP_stop _ (by rw [(at_drop h').1]; simp)]
  simp
 | p :: ks, acc, i, m, h, hl, hok, hnd => by
  rw [if_neg (by simp), List.flatMap_cons, List.append_assoc, keyT_at] at h
  have hp := hok p (by simp)
  have h32 : s[i]? = some 32 := by
   cases m with
   | zero => exact (at_drop h).1
   | succ m => rw [List.replicate_succ] at h; exact (at_drop h).1
  obtain ⟨c, t, hct⟩ : ∃ c t, p.1 = c :: t := by
   have := (okName_len hp.1).1
   cases hq : p.1 with
   | nil => rw [hq] at this; simp at this
   | cons c t => exact ⟨c, t, rfl⟩
  have hc32 : (c == 32) = false := by
   have hb := hp.1
   unfold okName at hb
   simp only [Bool.and_eq_true] at hb
   have hb2 := hb.1.2
   rw [hct] at hb2
   simp only [List.head?_cons, Option.any_some] at hb2
   rw [beq_eq_false_iff_ne]
   intro e
   rw [e] at hb2
   revert hb2
   decide
  have h2 : s.drop i = (List.replicate m 32 ++ [32]) ++ c :: (t ++ ([61, 34] ++ (esc p.2 ++ 34 :: (ks.flatMap keyT ++ 62 :: r)))) := by
   rw [h, hct]; simp
  have hr := run_text (p := (· == 32)) h2 (by
   intro x hx
   rcases List.mem_append.1 hx with e | e
   ·rw [List.eq_of_mem_replicate e]; rfl
   ·rw [List.mem_singleton.1 e]; rfl) hc32
  have hd := drop_more h2
  have hd' : s.drop (i + (List.replicate m (32 : UInt8) ++ [32]).length) = p.1 ++ ([61, 34] ++ (esc p.2 ++ 34 :: (ks.flatMap keyT ++ 62 :: r))) := by rw [hd, hct]; rfl
  have hhas : hasK acc p.1 = false := by
   cases hx : hasK acc p.1 with
   | false => rfl
   | true =>
    unfold hasK at hx
    obtain ⟨q, hq, he⟩ := List.any_eq_true.1 hx
    rw [List.map_append, List.map_cons] at hnd
    have := (List.nodup_append.1 hnd).2.2 q.1 (List.mem_map_of_mem hq) p.1 (by simp)
    exact absurd (eq_of_beq he) this
  obtain ⟨j, hk, hj⟩ := keyP_text hd' hp.1 hp.2 hhas (by simp at hl; omega)
  rw [← hr] at hk
  obtain ⟨j2, hk2, hj2⟩ := keysP_text (s := s) (r := r) ks (acc ++ [p]) j 0 (by rw [hj]; split <;> simp) (by simp at hl ⊢; omega) (fun q hq => hok q (by simp [hq])) (by simpa using hnd)
  refine ⟨j2, ?_, hj2⟩
  rcases keysP_go h32 hk with e | e
  ·rw [e, hk2]; simp
  ·simp at hl; omega

theorem foldl_self : ∀ (l m : List KV), Up (m ++ l) → l.foldl (fun m p => insP p m) m = m ++ l
 | [], m, _ => by simp
 | p :: r, m, h => by
  have hp : insP p m = m ++ [p] := by
   have := insP_place p m m.length (Nat.le_refl _) (fun j hj _ => by
    unfold Up at h
    have := (List.pairwise_append.1 h).2.2 m[j] (List.getElem_mem hj) p (by simp)
    exact this) (fun hi => by omega)
   simpa using this
  rw [List.foldl_cons, hp, foldl_self r (m ++ [p]) (by simpa using h)]
  simp
theorem sortP_self {l : List KV} (h : Up l) : sortP l = l := by
 have := foldl_self l [] (by simpa using h)
 simpa [sortP] using this
theorem insP_perm (p : KV) : ∀ l : List KV, (insP p l).Perm (p :: l)
 | [] => List.Perm.refl _
 | q :: r => by
  unfold insP
  split
  ·exact List.Perm.refl _
  ·exact ((insP_perm p r).cons q).trans (List.Perm.swap p q r)
theorem foldl_perm : ∀ (l m : List KV), (l.foldl (fun m p => insP p m) m).Perm (m ++ l)
 | [], m => by simp
 | p :: r, m => by
  rw [List.foldl_cons]
  refine (foldl_perm r _).trans ?_
  refine ((insP_perm p m).append_right r).trans ?_
  have : (p :: m ++ r).Perm (m ++ p :: r) := List.perm_middle.symm
  exact this
theorem sortP_perm (l : List KV) : (sortP l).Perm l := by
 have := foldl_perm l []
 simpa [sortP] using this
theorem chkKeys_nodup : ∀ (b l : List KV), chkKeys b l = 0 → (b.map (·.1)).Nodup → ((b ++ l).map (·.1)).Nodup
 | b, [], _, h => by simpa using h
 | b, p :: r, h, hb => by
  rw [chkKeys] at h
  split at h
  ·cases h
  ·split at h
   ·cases h
   ·rename_i hh
    split at h
    ·rename_i h3; exact absurd h h3
    ·have hnew : ((b ++ [p]).map (·.1)).Nodup := by
      rw [List.map_append, List.map_cons, List.map_nil]
      refine List.nodup_append.2 ⟨hb, by simp, ?_⟩
      intro x hx y hy e
      rw [List.mem_singleton.1 hy] at e
      obtain ⟨q, hq, he⟩ := List.mem_map.1 hx
      exact hh (by unfold hasK; exact List.any_eq_true.2 ⟨q, hq, by rw [he, e]; simp⟩)
     have := chkKeys_nodup (b ++ [p]) r h hnew
     simpa using this
theorem chk_keys {cl : Bool} {nm : Bs} {l : List KV} (h : chk cl nm l = 0) : chkKeys [] l = 0 := by
 unfold chk at h
 split at h
 ·cases h
 ·split at h
  ·cases h
  ·exact h

def gapT (nm : Bs) (m : Nat) (ks : List KV) : Bs := [60] ++ nm ++ (if ks = [] then [] else List.replicate m 32) ++ (ks.flatMap keyT ++ [62])
theorem tagP_gap {nm : Bs} {l : List KV} (m : Nat) (h : chk false nm l = 0) : tagP (gapT nm m (sortP l)) = .ok (false, nm, sortP l) := by
 obtain ⟨hn, _, h8, hall⟩ := chk_ok h
 have hnd := chkKeys_nodup [] l (chk_keys h) (by simp)
 have hks : ((sortP l).map (·.1)).Nodup := ((sortP_perm l).map _).nodup_iff.2 (by simpa using hnd)
 have hlen : (sortP l).length = l.length := sortP_len l
 have hok : ∀ p ∈ sortP l, okName p.1 = true ∧ vErr p.2 = 0 := fun p hp => hall p (mem_sortP hp)
 obtain ⟨ks, hkse⟩ : ∃ ks, sortP l = ks := ⟨_, rfl⟩
 have hup := sortP_up l
 rw [hkse] at hks hlen hok hup ⊢
 obtain ⟨s, hs⟩ : ∃ s, gapT nm m ks = s := ⟨_, rfl⟩
 rw [hs]
 have d0 : s.drop 0 = 60 :: (nm ++ ((if ks = [] then [] else List.replicate m 32) ++ (ks.flatMap keyT ++ [62]))) := by rw [← hs]; simp [gapT]
 have e0 := eatP_text d0
 have d1 := (at_drop d0).2
 obtain ⟨c, r, hcr⟩ : ∃ c r, (if ks = [] then [] else List.replicate m 32) ++ (ks.flatMap keyT ++ [62]) = c :: r ∧ (c = 32 ∨ c = 62) := by
  cases ks with
  | nil => exact ⟨62, [], rfl, .inr rfl⟩
  | cons p ks =>
   cases m with
   | zero => exact ⟨32, _, by simp [keyT]; rfl, .inl rfl⟩
   | succ m => exact ⟨32, _, by simp [List.replicate_succ]; rfl, .inl rfl⟩
 have hg : gon c = false := by rcases hcr.2 with e | e <;> rw [e] <;> decide
 have d1' : s.drop (0 + 1) = nm ++ c :: r := by rw [d1, hcr.1]
 have e1 := nameP_text d1' hn hg
 have d2 := drop_more d1'
 rw [← hcr.1] at d2
 obtain ⟨j, hk, hj⟩ := keysP_text ks [] _ m d2 (by simp; omega) hok (by simpa using hks)
 have hslash : (s[1]? == some 47) = false := by
  have h1 : s[0 + 1]? = nm.head? := by
   have e : (s.drop (0 + 1))[0]? = nm.head? := by
    rw [d1', List.getElem?_append_left (okName_len hn).1, List.head?_eq_getElem?]
   rw [List.getElem?_drop] at e
   simpa using e
  rw [Nat.zero_add] at h1
  rw [h1]
  have hb := hn
  unfold okName at hb
  simp only [Bool.and_eq_true] at hb
  have hb2 := hb.1.2
  cases nm with
  | nil => rfl
  | cons x t =>
   simp only [List.head?_cons, Option.any_some] at hb2 ⊢
   rw [beq_eq_false_iff_ne]
   intro e
   rw [Option.some.inj e] at hb2
   revert hb2
   decide
 unfold tagP
 rw [e0]
 simp only [hslash]
 rw [if_neg (by simp)]
 rw [show (1 : Nat) = 0 + 1 from rfl, e1]
 simp only
 rw [if_neg (by simp)]
 have hk' : keysP s 9 [] (0 + 1 + nm.length) = .ok ([] ++ ks, j) := hk
 rw [hk']
 simp only
 rw [eatP_text hj]
 simp only
 have hend := (at_drop hj).2
 have hle : s.length ≤ j + 1 := by
  rcases Nat.lt_or_ge (j + 1) s.length with k | k
  ·have := congrArg List.length hend
   rw [List.length_drop] at this
   simp at this
   omega
  ·exact k
 rw [if_neg (by omega), List.nil_append, sortP_self hup]
theorem tagP_close {nm : Bs} (hn : okName nm = true) : tagP ([60, 47] ++ nm ++ [62]) = .ok (true, nm, []) := by
 obtain ⟨s, hs⟩ : ∃ s, [60, 47] ++ nm ++ [62] = s := ⟨_, rfl⟩
 rw [hs]
 have d0 : s.drop 0 = 60 :: 47 :: (nm ++ [62]) := by rw [← hs]; simp
 have e0 := eatP_text d0
 have d1 := (at_drop d0).2
 have hslash : (s[1]? == some 47) = true := by rw [show s[1]? = some 47 from (at_drop d1).1]; rfl
 have d2 := (at_drop d1).2
 have e1 := nameP_text d2 hn (by decide)
 have d3 := drop_more d2
 unfold tagP
 rw [e0]
 simp only [hslash]
 rw [if_pos trivial]
 rw [show (2 : Nat) = 0 + 1 + 1 from rfl, e1]
 simp only
 rw [if_pos trivial]
 simp only
 rw [eatP_text d3]
 simp only
 have hend := (at_drop d3).2
 have hle : s.length ≤ 0 + 1 + 1 + nm.length + 1 := by
  rw [← hs]; simp; omega
 rw [if_neg (by omega)]
 rfl
end Go.Proofs.YtgkdaebiefhgdaaGreatDoor
