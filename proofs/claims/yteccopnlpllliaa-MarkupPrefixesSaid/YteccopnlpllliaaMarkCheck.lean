/-
  The contract of markup.check: the reason why a tag has no text. Conditions: names and values have lengths that are ints; the list's length is an int and at most its capacity.
-/
import Derived.Test.YteccopnlpllliaaMarkParse
namespace Go.Proofs.Yteccopnlpllliaa
open Go.RowKit Utf Tagp
open Feat (Bs lt)
attribute [local go_sem] byte_mk ByteArray.extract_mk

/-- The keys' lengths are bounded. -/
def Short (l : List KV) : Prop := ∀ k (hk : k < l.length), l[k].1.length ≤ 9223372036854775807 ∧ l[k].2.length ≤ 9223372036854775807
theorem Sl.take {w : World} {B n k : Nat} {A : Option Addr} {l : List KV} (h : Sl w B 2 A n (prs l)) (hk : k ≤ n) : Sl w B 2 A k (prs (l.take k)) := by
  have hl : l.length = n := by have := h.1; rw [prs_len] at this; omega
  refine ⟨by rw [prs_len, List.length_take]; omega, fun hp => ?_⟩
  rw [prs_len, List.length_take] at hp
  obtain ⟨g, o, e, hg, hc⟩ := h.2 (by rw [prs_len]; omega)
  refine ⟨g, o, e, hg, fun j u hj => hc j u ?_⟩
  have hjl : j < (prs (l.take k)).length := (List.getElem?_eq_some_iff.1 hj).1
  rw [← hj]
  conv => lhs; rw [← List.take_append_drop k l, prs_append]
  exact List.getElem?_append_left hjl
theorem chkKeys_step (l : List KV) (k : Nat) (hk : k < l.length) : chkKeys (l.take k) (l.drop k) = if okName l[k].1 = false then 4 else if hasK (l.take k) l[k].1 = true then 5 else if vErr l[k].2 ≠ 0 then vErr l[k].2 else chkKeys (l.take (k + 1)) (l.drop (k + 1)) := by
  rw [List.drop_eq_getElem_cons hk, chkKeys, List.take_succ_eq_append_getElem hk]

set_option maxRecDepth 100000 in
set_option maxHeartbeats 1600000 in
theorem check_any (cl : Bool) (nm : Bs) (A : Option Addr) (n c : Nat) (l : List KV) (w : World) (hn : n ≤ 9223372036854775807) (hnc : n ≤ c) (hnm : nm.length ≤ 9223372036854775807) (hsh : Short l) (h : Sl w w.heap.size 2 A n (prs l)) :
    Calls Try.prog 46 #[.agg #[.bool cl, str nm, .slice A n c]] w (fun e w' => e = .returned (.int .i64 (chk cl nm l : Nat)) ∧ Below w.heap.size w w') := by
  have hl : l.length = n := by have := h.1; rw [prs_len] at this; omega
  obtain ⟨i0, hi0, hz0, hz1, hz2⟩ := info_parts info_pair
  have hblk := Blk.new w 33 #[.bool cl, str nm, .slice A n c]
  have hB0 := (Below.refl w.heap.size w).alloc (Nat.le_refl _) (.cells #[.bool cl, str nm, .slice A n c] 33)
  go_enter Try.func46, Try.ntmps46
  go_wp2_with fail
  refine (validName_any nm (by omega) _).mono ?_
  rintro e w1 ⟨rfl, rfl⟩
  cases hok : okName nm with
  | false =>
    have HF : Hid (chk cl nm l = 4) := by show _ = _; unfold chk; rw [if_pos hok]
    clear hok
    go_wp2
    go_ret
    exact ⟨by rw [HF.out]; rfl, hB0⟩
  | true =>
    have HC : Hid (chk cl nm l = if (cl = true ∧ 0 < l.length) ∨ 8 < l.length then 15 else chkKeys [] l) := by show _ = _; unfold chk; rw [if_neg (by rw [hok]; simp)]
    clear hok
    by_cases h15 : (cl = true ∧ 0 < l.length) ∨ 8 < l.length
    · have HF := Lib.hid (HC.out.trans (if_pos h15))
      cases cl with
      | true =>
        by_cases h0 : 0 < n
        · clear h15
          go_wp2
          go_ret
          exact ⟨by rw [HF.out]; rfl, hB0⟩
        · omega
      | false =>
        have h8 : 8 < n := by simp at h15; omega
        clear h15
        go_wp2
        go_ret
        exact ⟨by rw [HF.out]; rfl, hB0⟩
    · have HC2 := Lib.hid (HC.out.trans (if_neg h15))
      have h8 : ¬ 8 < n := by omega
      have h0 : cl = true → ¬ 0 < n := by intro e h; exact h15 (.inl ⟨e, by omega⟩)
      clear h15 HC
      obtain ⟨b0, hb0⟩ : ∃ b, b = cl := ⟨_, rfl⟩
      have hloop : True := trivial
      cases cl with
      | true =>
        obtain rfl : n = 0 := by have := h0 rfl; omega
        obtain rfl : l = [] := List.eq_nil_of_length_eq_zero hl
        go_wp2
        go_loopw [27] (fun iv wr => iv = .int .i64 0 ∧ Below w.heap.size w wr) (fun _ _ => 0)
        case atStart => exact ⟨rfl, hB0⟩
        case round =>
          obtain ⟨rfl, hB⟩ := hrel
          go_wp2
          go_ret
          exact ⟨by rw [HC2.out]; rfl, hB⟩
      | false =>
        clear h0 hb0 hloop
        go_wp2
        go_loopw [27] (fun iv wr => ∃ k : Nat, k ≤ n ∧ iv = .int .i64 k ∧ Below w.heap.size w wr ∧ Blk wr w.heap.size 33 #[.bool false, str nm, .slice A n c] ∧ Hid (chkKeys [] l = chkKeys (l.take k) (l.drop k))) (fun iv _ => n - (intOf iv).toNat)
        case atStart => exact ⟨0, Nat.zero_le _, rfl, hB0, hblk, rfl⟩
        case round =>
          obtain ⟨k, hk, rfl, hB, hb, hkeys⟩ := hrel
          by_cases hlt : k < n
          · obtain ⟨g, o, hk', rfl, hg, c0, c1⟩ := sl_pair (h.under hB) hlt
            have hstep := Lib.hid (chkKeys_step l k hk')
            have hsp := hsh k hk'
            obtain ⟨p, hp⟩ : ∃ p, l[k] = p := ⟨_, rfl⟩
            rw [hp] at hstep c0 c1 hsp
            clear hp
            have HS := Lib.hid (hkeys.out.trans hstep.out)
            clear hkeys hstep
            go_wp2_with fail
            refine (validName_any p.1 (by omega) _).mono ?_
            rintro e w2 ⟨rfl, rfl⟩
            have hBa := hB.alloc hB.size (.cells #[str p.1, str p.2] 52)
            have hBx : Below w.heap.size w (wr.alloc (.cells #[str p.1, str p.2] 52)).drew := hBa.drew
            have hba := hb.alloc (.cells #[str p.1, str p.2] 52)
            have hpa := Blk.new wr 52 #[str p.1, str p.2]
            have hlw : w.heap.size < wr.heap.size := Blk.lt hb
            cases hok : okName p.1 with
            | false =>
              have HF : Hid (chk false nm l = 4) := by show _ = _; rw [HC2.out, HS.out, if_pos hok]
              clear hok
              go_wp2
              go_ret
              exact ⟨by rw [HF.out]; rfl, hBa⟩
            | true =>
              have HS2 := Lib.hid (HS.out.trans (if_neg (by rw [hok]; simp)))
              clear hok HS
              have hexH := has_any (some ⟨g, o, none⟩) k c (l.take k) p.1 (wr.alloc (.cells #[str p.1, str p.2] 52)).drew (by omega) (((h.under hBx).take hk).up hBx.size)
              have hs1 := fun W => slice_to (P := Try.prog) 31 52 i0 Try.underlying31 hi0 (some ⟨g, o, none⟩) n c k (by omega) W
              have d2 := fun O => (hb.alloc O).cell 2
              have d20 := hb.cell 2
              cases hH : hasK (l.take k) p.1 with
              | true =>
                have HF : Hid (chk false nm l = 5) := by show _ = _; rw [HC2.out, HS2.out, if_pos hH]
                rw [hH] at hexH
                clear hH
                go_wp2
                go_region_law (go_simp; refine hexH.mono ?_; rintro e w3 ⟨rfl, hb3⟩; go_simp)
                all_goals
                  go_wp2
                  go_ret
                  exact ⟨by rw [HF.out]; rfl, hBx.trans (Below.mono hb3 hBx.size)⟩
              | false =>
                have HS3 := Lib.hid (HS2.out.trans (if_neg (by rw [hH]; simp)))
                rw [hH] at hexH
                clear hH HS2
                go_wp2
                go_region_law (go_simp; refine hexH.mono ?_; rintro e w3 ⟨rfl, hb3⟩; have v1 := (Blk.below (w := (wr.alloc (.cells #[str p.1, str p.2] 52)).drew) hpa hb3).cell 1; have v0 := (Blk.below (w := (wr.alloc (.cells #[str p.1, str p.2] 52)).drew) hpa hb3).cell 0; go_simp)
                all_goals
                  have hB3 := hBx.trans (Below.mono hb3 hBx.size)
                  have hbt := Blk.below (w := (wr.alloc (.cells #[str p.1, str p.2] 52)).drew) hba hb3
                  go_wp2_with fail
                  refine (value_any p.2 (by omega) _).mono ?_
                  rintro e w4 ⟨rfl, hb4⟩
                  have hB4 := hB3.trans (Below.mono hb4 hB3.size)
                  have hbt4 := hbt.below hb4
                  by_cases hv : vErr p.2 = 0
                  · have E : ((vErr p.2 : Int) != 0) = false := by rw [hv]; rfl
                    have HS4 := Lib.hid (HS3.out.trans (if_neg (by rw [hv]; simp)))
                    clear hv HS3
                    go_wp2
                    go_roundw
                    case rel => exact ⟨k + 1, by omega, by go_num, hB4, hbt4, HS4⟩
                    case measure => simp [intOf]; omega
                  · have E : ((vErr p.2 : Int) != 0) = true := by rw [bne_iff_ne]; omega
                    have HF : Hid (chk false nm l = vErr p.2) := by show _ = _; rw [HC2.out, HS3.out, if_pos hv]
                    clear hv
                    go_wp2
                    go_ret
                    exact ⟨by rw [HF.out]; rfl, hB4⟩
          · obtain rfl : k = n := by omega
            have HF : Hid (chk false nm l = 0) := by
              show _ = _
              rw [HC2.out, hkeys.out, List.drop_eq_nil_of_le (by omega)]
              rfl
            go_wp2
            go_ret
            exact ⟨by rw [HF.out]; rfl, hB⟩
end Go.Proofs.Yteccopnlpllliaa
