/-
  The contract of depend.Format. Conditions: few heads and relations; the table of powers of ten reads as it is laid.
-/
import Derived.Test.YtnbnmomichegaaaDoorDepFmtP
import Derived.Test.YtnbnmomichegaaaDoorDepRefCheck
import Derived.Test.YtnbnmomichegaaaDoorByt9
import Derived.Test.YtnbnmomichegaaaDoorShelf
import Derived.Lib.ItoaLen
namespace Go.Proofs.YtnbnmomichegaaaDoor
set_option linter.unusedSimpArgs false
set_option linter.unusedVariables false
open Go.RowKit Utf Dep
open Feat (Bs)

def Fmtd (p : Bs × Nat) (w : World) (e : Ending) (w' : World) : Prop := e = .returned (.tuple #[str p.1, .int .i64 (p.2 : Nat)]) ∧ Below w.heap.size w w'
theorem fmtd_ret {p : Bs × Nat} {s : Bs} {n : Nat} {z : Int} {w w' : World} (h : p = (s, n)) (hz : (n : Int) = z) (hb : Below w.heap.size w w') : Fmtd p w (.returned (.tuple #[str s, .int .i64 z])) w' := by
  subst h; subst hz; exact ⟨rfl, hb⟩
theorem itoa_pos {z : Int} (h : -1 ≤ z) : Lib.itoa (z + 1) = Lib.decDigits (z + 1).toNat := by unfold Lib.itoa; rw [if_neg (by omega)]
theorem fmt_take {h : List Int} {l : List Bs} {n k : Nat} (hl : h.length = n) (hl2 : l.length = n) (hn : n ≤ 4096) (hr : ∀ x ∈ h, -1 ≤ x ∧ x < h.length) (hk : k ≤ n) (ha : (l.take k).any badR = false) : (fmtL (h.take k) (l.take k)).length ≤ 54 * k := by
  have := (fmtL_len (h.take k) (l.take k) (by simp; omega) (fun x hx => by have := hr x (List.mem_of_mem_take hx); omega) ha).2
  rw [List.length_take] at this
  omega
theorem any_step {l : List Bs} {k : Nat} {r : Bs} (hs : l.take (k + 1) = l.take k ++ [r]) (ha : (l.take k).any badR = false) (hb : badR r = false) : (l.take (k + 1)).any badR = false := by
  rw [hs, List.any_append, ha]; simpa using hb
theorem any_bad {l : List Bs} {r : Bs} (hm : r ∈ l) (hb : badR r = true) : l.any badR = true := List.any_eq_true.2 ⟨r, hm, hb⟩

set_option maxRecDepth 100000 in
set_option maxHeartbeats 8000000 in
theorem format_any (A B : Option Addr) (n m c d : Nat) (h : List Int) (l : List Bs) (w : World) (hn : n ≤ 200) (hm : m ≤ 200) (hsl : Sl w w.heap.size 1 A n (ints h)) (hst : Sl w w.heap.size 1 B m (strs l)) (hle : ∀ s ∈ l, s.length ≤ 9223372036854775807)
    (htab : Lib.TabBelow Tryd.prog w.heap.size w "internal/strconv.uint64pow10" .u64 Lib.pow10Tab) :
    Calls Tryd.prog 6 #[.slice A n c, .slice B m d] w (Fmtd (fmtA h l) w) := by
  have hhl : h.length = n := hsl.ilen
  have hll : l.length = m := hst.len
  obtain ⟨⟨c1, c2⟩, hc⟩ : ∃ p, chk h = p := ⟨_, rfl⟩
  have C1 := depCheck_any A n c h w (by omega) hsl
  unfold Chked at C1
  rw [hc] at C1
  have C1 := Lib.hid C1
  have HC : Hid ((chk h).2 = c2) := by show _ = _; rw [hc]
  have HT := Lib.hid htab
  have HHL := Lib.hid hhl
  have HLL := Lib.hid hll
  clear hc hhl hll htab
  obtain ⟨i0, hi0, hz0, hz1, hz2⟩ := info_parts info_u8
  by_cases h0 : c2 = 0
  · subst h0
    have GR := Lib.hid (good_range HC.out)
    by_cases hlen : n = m
    · subst hlen
      go_enter Tryd.func6, Tryd.ntmps6
      go_wp2_with (go_at_call 13; refine C1.out.mono ?_; rintro e' w1 ⟨rfl, hb1⟩)
      go_loopw [26, 8] (fun iv ov wr => ∃ k : Nat, k ≤ n ∧ iv = .int .i64 k ∧ wr.ownsRow w.heap.size 5 1 ov (fmtL (h.take k) (l.take k)).length (bys (fmtL (h.take k) (l.take k))) ∧ Below w.heap.size w wr ∧ Hid ((l.take k).any badR = false)) (fun iv _ _ => n - (intOf iv).toNat)
      case atStart => exact ⟨0, Nat.zero_le _, rfl, World.ownsRow_nil _ _ _ _, hb1, Lib.hid rfl⟩
      case round =>
        obtain ⟨k, hk, rfl, hown, hB, hany⟩ := hrel
        have hNN := fmt_take HHL.out HLL.out (by omega) GR.out.2 hk hany.out
        by_cases hlt : k < n
        · obtain ⟨gs, os, hk2, rfl, hg, d0⟩ := (hst.under hB).at_ hlt
          obtain ⟨gh, oh, hk3, rfl, hg3, d1⟩ := (hsl.under hB).int hlt
          have hrl := hle _ (List.getElem_mem hk2)
          have hzr := GR.out.2 _ (List.getElem_mem hk3)
          have hmem := Lib.hid (List.getElem_mem hk2)
          have HS1 := Lib.hid (List.take_succ_eq_append_getElem hk2)
          have HS2 := Lib.hid (List.take_succ_eq_append_getElem hk3)
          obtain ⟨r, hr⟩ : ∃ r, l[k] = r := ⟨_, rfl⟩
          obtain ⟨z, hz⟩ : ∃ z, h[k] = z := ⟨_, rfl⟩
          rw [hr] at d0 hrl hmem HS1
          rw [hz] at d1 hzr HS2
          rw [HHL.out] at hzr
          obtain ⟨T, hT⟩ : ∃ T, fmtL (h.take k) (l.take k) = T := ⟨_, rfl⟩
          have HTS : Hid (fmtL (h.take (k + 1)) (l.take (k + 1)) = T ++ lnF z r) := by
            show _ = _
            rw [HS1.out, HS2.out, fmtL_snoc z r (by have := HHL.out; have := HLL.out; simp; omega), hT]
          rw [hT] at hown hNN
          obtain ⟨D, hD⟩ : ∃ D, Lib.decDigits (z + 1).toNat = D := ⟨_, rfl⟩
          have HD : Hid (Lib.itoa (z + 1) = D) := by show _ = _; rw [itoa_pos hzr.1, hD]
          have hDl := dec_len (u := (z + 1).toNat) (by omega)
          rw [hD] at hDl
          have HDD := Lib.hid hD
          clear hr hz hT hD HS2
          by_cases hre : r = []
          · have HAN := Lib.hid (any_step HS1.out hany.out (show badR r = false by rw [hre]; rfl))
            have hrl2 : r.length ≤ 32 := by rw [hre]; simp
            have e1 : (r == []) = true := by rw [hre]; rfl
            have e2 : r.isEmpty = true := by rw [hre]; rfl
            clear hre
            have hlt2 := hown.lt
            have AP := Lib.hid (Tryd.strconv_AppendInt_10 w.heap.size T.length (z + 1) (by omega) (by omega) _ (bys T) _ hown hB.size (by omega) (HT.out.on hB))
            rw [HD.out] at AP
            go_wp2_with (first
              | (go_at_call 15; refine AP.out.mono ?_; rintro e' w2 ⟨v2, rfl, own2, hb2, -⟩; have hB2 := hB.trans hb2; have own2a : w2.ownsRow w.heap.size 5 1 v2 (T ++ D).length (bys (T ++ D)) := own_move own2 (by simp [bys, Lib.byteCells]) (by simp); have hoa2 := own2a.alloc (.cells #[.int .u8 9] 5); have hba2 := hB2.alloc hB2.size (.cells #[.int .u8 9] 5); have hlt3 := hoa2.lt; have l2 : (T ++ D).length = T.length + D.length := List.length_append)
              | (at_builtin; refine wpList_append_own_at _ rfl (.tmp 45) (.tmp 46) _ rfl w.heap.size 5 i0 _ 1 1 Tryd.underlying51 hi0 hz0 hz1 hz2 rfl (by decide) _ _ _ rfl hoa2 ⟨w2.heap.size, 0, none⟩ 1 1 [.int .u8 9] rfl rfl (news_new _ _ [_]) (by intro u hu; simp at hu; subst hu; rfl) (by simp [maxLen]; omega) (by omega) hba2.size ?_; intro v3 w3 own3 gr3 _ _; have hB3 : Below w.heap.size w w3 := hba2.grown gr3 hba2.size (fun k hk => (hlt3 k hk).1); have own3a : w3.ownsRow w.heap.size 5 1 v3 (T ++ D ++ [9]).length (bys (T ++ D ++ [9])) := own_move own3 (by simp [bys]) (by simp <;> omega); have hlt4 := own3a.lt; have l3 : (T ++ D ++ [9]).length = T.length + D.length + 1 := (by simp <;> omega))
              | (at_builtin; refine wpList_app_str rfl (.tmp 47) (.tmp 48) rfl w.heap.size _ _ _ rfl own3a r rfl (by omega) hB3.size ?_; intro v4 w4 own4 gr4; have hB4 : Below w.heap.size w w4 := hB3.grown gr4 hB3.size (fun k hk => (hlt4 k hk).1); have own4a : w4.ownsRow w.heap.size 5 1 v4 (T ++ D ++ [9] ++ r).length (bys (T ++ D ++ [9] ++ r)) := own_move own4 rfl (by simp <;> omega); have hoa4 := own4a.alloc (.cells #[.int .u8 10] 5); have hba4 := hB4.alloc hB4.size (.cells #[.int .u8 10] 5); have hlt5 := hoa4.lt; have l4 : (T ++ D ++ [9] ++ r).length = T.length + D.length + 1 + r.length := (by simp <;> omega))
              | (at_builtin; refine wpList_append_own_at _ rfl (.tmp 49) (.tmp 50) _ rfl w.heap.size 5 i0 _ 1 1 Tryd.underlying51 hi0 hz0 hz1 hz2 rfl (by decide) _ _ _ rfl hoa4 ⟨w4.heap.size, 0, none⟩ 1 1 [.int .u8 10] rfl rfl (news_new _ _ [_]) (by intro u hu; simp at hu; subst hu; rfl) (by simp [maxLen]; omega) (by omega) hba4.size ?_; intro v5 w5 own5 gr5 _ _; have hB5 : Below w.heap.size w w5 := hba4.grown gr5 hba4.size (fun k hk => (hlt5 k hk).1)))
            go_roundw
            case rel => exact ⟨k + 1, by omega, by go_num, by rw [HTS.out]; exact own_move own5 (by simp [bys, lnF, HDD.out]) (by simp [lnF, HDD.out] <;> omega), hB5, HAN.out⟩
            case measure => simp [intOf]; omega
          · have e1 : (r == []) = false := by simpa using hre
            have e2 : r.isEmpty = false := by simpa using hre
            cases hok : Tagp.okName r with
            | false =>
              have HF : Hid (fmtA h l = ([], 4)) := fmtA_bad HC.out (HHL.out.trans HLL.out.symm) (any_bad hmem.out (by unfold badR; rw [hok, e2]; rfl))
              clear hre
              go_wp2_with (go_at_call 14; refine (validName_any r hrl _).mono ?_; rintro e' w6 ⟨rfl, rfl⟩; rw [hok])
              go_ret2
              exact fmtd_ret HF.out rfl hB
            | true =>
              have hbr : badR r = false := by unfold badR; rw [hok]; simp
              have HAN := Lib.hid (any_step HS1.out hany.out hbr)
              have hrl2 := (name_ten hbr).2
              clear hre hbr
              go_wp2_with (go_at_call 14; refine (validName_any r hrl _).mono ?_; rintro e' w6 ⟨rfl, rfl⟩; rw [hok]; refine Hid.out ?_)
              refine Lib.hid ?_
              clear hok
              have hlt2 := hown.lt
              have AP := Lib.hid (Tryd.strconv_AppendInt_10 w.heap.size T.length (z + 1) (by omega) (by omega) _ (bys T) _ hown hB.size (by omega) (HT.out.on hB))
              rw [HD.out] at AP
              go_wp2_with (first
                | (go_at_call 15; refine AP.out.mono ?_; rintro e' w2 ⟨v2, rfl, own2, hb2, -⟩; have hB2 := hB.trans hb2; have own2a : w2.ownsRow w.heap.size 5 1 v2 (T ++ D).length (bys (T ++ D)) := own_move own2 (by simp [bys, Lib.byteCells]) (by simp); have hoa2 := own2a.alloc (.cells #[.int .u8 9] 5); have hba2 := hB2.alloc hB2.size (.cells #[.int .u8 9] 5); have hlt3 := hoa2.lt; have l2 : (T ++ D).length = T.length + D.length := List.length_append)
                | (at_builtin; refine wpList_append_own_at _ rfl (.tmp 45) (.tmp 46) _ rfl w.heap.size 5 i0 _ 1 1 Tryd.underlying51 hi0 hz0 hz1 hz2 rfl (by decide) _ _ _ rfl hoa2 ⟨w2.heap.size, 0, none⟩ 1 1 [.int .u8 9] rfl rfl (news_new _ _ [_]) (by intro u hu; simp at hu; subst hu; rfl) (by simp [maxLen]; omega) (by omega) hba2.size ?_; intro v3 w3 own3 gr3 _ _; have hB3 : Below w.heap.size w w3 := hba2.grown gr3 hba2.size (fun k hk => (hlt3 k hk).1); have own3a : w3.ownsRow w.heap.size 5 1 v3 (T ++ D ++ [9]).length (bys (T ++ D ++ [9])) := own_move own3 (by simp [bys]) (by simp <;> omega); have hlt4 := own3a.lt; have l3 : (T ++ D ++ [9]).length = T.length + D.length + 1 := (by simp <;> omega))
                | (at_builtin; refine wpList_app_str rfl (.tmp 47) (.tmp 48) rfl w.heap.size _ _ _ rfl own3a r rfl (by omega) hB3.size ?_; intro v4 w4 own4 gr4; have hB4 : Below w.heap.size w w4 := hB3.grown gr4 hB3.size (fun k hk => (hlt4 k hk).1); have own4a : w4.ownsRow w.heap.size 5 1 v4 (T ++ D ++ [9] ++ r).length (bys (T ++ D ++ [9] ++ r)) := own_move own4 rfl (by simp <;> omega); have hoa4 := own4a.alloc (.cells #[.int .u8 10] 5); have hba4 := hB4.alloc hB4.size (.cells #[.int .u8 10] 5); have hlt5 := hoa4.lt; have l4 : (T ++ D ++ [9] ++ r).length = T.length + D.length + 1 + r.length := (by simp <;> omega))
                | (at_builtin; refine wpList_append_own_at _ rfl (.tmp 49) (.tmp 50) _ rfl w.heap.size 5 i0 _ 1 1 Tryd.underlying51 hi0 hz0 hz1 hz2 rfl (by decide) _ _ _ rfl hoa4 ⟨w4.heap.size, 0, none⟩ 1 1 [.int .u8 10] rfl rfl (news_new _ _ [_]) (by intro u hu; simp at hu; subst hu; rfl) (by simp [maxLen]; omega) (by omega) hba4.size ?_; intro v5 w5 own5 gr5 _ _; have hB5 : Below w.heap.size w w5 := hba4.grown gr5 hba4.size (fun k hk => (hlt5 k hk).1)))
              go_roundw
              case rel => exact ⟨k + 1, by omega, by go_num, by rw [HTS.out]; exact own_move own5 (by simp [bys, lnF, HDD.out]) (by simp [lnF, HDD.out] <;> omega), hB5, HAN.out⟩
              case measure => simp [intOf]; omega
        · obtain rfl : n = k := by omega
          have ht1 : h.take n = h := List.take_of_length_le (by rw [HHL.out]; exact Nat.le_refl _)
          have ht2 : l.take n = l := List.take_of_length_le (by rw [HLL.out]; exact Nat.le_refl _)
          rw [ht1, ht2] at hown hNN
          rw [ht2] at hany
          have HF := Lib.hid (fmtA_ok HC.out (HHL.out.trans HLL.out.symm) hany.out)
          have hbk := back_run rfl hown
          clear ht1 ht2 hany
          go_wp2
          go_ret2
          exact fmtd_ret HF.out rfl hB
    · have HF := Lib.hid (fmtA_len HC.out (by rw [HHL.out, HLL.out]; exact hlen))
      have e1 : ((n : Int) == (m : Int)) = false := by rw [beq_eq_false_iff_ne]; omega
      go_enter Tryd.func6, Tryd.ntmps6
      go_wp2_with (go_at_call 13; refine C1.out.mono ?_; rintro e' w1 ⟨rfl, hb1⟩)
      go_ret2
      exact fmtd_ret HF.out rfl hb1
  · have HF : Hid (fmtA h l = ([], c2)) := by show _ = _; rw [fmtA_chk (by rw [HC.out]; exact h0), HC.out]
    obtain ⟨z, hz⟩ : ∃ z : Int, (c2 : Int) = z := ⟨_, rfl⟩
    rw [hz] at C1
    have e1 : (z == 0) = false := by rw [beq_eq_false_iff_ne]; omega
    have HZ := Lib.hid hz
    clear hz h0
    go_enter Tryd.func6, Tryd.ntmps6
    go_wp2_with (go_at_call 13; refine C1.out.mono ?_; rintro e' w1 ⟨rfl, hb1⟩)
    go_ret2
    exact fmtd_ret HF.out HZ.out hb1
end Go.Proofs.YtnbnmomichegaaaDoor
