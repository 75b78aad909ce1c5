/-
  The contracts of depend.way, Depth, the reference's Way, Depth and SameInts. Conditions: way: valid heads and an index; else the list's length is an int.
-/
import Derived.Test.YtnbnmomichegaaaDoorDepRefCheck
import Derived.Test.YtnbnmomichegaaaDoorDepPath
import Derived.Maps.AppendAt
namespace Go.Proofs.YtnbnmomichegaaaDoor
open Go.RowKit Dep

/-- A list in memory of the call's own. -/
def Ints (l : List Int) (w : World) (e : Ending) (w' : World) : Prop := ∃ v, e = .returned v ∧ w'.ownsRow w.heap.size 3 1 v l.length (ints l) ∧ Below w.heap.size w w'
namespace Dep
theorem way_more {h : Hs} (hg : Good h) {i : Int} {acc : List Int} {x : Int} (h0 : 0 ≤ x) (e : acc ++ way h x = way h i) : (acc ++ [x]) ++ way h (nx h x) = way h i := by
  rw [← e, way_step hg h0]; simp
theorem usb_iff {h : Hs} {i : Int} : usb h i = true ↔ Good h ∧ 0 ≤ i ∧ i < h.length := by
  unfold usb; simp only [Bool.and_eq_true, decide_eq_true_eq, chk_zero, and_assoc]
theorem depth_yes {h : Hs} {i : Int} (hu : usb h i = true) : depth h i = ((way h i).length : Int) - 1 := by
  obtain ⟨h1, h2, h3⟩ := usb_iff.1 hu
  unfold depth; rw [if_pos ⟨chk_zero.2 h1, h2, h3⟩]
theorem depth_no {h : Hs} {i : Int} (hu : usb h i = false) : depth h i = -1 := by
  unfold depth; rw [if_neg]
  rintro ⟨h1, h2, h3⟩
  rw [usb_iff.2 ⟨chk_zero.1 h1, h2, h3⟩] at hu; cases hu
end Dep

set_option maxRecDepth 100000 in
set_option maxHeartbeats 1000000 in
theorem way_any (A : Option Addr) (n c : Nat) (h : Hs) (i : Int) (w : World) (hg : Dep.Good h) (hi : i < n) (hsl : Sl w w.heap.size 1 A n (ints h)) :
    Calls Tryd.prog 38 #[.slice A n c, .int .i64 i] w (Ints (way h i) w) := by
  have HL := Lib.hid hsl.ilen
  have HG := Lib.hid hg
  have hwl := way_len hg (i := i) (by have := hsl.ilen; omega)
  have hn : n ≤ 4096 := by have := hg.len; have := hsl.ilen; omega
  have hln : h.length ≤ n := by rw [HL.out]; exact Nat.le_refl _
  clear hg
  obtain ⟨i0, hi0, hz0, hz1, hz2⟩ := info_parts info_int
  go_enter Tryd.func38, Tryd.ntmps38
  go_wp2
  go_loopg [1, 5] (way h i).length (fun gk xv lv wr => ∃ (x : Int) (acc : List Int), xv = .int .i64 x ∧ x < n ∧ Hid (gk = (way h x).length) ∧ Hid (acc ++ way h x = way h i) ∧ acc.length ≤ (way h i).length ∧ wr.ownsRow w.heap.size 3 1 lv acc.length (ints acc) ∧ Below w.heap.size w wr)
  case atStart => exact ⟨i, [], rfl, hi, rfl, rfl, Nat.zero_le _, World.ownsRow_nil _ _ _ _, Below.refl _ _⟩
  case round =>
    obtain ⟨x, acc, rfl, hx1, hgk, hacc, hal, hown, hB⟩ := hrel
    by_cases hx0 : 0 ≤ x
    · have HX := Lib.hid (way_more HG.out hx0 hacc.out)
      have hgk2 : Hid (gk = (way h (nx h x)).length + 1) := by show _ = _; rw [hgk.out, way_step HG.out hx0]; rfl
      have hal2 : acc.length + 1 ≤ (way h i).length := by rw [← HX.out]; simp only [List.length_append, List.length_cons, List.length_nil]; omega
      obtain ⟨a, rfl⟩ : ∃ a : Nat, x = a := ⟨x.toNat, by omega⟩
      obtain ⟨g, o, ha', rfl, hgl, c0⟩ := (hsl.under hB).int (show a < n by omega)
      have hnx : Hid (nx h (a : Nat) = h[a]) := nx_at ha'
      have hok : h[a] < n := by rw [← HL.out]; exact (HG.out.ok _ (List.getElem_mem ha')).2
      obtain ⟨y, hy⟩ : ∃ y, h[a] = y := ⟨_, rfl⟩
      rw [hy] at c0 hnx hok
      have hoa := hown.alloc (.cells #[.int .i64 (a : Nat)] 3)
      have hBa := hB.alloc hB.size (.cells #[.int .i64 (a : Nat)] 3)
      clear hy
      go_wp2_with (at_builtin; refine wpList_append_own _ rfl (.tmp 12) (.tmp 14) _ rfl w.heap.size 3 i0 _ 1 8 Tryd.underlying22 hi0 hz0 hz1 hz2 rfl (by decide) _ _ _ rfl hoa ⟨wr.heap.size, 0, none⟩ 1 1 [.int .i64 (a : Nat)] rfl rfl ?c1 ?c2 ?c3 ?c4 ?c5 ?_)
      case c1 => exact news_new _ _ [_]
      case c2 => intro u hu; simp at hu; subst hu; rfl
      case c3 => simp [maxLen]; omega
      case c4 => omega
      case c5 => exact hBa.size
      intro v' w2 hown2 hg2 _
      have hB2 : Below w.heap.size w w2 := hBa.grown hg2 hBa.size (fun k hk => (hown.lt k hk).1)
      rw [show ints acc ++ [.int .i64 (a : Nat)] = ints (acc ++ [(a : Int)]) by simp [ints], show acc.length + 1 = (acc ++ [(a : Int)]).length by simp] at hown2
      have c0' : w2.cell? ⟨g, o + a, none⟩ = some (.int .i64 y) := by
        rw [← c0]; exact World.cell?_of_block ((hB2.block g (by omega)).trans (hB.block g (by omega)).symm)
      clear hoa hBa hg2 hown c0
      go_wp2
      go_roundg (way h (nx h (a : Nat))).length
      case measure => rw [hgk2.out]; omega
      case rel => exact ⟨y, _, rfl, hok, by show _ = _; rw [hnx.out], by show _ = _; rw [← hnx.out]; exact HX.out, by simp; omega, hown2, hB2⟩
    · have HX : Hid (acc = way h i) := by show _ = _; rw [← hacc.out, way_neg (by omega), List.append_nil]
      go_wp2
      go_ret
      exact ⟨_, rfl, by rw [← HX.out]; exact hown, hB⟩

set_option maxRecDepth 100000 in
theorem depth_any (A : Option Addr) (n c : Nat) (h : Hs) (i : Int) (w : World) (hn : n ≤ 9223372036854775807) (hsl : Sl w w.heap.size 1 A n (ints h)) :
    Calls Tryd.prog 20 #[.slice A n c, .int .i64 i] w (Gave (.int .i64 (depth h i)) w) := by
  have hl := hsl.ilen
  go_enter Tryd.func20, Tryd.ntmps20
  go_wp2_with fail
  refine (usable_any A n c h i _ hn hsl).mono ?_
  rintro e w1 ⟨rfl, hb⟩
  cases hu : usb h i with
  | false =>
    have HD := Lib.hid (depth_no hu)
    clear hu hl
    go_wp2
    go_ret
    exact ⟨ret_int HD.out.symm, hb⟩
  | true =>
    have HD := Lib.hid (depth_yes hu)
    obtain ⟨hg, h0, h1⟩ := usb_iff.1 hu
    have hwl := way_len hg h1
    have hg4 := hg.len
    have HG := Lib.hid hg
    have hin : i < n := by omega
    clear hu hl hg
    go_wp2_with fail
    refine (way_any A n c h i _ HG.out hin ((hsl.under hb).up hb.size)).mono ?_
    rintro e w2 ⟨v, rfl, own, hb2⟩
    obtain ⟨A2, c2, rfl, -, -⟩ := own_slc own
    go_wp2
    go_ret
    exact ⟨ret_int HD.out.symm, hb.trans (hb2.mono hb.size)⟩

theorem ints_step {a b : List Int} {k : Nat} (ha : k < a.length) (hb : k < b.length) (h : a.take k = b.take k) (e : a[k] = b[k]) : a.take (k + 1) = b.take (k + 1) := by
  rw [List.take_succ_eq_append_getElem ha, List.take_succ_eq_append_getElem hb, h, e]

set_option maxRecDepth 100000 in
set_option maxHeartbeats 1000000 in
theorem sameInts_any (A B : Option Addr) (n m c d : Nat) (a b : List Int) (w : World) (hn : n ≤ 9223372036854775807) (hm : m ≤ 9223372036854775807) (ha : Sl w w.heap.size 1 A n (ints a)) (hb : Sl w w.heap.size 1 B m (ints b)) :
    Calls Tryd.prog 10 #[.slice A n c, .slice B m d] w (Drawn (.bool (decide (a = b))) w) := by
  have hla := Lib.hid ha.ilen
  have hlb := Lib.hid hb.ilen
  by_cases hnm : n = m
  · subst hnm
    have hnm2 : ((n : Int) != n) = false := by simp
    go_enter Tryd.func10, Tryd.ntmps10
    go_wp2
    go_loopw [13] (fun iv wr => ∃ k q : Nat, k ≤ n ∧ iv = .int .i64 k ∧ wr = w.drewN q ∧ Hid (a.take k = b.take k)) (fun iv _ => n - (intOf iv).toNat)
    case atStart => exact ⟨0, 0, by omega, rfl, rfl, rfl⟩
    case round =>
      obtain ⟨k, q, hk, rfl, rfl, heq⟩ := hrel
      by_cases hlt : k < n
      · obtain ⟨g, o, hk1, rfl, hg, c0⟩ := ha.int hlt
        obtain ⟨g2, o2, hk2, rfl, hg2, c1⟩ := hb.int hlt
        have hst := fun e => Lib.hid (ints_step hk1 hk2 heq.out e)
        have HST := Lib.hid hst
        have hno : Hid (a[k] ≠ b[k] → decide (a = b) = false) := fun e => by simp; rintro rfl; exact e rfl
        obtain ⟨x, hx⟩ : ∃ x, a[k] = x := ⟨_, rfl⟩
        obtain ⟨y, hy⟩ : ∃ y, b[k] = y := ⟨_, rfl⟩
        rw [hx] at c0 HST hno
        rw [hy] at c1 HST hno
        clear hx hy hst
        by_cases hxy : x = y
        · have hxy2 : (x != y) = false := by rw [hxy]; simp
          have HS := Lib.hid (HST.out hxy).out
          clear hxy
          go_wp2
          go_quiet (fail)
          go_wp2
          go_roundw
          case rel => exact ⟨k + 1, _, by omega, by go_num, rfl, HS⟩
          case measure => simp [intOf]; omega
        · have hxy2 : (x != y) = true := by rw [bne_iff_ne]; exact hxy
          have HN := Lib.hid (hno.out hxy)
          clear hxy
          go_wp2
          go_quiet (fail)
          go_wp2
          go_ret
          exact ⟨ret_bool HN.out.symm, q + nq, World.drewN_drewN _ _ _⟩
      · have HF : Hid (decide (a = b) = true) := by
          show _ = _
          have h1 := heq.out
          rw [List.take_of_length_le (by rw [hla.out]; omega), List.take_of_length_le (by rw [hlb.out]; omega)] at h1
          simpa using h1
        go_wp2
        go_ret
        exact ⟨ret_bool HF.out.symm, q, rfl⟩
  · have hnm2 : ((n : Int) != m) = true := by rw [bne_iff_ne]; omega
    have HF : Hid (decide (a = b) = false) := by
      show _ = _
      simp; rintro rfl; exact hnm (hla.out.symm.trans hlb.out)
    clear hnm
    go_enter Tryd.func10, Tryd.ntmps10
    go_wp2
    go_ret
    exact ⟨ret_bool HF.out.symm, 0, rfl⟩
end Go.Proofs.YtnbnmomichegaaaDoor
