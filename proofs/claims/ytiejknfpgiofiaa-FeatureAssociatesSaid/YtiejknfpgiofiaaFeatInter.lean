/-
  The contracts of feature.Intersect, feature.Subset and the reference's. Condition: a text's length is an int.
-/
import Derived.Test.YtiejknfpgiofiaaFeatUnion
namespace Go.Proofs.Ytiejknfpgiofiaa
open Go.RowKit Utf Feat
attribute [local go_sem] byte_mk ByteArray.extract_mk

theorem cell_lt {w : World} {g o : Nat} {v : Value} (h : w.cell? ⟨g, o, none⟩ = some v) : g < w.heap.size := by
  by_cases hg : g < w.heap.size
  · exact hg
  · have h0 : w.heap[g]? = none := Array.getElem?_eq_none (by omega)
    simp [World.cell?, h0] at h

def common (x y : List Bs) : List Bs := x.filter fun f => within y f
theorem common_step (x y : List Bs) (k : Nat) (hk : k < x.length) : common (x.take (k + 1)) y = if within y x[k] = true then common (x.take k) y ++ [x[k]] else common (x.take k) y := by
  unfold common
  rw [List.take_succ_eq_append_getElem hk, List.filter_append]
  cases h : within y x[k] <;> simp [h]
theorem common_le (x y : List Bs) (k : Nat) : (common (x.take k) y).length ≤ k := Nat.le_trans (List.length_filter_le _ _) (List.length_take_le _ _)
theorem common_mem {x y : List Bs} {f : Bs} (h : f ∈ common x y) : f ∈ x := (List.mem_filter.1 h).1
def sub (x y : List Bs) : Bool := x.all fun f => within y f
theorem sub_step (x y : List Bs) (k : Nat) (hk : k < x.length) : sub (x.take (k + 1)) y = (sub (x.take k) y && within y x[k]) := by
  unfold sub
  rw [List.take_succ_eq_append_getElem hk, List.all_append]
  simp
theorem sub_no {x y : List Bs} {k : Nat} (hk : k < x.length) (h : within y x[k] = false) : sub x y = false := by
  unfold sub
  cases ha : x.all fun f => within y f with
  | false => rfl
  | true => rw [List.all_eq_true] at ha; have := ha _ (List.getElem_mem hk); rw [h] at this; cases this

/-- What Subset hands back. -/
def Sub (r : Bool × Nat) (w : World) (e : Ending) (w' : World) : Prop := e = .returned (.tuple #[.bool r.1, .int .i64 (r.2 : Nat)]) ∧ Below w.heap.size w w'
theorem sub_ret {r r' : Bool × Nat} {w w' : World} (h : r' = r) (hb : Below w.heap.size w w') {e : Ending} (he : e = .returned (.tuple #[.bool r.1, .int .i64 (r.2 : Nat)])) : Sub r' w e w' := by subst h; exact ⟨he, hb⟩
theorem sub_a {a b : Bs} (h : (parse a).2 ≠ 0) : subset a b = (false, (parse a).2) := by unfold subset; rw [if_pos h]
theorem sub_b {a b : Bs} (h0 : (parse a).2 = 0) (h : (parse b).2 ≠ 0) : subset a b = (false, (parse b).2) := by unfold subset; rw [if_neg (by simpa using h0), if_pos h]
theorem sub_k {a b : Bs} (h0 : (parse a).2 = 0) (h : (parse b).2 = 0) : subset a b = (sub (parse a).1 (parse b).1, 0) := by
  unfold subset; rw [if_neg (by simpa using h0), if_neg (by simpa using h)]; rfl

set_option maxRecDepth 100000 in
set_option maxHeartbeats 2000000 in
theorem inter_any (a b : Bs) (ha : a.length ≤ 9223372036854775807) (hb : b.length ≤ 9223372036854775807) (w : World) : Calls Try.prog 21 #[str a, str b] w (Fmt (inter a b) w) := by
  obtain ⟨i0, hi0, hz0, hz1, hz2⟩ := info_parts info_string
  have hex := parseAll_any (some ⟨w.heap.size, 0, none⟩) 2 2 [a, b] (w.alloc (.cells #[str a, str b] 9)) (by omega) (sl_new w 9 (strs [a, b])) (by intro f hf; simp at hf; rcases hf with rfl | rfl <;> assumption)
  go_enter Try.func21, Try.ntmps21
  go_wp2_with fail
  refine hex.mono ?_
  intro e w1 hS
  obtain ⟨hB1, hS⟩ := two_sets hS
  have hB : Below w.heap.size w w1 := ((Below.refl _ w).alloc (Nat.le_refl _) _).trans (hB1.mono (by simp))
  rcases hS with ⟨h0, rfl⟩ | ⟨h0, h1, rfl⟩ | ⟨h0, h1, g, c, A1, c1, A2, c2, rfl, k1, k2, own1, own2⟩
  · have hq : (((parse a).2 : Int) != 0) = true := by rw [bne_iff_ne]; omega
    have HE := Lib.hid (show inter a b = ([], (parse a).2) from both_a h0)
    clear h0
    go_wp2
    go_ret2
    exact fmt_ret HE.out hB rfl
  · have hq : (((parse b).2 : Int) != 0) = true := by rw [bne_iff_ne]; omega
    have HE := Lib.hid (show inter a b = ([], (parse b).2) from both_b h0 h1)
    clear h0 h1
    go_wp2
    go_ret2
    exact fmt_ret HE.out hB rfl
  · have HE := Lib.hid (show inter a b = format (common (parse a).1 (parse b).1) from both_k h0 h1)
    have sx := small_parse a
    have sy := small_parse b
    have lx := len_parse a
    have ly := len_parse b
    obtain ⟨x, hx⟩ : ∃ x, (parse a).1 = x := ⟨_, rfl⟩
    obtain ⟨y, hy⟩ : ∃ y, (parse b).1 = y := ⟨_, rfl⟩
    rw [hx] at k1 own1 HE sx lx
    rw [hy] at k2 own2 HE sy ly
    have hsx := sl_own own1
    have hsy := sl_own own2
    have hg1 := cell_lt k1
    clear h0 h1 hx hy hex own1 own2 hB1
    go_wp2
    go_loopw [8, 25] (fun v iv wr => ∃ k : Nat, k ≤ x.length ∧ iv = .int .i64 k ∧ wr.ownsRow w1.heap.size 9 1 v (common (x.take k) y).length (strs (common (x.take k) y)) ∧ Below w1.heap.size w1 wr) (fun _ iv _ => x.length - (intOf iv).toNat)
    case atStart => exact ⟨0, Nat.zero_le _, rfl, World.ownsRow_nil _ _ _ _, Below.refl _ _⟩
    case round =>
      obtain ⟨k, hk, rfl, hown, hBl⟩ := hrel
      have hBw : Below w.heap.size w wr := hB.trans (hBl.mono hB.size)
      by_cases hlt : k < x.length
      · obtain ⟨gx, ox, hk', rfl, hgx, hcx⟩ := (hsx.below hBl).at_ hlt
        have hst := Lib.hid (common_step x y k hk')
        have k2' : wr.cell? ⟨g, 1, none⟩ = some (.slice A2 y.length c2) := (World.cell?_of_block (hBl.block g hg1)).trans k2
        have hsy2 := (hsy.below hBl).wide hBl.size
        cases hw : within y x[k] with
        | true =>
          have HW := Lib.hid hw
          clear hw
          have hoa := hown.alloc (.cells #[str x[k]] 9)
          have hba := hBl.alloc hBl.size (.cells #[str x[k]] 9)
          have hcl := common_le x y k
          go_wp2_with fail
          refine (contains_any A2 y.length c2 y x[k] _ (by omega) hsy2).mono ?_
          rintro e w5 ⟨rfl, rfl⟩
          rw [HW.out]
          go_wp2_with (at_builtin; refine wpList_append_own_at _ rfl (.tmp 34) (.tmp 36) _ rfl w1.heap.size 9 i0 _ 1 16 Try.underlying23 hi0 hz0 hz1 hz2 rfl (by decide) _ _ _ rfl hoa ⟨wr.heap.size, 0, none⟩ 1 1 [str x[k]] rfl rfl ?c1 ?c2 ?c3 ?c4 ?c5 ?_)
          try (case c1 => exact news_new _ _ [_])
          try (case c2 => first | rfl | (intro u hu; simp at hu; subst hu; rfl))
          try (case c3 => simp [maxLen]; omega)
          try (case c4 => omega)
          try (case c5 => exact hba.size)
          intro v' w6 own6 gr6 _ _
          have hb6 : Below w1.heap.size w1 w6 := hba.grown gr6 hba.size (fun k hk => (hown.lt k hk).1)
          clear hoa hba gr6 hown
          go_wp2
          go_roundw
          case rel => exact ⟨k + 1, by omega, by go_num, by rw [hst.out, if_pos HW.out]; exact own_cast own6 (by simp [strs]) (by simp), hb6⟩
          case measure => simp [intOf]; omega
        | false =>
          have HW := Lib.hid hw
          clear hw
          go_wp2_with fail
          refine (contains_any A2 y.length c2 y x[k] _ (by omega) hsy2).mono ?_
          rintro e w5 ⟨rfl, rfl⟩
          rw [HW.out]
          go_wp2
          go_roundw
          case rel => exact ⟨k + 1, by omega, by go_num, by rw [hst.out, if_neg (by rw [HW.out]; simp)]; exact hown, hBl⟩
          case measure => simp [intOf]; omega
      · have hxk : x.take k = x := List.take_of_length_le (by omega)
        rw [hxk] at hown
        obtain ⟨A4, c4, rfl, hs4, _⟩ := sl_of_own hown
        have hl4 : (common x y).length ≤ 120 := by have := common_le x y x.length; rw [List.take_length] at this; omega
        clear hown hxk
        go_wp2_with fail
        refine (format_any A4 _ c4 (common x y) wr (by omega) hs4 (by intro f hf; exact Nat.le_trans (sx f (common_mem hf)) (by omega))).mono ?_
        rintro e w7 ⟨rfl, hB7⟩
        go_wp2
        go_ret2
        exact fmt_ret HE.out (hBw.trans (hB7.mono hBw.size)) rfl

set_option maxRecDepth 100000 in
set_option maxHeartbeats 2000000 in
theorem refInter_any (a b : Bs) (ha : a.length ≤ 9223372036854775807) (hb : b.length ≤ 9223372036854775807) (w : World) : Calls Try.prog 23 #[str a, str b] w (Fmt (rinter a b) w) := by
  obtain ⟨i0, hi0, hz0, hz1, hz2⟩ := info_parts info_string
  have hex := refParse_any a ha w
  by_cases h0 : (parse a).2 = 0
  · rw [h0] at hex
    by_cases h1 : (parse b).2 = 0
    · have HE := Lib.hid (show rinter a b = (text (common (parse a).1 (parse b).1), 0) from both_k h0 h1)
      have sx := small_parse a
      have sy := small_parse b
      have lx := len_parse a
      have ly := len_parse b
      have hex2 := refParse_any b hb
      rw [h1] at hex2
      obtain ⟨x, hx⟩ : ∃ x, (parse a).1 = x := ⟨_, rfl⟩
      obtain ⟨y, hy⟩ : ∃ y, (parse b).1 = y := ⟨_, rfl⟩
      rw [hx] at HE sx lx hex
      rw [hy] at HE sy ly hex2
      clear h0 h1 hx hy
      go_enter Try.func23, Try.ntmps23
      go_wp2_with fail
      refine hex.mono ?_
      rintro e w1 ⟨v1, rfl, own1, hb1⟩
      obtain ⟨A1, c1, rfl, hsx1, _⟩ := sl_of_own own1
      go_wp2_with fail
      refine (hex2 _).mono ?_
      rintro e w2 ⟨v2, rfl, own2, hb2⟩
      obtain ⟨A2, c2, rfl, hsy, _⟩ := sl_of_own own2
      have hB : Below w.heap.size w w2 := hb1.trans (hb2.mono hb1.size)
      have hsx := (hsx1.below hb2).wide hb2.size
      clear hex hex2 own1 own2 hsx1 hb1 hb2
      go_wp2
      go_loopw [9, 30] (fun v iv wr => ∃ k : Nat, k ≤ x.length ∧ iv = .int .i64 k ∧ wr.ownsRow w2.heap.size 9 1 v (common (x.take k) y).length (strs (common (x.take k) y)) ∧ Below w2.heap.size w2 wr) (fun _ iv _ => x.length - (intOf iv).toNat)
      case atStart => exact ⟨0, Nat.zero_le _, rfl, World.ownsRow_nil _ _ _ _, Below.refl _ _⟩
      case round =>
        obtain ⟨k, hk, rfl, hown, hBl⟩ := hrel
        have hBw : Below w.heap.size w wr := hB.trans (hBl.mono hB.size)
        by_cases hlt : k < x.length
        · obtain ⟨gx, ox, hk', rfl, hgx, hcx⟩ := (hsx.below hBl).at_ hlt
          have hst := Lib.hid (common_step x y k hk')
          have hsy2 := (hsy.below hBl).wide hBl.size
          cases hw : within y x[k] with
          | true =>
            have HW := Lib.hid hw
            clear hw
            have hoa := hown.alloc (.cells #[str x[k]] 9)
            have hba := hBl.alloc hBl.size (.cells #[str x[k]] 9)
            have hcl := common_le x y k
            go_wp2_with fail
            refine (member_any A2 y.length c2 y x[k] _ (by omega) hsy2).mono ?_
            rintro e w5 ⟨rfl, rfl⟩
            rw [HW.out]
            go_wp2_with (at_builtin; refine wpList_append_own_at _ rfl (.tmp 37) (.tmp 39) _ rfl w2.heap.size 9 i0 _ 1 16 Try.underlying23 hi0 hz0 hz1 hz2 rfl (by decide) _ _ _ rfl hoa ⟨wr.heap.size, 0, none⟩ 1 1 [str x[k]] rfl rfl ?c1 ?c2 ?c3 ?c4 ?c5 ?_)
            try (case c1 => exact news_new _ _ [_])
            try (case c2 => first | rfl | (intro u hu; simp at hu; subst hu; rfl))
            try (case c3 => simp [maxLen]; omega)
            try (case c4 => omega)
            try (case c5 => exact hba.size)
            intro v' w6 own6 gr6 _ _
            have hb6 : Below w2.heap.size w2 w6 := hba.grown gr6 hba.size (fun k hk => (hown.lt k hk).1)
            clear hoa hba gr6 hown
            go_wp2
            go_roundw
            case rel => exact ⟨k + 1, by omega, by go_num, by rw [hst.out, if_pos HW.out]; exact own_cast own6 (by simp [strs]) (by simp), hb6⟩
            case measure => simp [intOf]; omega
          | false =>
            have HW := Lib.hid hw
            clear hw
            go_wp2_with fail
            refine (member_any A2 y.length c2 y x[k] _ (by omega) hsy2).mono ?_
            rintro e w5 ⟨rfl, rfl⟩
            rw [HW.out]
            go_wp2
            go_roundw
            case rel => exact ⟨k + 1, by omega, by go_num, by rw [hst.out, if_neg (by rw [HW.out]; simp)]; exact hown, hBl⟩
            case measure => simp [intOf]; omega
        · have hxk : x.take k = x := List.take_of_length_le (by omega)
          rw [hxk] at hown
          obtain ⟨A4, c4, rfl, hs4, _⟩ := sl_of_own hown
          have hl4 : (common x y).length ≤ 120 := by have := common_le x y x.length; rw [List.take_length] at this; omega
          clear hown hxk
          have htl : (text (common x y)).length ≤ 140737488355328 := by
            have h1 := len_text_le (common x y) 120 (fun f hf => sx f (common_mem hf))
            omega
          go_wp2_with fail
          refine (text_any A4 _ c4 (common x y) wr (by omega) hs4 htl).mono ?_
          rintro e w7 ⟨rfl, rfl⟩
          go_wp2
          go_ret2
          exact fmt_ret HE.out hBw rfl
    · have hq : (((parse b).2 : Int) != 0) = true := by rw [bne_iff_ne]; omega
      have HE := Lib.hid (show rinter a b = ([], (parse b).2) from both_b h0 h1)
      clear h0 h1
      go_enter Try.func23, Try.ntmps23
      go_wp2_with fail
      refine hex.mono ?_
      rintro e w1 ⟨v1, rfl, own1, hb1⟩
      go_wp2_with fail
      refine (refParse_any b hb _).mono ?_
      rintro e w2 ⟨v2, rfl, own2, hb2⟩
      go_wp2
      go_ret2
      exact fmt_ret HE.out (hb1.trans (hb2.mono hb1.size)) rfl
  · have hq : (((parse a).2 : Int) != 0) = true := by rw [bne_iff_ne]; omega
    have HE := Lib.hid (show rinter a b = ([], (parse a).2) from both_a h0)
    clear h0
    go_enter Try.func23, Try.ntmps23
    go_wp2_with fail
    refine hex.mono ?_
    rintro e w1 ⟨v1, rfl, own1, hb1⟩
    go_wp2
    go_ret2
    exact fmt_ret HE.out hb1 rfl

set_option maxRecDepth 100000 in
set_option maxHeartbeats 2000000 in
theorem subset_any (a b : Bs) (ha : a.length ≤ 9223372036854775807) (hb : b.length ≤ 9223372036854775807) (w : World) : Calls Try.prog 24 #[str a, str b] w (Sub (subset a b) w) := by
  obtain ⟨i0, hi0, hz0, hz1, hz2⟩ := info_parts info_string
  have hex := parseAll_any (some ⟨w.heap.size, 0, none⟩) 2 2 [a, b] (w.alloc (.cells #[str a, str b] 9)) (by omega) (sl_new w 9 (strs [a, b])) (by intro f hf; simp at hf; rcases hf with rfl | rfl <;> assumption)
  go_enter Try.func24, Try.ntmps24
  go_wp2_with fail
  refine hex.mono ?_
  intro e w1 hS
  obtain ⟨hB1, hS⟩ := two_sets hS
  have hB : Below w.heap.size w w1 := ((Below.refl _ w).alloc (Nat.le_refl _) _).trans (hB1.mono (by simp))
  rcases hS with ⟨h0, rfl⟩ | ⟨h0, h1, rfl⟩ | ⟨h0, h1, g, c, A1, c1, A2, c2, rfl, k1, k2, own1, own2⟩
  · have hq : (((parse a).2 : Int) != 0) = true := by rw [bne_iff_ne]; omega
    have HE := Lib.hid (sub_a (b := b) h0)
    clear h0
    go_wp2
    go_ret2
    exact sub_ret HE.out hB rfl
  · have hq : (((parse b).2 : Int) != 0) = true := by rw [bne_iff_ne]; omega
    have HE := Lib.hid (sub_b h0 h1)
    clear h0 h1
    go_wp2
    go_ret2
    exact sub_ret HE.out hB rfl
  · have HE := Lib.hid (sub_k h0 h1)
    have sx := small_parse a
    have sy := small_parse b
    have lx := len_parse a
    have ly := len_parse b
    obtain ⟨x, hx⟩ : ∃ x, (parse a).1 = x := ⟨_, rfl⟩
    obtain ⟨y, hy⟩ : ∃ y, (parse b).1 = y := ⟨_, rfl⟩
    rw [hx] at k1 own1 HE sx lx
    rw [hy] at k2 own2 HE sy ly
    have hsx := sl_own own1
    have hsy := sl_own own2
    have hg1 := cell_lt k1
    clear h0 h1 hx hy hex own1 own2 hB1
    go_wp2
    go_loop [24] (fun iv => ∃ k : Nat, k ≤ x.length ∧ iv = .int .i64 k ∧ Hid (sub (x.take k) y = true)) (fun iv => x.length - (intOf iv).toNat)
    case atStart => exact ⟨0, Nat.zero_le _, rfl, rfl⟩
    case round =>
      obtain ⟨k, hk, rfl, hno⟩ := hrel
      by_cases hlt : k < x.length
      · obtain ⟨gx, ox, hk', rfl, hgx, hcx⟩ := hsx.at_ hlt
        have hst := Lib.hid (sub_step x y k hk')
        cases hw : within y x[k] with
        | true =>
          have HW := Lib.hid hw
          clear hw
          go_wp2_with fail
          refine (contains_any A2 y.length c2 y x[k] _ (by omega) hsy).mono ?_
          rintro e w5 ⟨rfl, rfl⟩
          rw [HW.out]
          go_wp2
          go_round
          case rel => exact ⟨k + 1, by omega, by go_num, by show _ = _; rw [hst.out, hno.out, HW.out]; rfl⟩
          case measure => simp [intOf]; omega
        | false =>
          have HW := Lib.hid hw
          have HN := Lib.hid (sub_no hk' hw)
          clear hw
          go_wp2_with fail
          refine (contains_any A2 y.length c2 y x[k] _ (by omega) hsy).mono ?_
          rintro e w5 ⟨rfl, rfl⟩
          rw [HW.out]
          go_wp2
          go_ret2
          exact sub_ret (by rw [HE.out, HN.out]) hB rfl
      · have hxk : Hid (sub x y = true) := by show _ = _; rw [← hno.out, List.take_of_length_le (by omega)]
        go_wp2
        go_ret2
        exact sub_ret (by rw [HE.out, hxk.out]) hB rfl

set_option maxRecDepth 100000 in
set_option maxHeartbeats 2000000 in
theorem refSubset_any (a b : Bs) (ha : a.length ≤ 9223372036854775807) (hb : b.length ≤ 9223372036854775807) (w : World) : Calls Try.prog 25 #[str a, str b] w (Sub (subset a b) w) := by
  obtain ⟨i0, hi0, hz0, hz1, hz2⟩ := info_parts info_string
  have hex := refParse_any a ha w
  by_cases h0 : (parse a).2 = 0
  · rw [h0] at hex
    by_cases h1 : (parse b).2 = 0
    · have HE := Lib.hid (sub_k h0 h1)
      have sx := small_parse a
      have sy := small_parse b
      have lx := len_parse a
      have ly := len_parse b
      have hex2 := refParse_any b hb
      rw [h1] at hex2
      obtain ⟨x, hx⟩ : ∃ x, (parse a).1 = x := ⟨_, rfl⟩
      obtain ⟨y, hy⟩ : ∃ y, (parse b).1 = y := ⟨_, rfl⟩
      rw [hx] at HE sx lx hex
      rw [hy] at HE sy ly hex2
      clear h0 h1 hx hy
      go_enter Try.func25, Try.ntmps25
      go_wp2_with fail
      refine hex.mono ?_
      rintro e w1 ⟨v1, rfl, own1, hb1⟩
      obtain ⟨A1, c1, rfl, hsx1, _⟩ := sl_of_own own1
      go_wp2_with fail
      refine (hex2 _).mono ?_
      rintro e w2 ⟨v2, rfl, own2, hb2⟩
      obtain ⟨A2, c2, rfl, hsy, _⟩ := sl_of_own own2
      have hB : Below w.heap.size w w2 := hb1.trans (hb2.mono hb1.size)
      have hsx := (hsx1.below hb2).wide hb2.size
      clear hex hex2 own1 own2 hsx1 hb1 hb2
      go_wp2
      go_loop [29] (fun iv => ∃ k : Nat, k ≤ x.length ∧ iv = .int .i64 k ∧ Hid (sub (x.take k) y = true)) (fun iv => x.length - (intOf iv).toNat)
      case atStart => exact ⟨0, Nat.zero_le _, rfl, rfl⟩
      case round =>
        obtain ⟨k, hk, rfl, hno⟩ := hrel
        by_cases hlt : k < x.length
        · obtain ⟨gx, ox, hk', rfl, hgx, hcx⟩ := hsx.at_ hlt
          have hst := Lib.hid (sub_step x y k hk')
          cases hw : within y x[k] with
          | true =>
            have HW := Lib.hid hw
            clear hw
            go_wp2_with fail
            refine (member_any A2 y.length c2 y x[k] _ (by omega) hsy).mono ?_
            rintro e w5 ⟨rfl, rfl⟩
            rw [HW.out]
            go_wp2
            go_round
            case rel => exact ⟨k + 1, by omega, by go_num, by show _ = _; rw [hst.out, hno.out, HW.out]; rfl⟩
            case measure => simp [intOf]; omega
          | false =>
            have HW := Lib.hid hw
            have HN := Lib.hid (sub_no hk' hw)
            clear hw
            go_wp2_with fail
            refine (member_any A2 y.length c2 y x[k] _ (by omega) hsy).mono ?_
            rintro e w5 ⟨rfl, rfl⟩
            rw [HW.out]
            go_wp2
            go_ret2
            exact sub_ret (by rw [HE.out, HN.out]) hB rfl
        · have hxk : Hid (sub x y = true) := by show _ = _; rw [← hno.out, List.take_of_length_le (by omega)]
          go_wp2
          go_ret2
          exact sub_ret (by rw [HE.out, hxk.out]) hB rfl
    · have hq : (((parse b).2 : Int) != 0) = true := by rw [bne_iff_ne]; omega
      have HE := Lib.hid (sub_b h0 h1)
      clear h0 h1
      go_enter Try.func25, Try.ntmps25
      go_wp2_with fail
      refine hex.mono ?_
      rintro e w1 ⟨v1, rfl, own1, hb1⟩
      go_wp2_with fail
      refine (refParse_any b hb _).mono ?_
      rintro e w2 ⟨v2, rfl, own2, hb2⟩
      go_wp2
      go_ret2
      exact sub_ret HE.out (hb1.trans (hb2.mono hb1.size)) rfl
  · have hq : (((parse a).2 : Int) != 0) = true := by rw [bne_iff_ne]; omega
    have HE := Lib.hid (sub_a (b := b) h0)
    clear h0
    go_enter Try.func25, Try.ntmps25
    go_wp2_with fail
    refine hex.mono ?_
    rintro e w1 ⟨v1, rfl, own1, hb1⟩
    go_wp2
    go_ret2
    exact sub_ret HE.out hb1 rfl

end Go.Proofs.Ytiejknfpgiofiaa
