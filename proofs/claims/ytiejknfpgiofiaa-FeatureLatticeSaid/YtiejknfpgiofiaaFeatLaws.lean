/-
  The laws' long and awake, and the laws of chapter 5 on texts: each returns true. Condition: a text's length is an int.
-/
import Derived.Test.YtiejknfpgiofiaaFeatInter
namespace Go.Proofs.Ytiejknfpgiofiaa
open Go.RowKit Utf Feat
attribute [local go_sem] byte_mk ByteArray.extract_mk

/-- What long says. -/
def Long (n : Nat) (l : List Bs) (w : World) (e : Ending) (w' : World) : Prop := w = w' ∧ ∃ b, e = .returned (.bool b) ∧ (b = false → n ≤ 40 ∧ ∀ f ∈ l, f.length ≤ 300)

set_option maxHeartbeats 400000 in
theorem long_any (A : Option Addr) (n c : Nat) (l : List Bs) (w : World) (hn : n ≤ 9223372036854775807) (h : Sl w w.heap.size 1 A n (strs l)) :
    Calls Try.prog 11 #[.slice A n c] w (Long n l w) := by
  have hl := h.len
  go_enter Try.func11, Try.ntmps11
  go_wp2
  go_loop [7] (fun i => ∃ k : Nat, k ≤ n ∧ i = .int .i64 k ∧ Hid (∀ j (hj : j < l.length), j < k → l[j].length ≤ 300)) (fun i => n - (intOf i).toNat)
  case atStart => exact ⟨0, by omega, rfl, fun j _ h => by omega⟩
  case round =>
    obtain ⟨k, hk, rfl, hno⟩ := hrel
    by_cases hlt : k < n
    · obtain ⟨g, o, hk', rfl, hb, hc⟩ := h.at_ hlt
      by_cases hx : l[k].length ≤ 300
      · have hd : decide ((300 : Int) < l[k].length) = false := by rw [decide_eq_false_iff_not]; omega
        have HX := Lib.hid hx
        clear hx
        go_wp2
        go_round
        case rel =>
          refine ⟨k + 1, by omega, by go_num, fun j hj hjk => ?_⟩
          by_cases e : j = k
          · subst e; exact HX.out
          · exact hno.out j hj (by omega)
        case measure => simp [intOf]; omega
      · have hd : decide ((300 : Int) < l[k].length) = true := by rw [decide_eq_true_iff]; omega
        clear hx
        go_wp2
        go_ret
        exact ⟨rfl, _, rfl, fun h => by cases h⟩
    · have hfin : Hid (∀ f ∈ l, f.length ≤ 300) := by
        intro f hf
        obtain ⟨j, hj, rfl⟩ := List.getElem_of_mem hf
        exact hno.out j hj (by omega)
      by_cases h40 : n ≤ 40
      · have hd : decide ((40 : Int) < n) = false := by rw [decide_eq_false_iff_not]; omega
        go_wp2
        go_ret
        exact ⟨rfl, _, rfl, fun _ => ⟨h40, hfin.out⟩⟩
      · have hd : decide ((40 : Int) < n) = true := by rw [decide_eq_true_iff]; omega
        go_wp2
        go_ret
        exact ⟨rfl, _, rfl, fun h => by cases h⟩

theorem awake_f : format [[98], [97], [98]] = ([124, 97, 124, 98, 124], 0) := by decide
theorem awake_u : union [124, 97, 124] [124, 98, 124] = ([124, 97, 124, 98, 124], 0) := by decide
set_option maxHeartbeats 2000000 in
theorem awake_any (w : World) : Calls Try.prog 15 #[] w (Kept' (.bool true) w) := by
  have hex1 := format_any (some ⟨w.heap.size, 0, none⟩) 3 3 [[98], [97], [98]] (w.alloc (.cells #[str [98], str [97], str [98]] 9)) (by omega) (sl_new w 9 (strs [[98], [97], [98]])) (by intro f hf; simp at hf; rcases hf with rfl | rfl | rfl <;> simp)
  have hex2 := fun W => parse_any [124] (by simp) W
  have hex3 := fun W => union_any [124, 97, 124] [124, 98, 124] (by simp) (by simp) W
  rw [awake_f] at hex1
  rw [parse_bar] at hex2
  rw [awake_u] at hex3
  go_enter Try.func15, Try.ntmps15
  go_wp2_with fail
  refine hex1.mono ?_
  rintro e w1 ⟨rfl, hb1⟩
  have hB1 : Below w.heap.size w w1 := ((Below.refl _ w).alloc (Nat.le_refl _) _).trans (hb1.mono (by simp))
  go_wp2_with fail
  refine (hex2 _).mono ?_
  rintro e w2 ⟨v, rfl, own, hb2⟩
  obtain ⟨A2, c2, rfl, _, _⟩ := sl_of_own own
  have hB2 := hB1.trans (hb2.mono hB1.size)
  go_wp2_with fail
  refine (hex3 _).mono ?_
  rintro e w3 ⟨rfl, hb3⟩
  have hB3 := hB2.trans (hb3.mono hB2.size)
  go_wp2
  go_ret
  exact ⟨rfl, hB3⟩
theorem same_self (l : List Bs) : same l l = true := by unfold same; simp
theorem below_new {w w' : World} {o : Obj} (h : Below (w.alloc o).heap.size (w.alloc o) w') : Below w.heap.size w w' := ((Below.refl _ w).alloc (Nat.le_refl _) _).trans (h.mono (by simp))
theorem len_fmt : ∀ (l acc : List Bs), (fmt acc l).1.length ≤ 120
  | [], acc => by unfold fmt; split <;> simp_all
  | f :: r, acc => by
    unfold fmt
    split
    · simp
    · split
      · simp
      · exact len_fmt r _
theorem len_union (a b : Bs) : (union a b).1.length ≤ 120 := by
  unfold union both
  split
  · simp
  · split
    · simp
    · exact len_fmt _ _
theorem len_inter (a b : Bs) : (inter a b).1.length ≤ 120 := by
  unfold inter both
  split
  · simp
  · split
    · simp
    · exact len_fmt _ _

set_option maxHeartbeats 2000000 in
theorem law_parses (s : Bs) (hs : s.length ≤ 9223372036854775807) (w : World) : Calls Try.prog 3 #[str s] w (Kept' (.bool true) w) := by
  have hlong := long_any (some ⟨w.heap.size, 0, none⟩) 1 1 [s] (w.alloc (.cells #[str s] 9)) (by omega) (sl_new w 9 (strs [s]))
  have hex1 := fun W => parse_any s hs W
  have hex2 := fun W => refParse_any s hs W
  have hlp := len_parse s
  obtain ⟨l, er, hp⟩ : ∃ l n, parse s = (l, n) := ⟨_, _, rfl⟩
  rw [hp] at hex1 hex2 hlp
  clear hp
  go_enter Try.func3, Try.ntmps3
  go_wp2_with fail
  refine hlong.mono ?_
  rintro e w1 ⟨rfl, b, rfl, _⟩
  have hB1 : Below w.heap.size w (w.alloc (.cells #[str s] 9)) := (Below.refl _ w).alloc (Nat.le_refl _) _
  obtain ⟨w1, hw1⟩ : ∃ w1, w.alloc (.cells #[str s] 9) = w1 := ⟨_, rfl⟩
  rw [hw1] at hB1 ⊢
  clear hw1 hlong
  cases b with
  | true =>
    go_wp2
    go_ret
    exact ⟨rfl, hB1⟩
  | false =>
    go_wp2_with fail
    refine (hex1 _).mono ?_
    rintro e w2 ⟨v2, rfl, own2, hb2⟩
    obtain ⟨A2, c2, rfl, hs2, _⟩ := sl_of_own own2
    have hB2 := hB1.trans (hb2.mono hB1.size)
    go_wp2_with fail
    refine (hex2 _).mono ?_
    rintro e w3 ⟨v3, rfl, own3, hb3⟩
    obtain ⟨A3, c3, rfl, hs3, _⟩ := sl_of_own own3
    have hB3 := hB2.trans (hb3.mono hB2.size)
    have hs2' := (hs2.below hb3).wide hb3.size
    clear own2 own3 hs2
    go_wp2_with fail
    refine (equal_any A2 A3 l.length c2 l.length c3 l l _ (by omega) (by omega) hs2' hs3).mono ?_
    rintro e w4 ⟨rfl, q, rfl⟩
    rw [same_self]
    go_wp2_with fail
    refine (awake_any _).mono ?_
    rintro e w5 ⟨rfl, hb5⟩
    have hB4 := below_drewN hB3 q
    have hB5 := hB4.trans (hb5.mono hB4.size)
    go_wp2
    go_ret
    exact ⟨rfl, hB5⟩

set_option maxHeartbeats 2000000 in
theorem law_formats (A : Option Addr) (n c : Nat) (l : List Bs) (w : World) (hn : n ≤ 9223372036854775807) (h : Sl w w.heap.size 1 A n (strs l)) :
    Calls Try.prog 4 #[.slice A n c] w (Kept' (.bool true) w) := by
  go_enter Try.func4, Try.ntmps4
  go_wp2_with fail
  refine (long_any A n c l w hn h).mono ?_
  rintro e w1 ⟨rfl, b, rfl, hb⟩
  cases b with
  | true =>
    go_wp2
    go_ret
    exact ⟨rfl, Below.refl _ _⟩
  | false =>
    obtain ⟨h40, h300⟩ := hb rfl
    have hsh : ∀ f ∈ l, f.length ≤ 9223372036854775807 := fun f hf => Nat.le_trans (h300 f hf) (by omega)
    have hex1 := format_any A n c l w (by omega) h hsh
    have hex2 := fun W h => refFormat_any A n c l W (by omega) h hsh
    obtain ⟨t, er, hp⟩ : ∃ t n, format l = (t, n) := ⟨_, _, rfl⟩
    rw [hp] at hex1 hex2
    clear hb h300 hp hsh
    go_wp2_with fail
    refine hex1.mono ?_
    rintro e w2 ⟨rfl, hb2⟩
    go_wp2_with fail
    refine (hex2 _ ((h.below hb2).wide hb2.size)).mono ?_
    rintro e w3 ⟨rfl, hb3⟩
    have hB3 := hb2.trans (hb3.mono hb2.size)
    go_wp2_with fail
    refine (awake_any _).mono ?_
    rintro e w5 ⟨rfl, hb5⟩
    have hB5 := hB3.trans (hb5.mono hB3.size)
    go_wp2
    go_ret
    exact ⟨rfl, hB5⟩

set_option maxHeartbeats 2000000 in
theorem law_has (s f : Bs) (hs : s.length ≤ 9223372036854775807) (w : World) : Calls Try.prog 6 #[str s, str f] w (Kept' (.bool true) w) := by
  have hlong := long_any (some ⟨w.heap.size, 0, none⟩) 2 2 [s, f] (w.alloc (.cells #[str s, str f] 9)) (by omega) (sl_new w 9 (strs [s, f]))
  have hex1 := fun W => has_any s f hs W
  have hex2 := fun W => refHas_any s f hs W
  obtain ⟨r, hr⟩ : ∃ r, has s f = r := ⟨_, rfl⟩
  rw [hr] at hex1 hex2
  clear hr
  go_enter Try.func6, Try.ntmps6
  go_wp2_with fail
  refine hlong.mono ?_
  rintro e w1 ⟨rfl, b, rfl, _⟩
  have hB1 : Below w.heap.size w (w.alloc (.cells #[str s, str f] 9)) := (Below.refl _ w).alloc (Nat.le_refl _) _
  obtain ⟨w1, hw1⟩ : ∃ w1, w.alloc (.cells #[str s, str f] 9) = w1 := ⟨_, rfl⟩
  rw [hw1] at hB1 ⊢
  clear hw1 hlong
  cases b with
  | true =>
    go_wp2
    go_ret
    exact ⟨rfl, hB1⟩
  | false =>
    go_wp2_with fail
    refine (hex1 _).mono ?_
    rintro e w2 ⟨rfl, hb2⟩
    have hB2 := hB1.trans (hb2.mono hB1.size)
    go_wp2_with fail
    refine (hex2 _).mono ?_
    rintro e w3 ⟨rfl, hb3⟩
    have hB3 := hB2.trans (hb3.mono hB2.size)
    go_wp2_with fail
    refine (awake_any _).mono ?_
    rintro e w5 ⟨rfl, hb5⟩
    have hB5 := hB3.trans (hb5.mono hB3.size)
    go_wp2
    go_ret
    exact ⟨rfl, hB5⟩
end Go.Proofs.Ytiejknfpgiofiaa
