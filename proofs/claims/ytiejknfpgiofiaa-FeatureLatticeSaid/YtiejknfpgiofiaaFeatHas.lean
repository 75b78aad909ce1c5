/-
  The contracts of feature.Has and the reference's Has. Condition: a text's length is an int.
-/
import Derived.Test.YtiejknfpgiofiaaFeatFmt
import Derived.Test.YtiejknfpgiofiaaFeatRefParse
namespace Go.Proofs.Ytiejknfpgiofiaa
open Go.RowKit Utf Feat
attribute [local go_sem] byte_mk ByteArray.extract_mk

/-- A call that has only written memory of its own. -/
def Kept' (v : Value) (w : World) (e : Ending) (w' : World) : Prop := e = .returned v ∧ Below w.heap.size w w'
theorem len_scan : ∀ (r cur : Bs) (l : List Bs), scan cur r = some l → l.length ≤ r.length
  | [], _, l, h => by simp [scan] at h; simp [← h]
  | c :: r, cur, l, h => by
    unfold scan at h
    split at h
    · split at h
      · cases h
      · cases hk : scan [] r with
        | none => rw [hk] at h; cases h
        | some m => rw [hk] at h; simp at h; subst h; have := len_scan r [] m hk; simp; omega
    · have := len_scan r _ l h; simp; omega
theorem length_text (l : List Bs) : l.length ≤ (text l).length := by
  induction l with
  | nil => simp
  | cons x r ih => simp only [text, List.length_cons, List.flatMap_cons, List.length_append, List.length_nil] at ih ⊢; omega
theorem len_parse (s : Bs) : (parse s).1.length ≤ 120 := by
  rcases parse_cases s with h | ⟨l, h⟩
  · rw [parse_snd_le s h]; simp
  · obtain ⟨_, _, hg, hl⟩ := parse_ok h
    rw [h]
    have : l.length ≤ (text l).length := length_text l
    simp at this ⊢; omega

set_option maxHeartbeats 2000000 in
theorem has_any (s f : Bs) (hs : s.length ≤ 9223372036854775807) (w : World) : Calls Try.prog 18 #[str s, str f] w (Kept' (.bool (has s f)) w) := by
  have hex := parse_any s hs w
  have hlp := len_parse s
  obtain ⟨l, n, hp⟩ : ∃ l n, parse s = (l, n) := ⟨_, _, rfl⟩
  have hh : has s f = ((n == 0) && within l f) := by unfold has within; rw [hp]
  have HH := Lib.hid hh
  rw [hp] at hex hlp
  by_cases h0 : n = 0
  · subst h0
    clear hh hp
    go_enter Try.func18, Try.ntmps18
    go_wp2_with fail
    refine hex.mono ?_
    rintro e w1 ⟨v, rfl, hown, hb⟩
    obtain ⟨A, c, rfl, hsl, _⟩ := sl_of_own hown
    go_wp2_with fail
    refine (contains_any A _ c l f _ (by omega) hsl).mono ?_
    rintro e w2 ⟨rfl, rfl⟩
    go_wp2
    go_ret
    exact ⟨ret_bool (by rw [HH.out]; rfl), hb⟩
  · have hn : ((n : Int) == 0) = false := by rw [beq_eq_false_iff_ne]; omega
    have hn' : (n == 0) = false := by simpa using h0
    clear hh hp h0
    go_enter Try.func18, Try.ntmps18
    go_wp2_with fail
    refine hex.mono ?_
    rintro e w1 ⟨v, rfl, hown, hb⟩
    go_wp2
    go_ret
    exact ⟨ret_bool (by rw [HH.out, hn']; rfl), hb⟩

set_option maxHeartbeats 2000000 in
theorem refHas_any (s f : Bs) (hs : s.length ≤ 9223372036854775807) (w : World) : Calls Try.prog 19 #[str s, str f] w (Kept' (.bool (has s f)) w) := by
  have hex := refParse_any s hs w
  have hlp := len_parse s
  obtain ⟨l, n, hp⟩ : ∃ l n, parse s = (l, n) := ⟨_, _, rfl⟩
  have hh : has s f = ((n == 0) && within l f) := by unfold has within; rw [hp]
  have HH := Lib.hid hh
  rw [hp] at hex hlp
  by_cases h0 : n = 0
  · subst h0
    clear hh hp
    go_enter Try.func19, Try.ntmps19
    go_wp2_with fail
    refine hex.mono ?_
    rintro e w1 ⟨v, rfl, hown, hb⟩
    obtain ⟨A, c, rfl, hsl, _⟩ := sl_of_own hown
    go_wp2_with fail
    refine (member_any A _ c l f _ (by omega) hsl).mono ?_
    rintro e w2 ⟨rfl, rfl⟩
    go_wp2
    go_ret
    exact ⟨ret_bool (by rw [HH.out]; rfl), hb⟩
  · have hn : ((n : Int) == 0) = false := by rw [beq_eq_false_iff_ne]; omega
    have hn' : (n == 0) = false := by simpa using h0
    clear hh hp h0
    go_enter Try.func19, Try.ntmps19
    go_wp2_with fail
    refine hex.mono ?_
    rintro e w1 ⟨v, rfl, hown, hb⟩
    go_wp2
    go_ret
    exact ⟨ret_bool (by rw [HH.out, hn']; rfl), hb⟩
end Go.Proofs.Ytiejknfpgiofiaa
