/-
  The contracts of the reference's parse and Parse: the same heads and relations, or the same error. Condition: the text's length is an int.
-/
import Derived.Test.YtnbnmomichegaaaDoorDepParse
namespace Go.Proofs.YtnbnmomichegaaaDoor
open Go.RowKit Utf Dep
open Feat (Bs)

namespace Dep
def parseR (d : Bs) (T : Nat) : List Int × List Bs × Nat × Nat :=
  match parseD d T with
  | .error (a, e) => ([], [], a, e)
  | .ok (H, R, O) =>
    if H.length < T then ([], [], d.length, 15)
    else if (chk H).2 ≠ 0 then ([], [], O.getD (chk H).1 0, (chk H).2)
    else (H, R, 0, 0)
theorem parseR_err {d : Bs} {T a e : Nat} (h : parseD d T = .error (a, e)) : parseR d T = ([], [], a, e) := by unfold parseR; rw [h]
theorem parseR_few {d : Bs} {T : Nat} {H : List Int} {R : List Bs} {O : List Nat} (h : parseD d T = .ok (H, R, O)) (h2 : H.length < T) : parseR d T = ([], [], d.length, 15) := by unfold parseR; rw [h]; exact if_pos h2
theorem parseR_chk {d : Bs} {T : Nat} {H : List Int} {R : List Bs} {O : List Nat} (h : parseD d T = .ok (H, R, O)) (h2 : ¬ H.length < T) (h3 : (chk H).2 ≠ 0) : parseR d T = ([], [], O.getD (chk H).1 0, (chk H).2) := by
  unfold parseR; rw [h]; simp only []; rw [if_neg h2, if_pos h3]
theorem parseR_ok {d : Bs} {T : Nat} {H : List Int} {R : List Bs} {O : List Nat} (h : parseD d T = .ok (H, R, O)) (h2 : ¬ H.length < T) (h3 : (chk H).2 = 0) : parseR d T = (H, R, 0, 0) := by
  unfold parseR; rw [h]; simp only []; rw [if_neg h2, if_neg (by simpa using h3)]
theorem digs_ge {s : Bs} {e : Nat} (he : e ≤ s.length) (h1 : ∀ k (hk : k < s.length), k < e → dg s[k] = true) : e ≤ (digs s).length := by
  unfold digs
  induction s generalizing e with
  | nil => simp at he; omega
  | cons c t ih =>
    cases e with
    | zero => omega
    | succ e =>
      have hc := h1 0 (by simp) (by omega)
      simp at hc
      rw [List.takeWhile_cons, hc, if_pos rfl]
      have := ih (e := e) (by simpa using he) (fun k hk hke => h1 (k + 1) (by simpa using hk) (by omega))
      simp; exact this
theorem ln_stop {l : Bs} {j : Nat} (_hj : j ≤ l.length) (h1 : ∀ k (hk : k < l.length), k < j → l[k] ≠ 10) (h2 : j = l.length ∨ ∃ hk : j < l.length, l[j] = 10) : ln l = l.take j := by
  rcases h2 with h2 | ⟨hk, h2⟩
  · rw [ln_none, List.take_of_length_le (by omega)]
    intro k e
    obtain ⟨hk, e2⟩ := List.getElem?_eq_some_iff.1 e
    exact h1 k hk (by omega) e2
  · exact ln_some (by rw [List.getElem?_eq_getElem hk, h2]) fun k hk e => by
      obtain ⟨hk2, e2⟩ := List.getElem?_eq_some_iff.1 e
      exact h1 k hk2 hk e2
end Dep
/-- What the reference's parse hands back. -/
def Rparsd (p : List Int × List Bs × Nat × Nat) (w : World) (e : Ending) (w' : World) : Prop :=
  ∃ v1 v2, e = .returned (.tuple #[v1, v2, .int .i64 (p.2.2.1 : Nat), .int .i64 (p.2.2.2 : Nat)]) ∧ w'.ownsRow w.heap.size 3 1 v1 p.1.length (ints p.1) ∧ w'.ownsRow w.heap.size 9 1 v2 p.2.1.length (strs p.2.1) ∧ Below w.heap.size w w'
theorem rparsd_nil {p : List Int × List Bs × Nat × Nat} {a k : Nat} {w w' : World} (h : p = ([], [], a, k)) (hb : Below w.heap.size w w') {en : Ending} (he : en = .returned (.tuple #[.slice none 0 0, .slice none 0 0, .int .i64 (a : Nat), .int .i64 (k : Nat)])) : Rparsd p w en w' := by
  subst h; exact ⟨_, _, he, World.ownsRow_nil _ _ _ _, World.ownsRow_nil _ _ _ _, hb⟩
attribute [local go_sem] byte_mk ByteArray.extract_mk

end Go.Proofs.YtnbnmomichegaaaDoor
