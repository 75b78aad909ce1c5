/-
  Plain: what a text of heads and relations comes to; strings' rows. No conditions.
-/
import Derived.Test.YtnbnmomichegaaaDoorDepLine
import Derived.Test.YtnbnmomichegaaaDoorDepPos
import Derived.Test.YtnbnmomichegaaaDoorDepCut
import Derived.Test.YtnbnmomichegaaaDoorDepPath
import Derived.Test.YtnbnmomichegaaaDoorDepRefCheck
namespace Go.Proofs.YtnbnmomichegaaaDoor
open Go.RowKit Utf
open Feat (Bs)

namespace Dep
def parseF (T : Nat) : Nat → Nat → Bs → List Int → List Bs → List Nat → Except (Nat × Nat) (List Int × List Bs × List Nat)
  | 0, _, _, H, R, O => .ok (H, R, O)
  | f + 1, a, rest, H, R, O =>
    if rest = [] then .ok (H, R, O)
    else if H.length = T then .error (a, 15)
    else if (lineP (ln rest) T).2.2.2 ≠ 0 then .error (a + (lineP (ln rest) T).2.2.1, (lineP (ln rest) T).2.2.2)
    else parseF T f (a + (ln rest).length + 1) (rest.drop ((ln rest).length + 1)) (H ++ [(lineP (ln rest) T).1]) (R ++ [(lineP (ln rest) T).2.1]) (O ++ [a])
theorem parseF_end {T f a : Nat} {H : List Int} {R : List Bs} {O : List Nat} : parseF T f a [] H R O = .ok (H, R, O) := by
  cases f with
  | zero => rfl
  | succ f => rw [parseF, if_pos rfl]
theorem parseF_many {T f a : Nat} {rest : Bs} {H : List Int} {R : List Bs} {O : List Nat} (h : rest ≠ []) (h2 : H.length = T) : parseF T (f + 1) a rest H R O = .error (a, 15) := by rw [parseF, if_neg h, if_pos h2]
theorem parseF_bad {T f a : Nat} {rest : Bs} {H : List Int} {R : List Bs} {O : List Nat} (h : rest ≠ []) (h2 : H.length ≠ T) (h3 : (lineP (ln rest) T).2.2.2 ≠ 0) : parseF T (f + 1) a rest H R O = .error (a + (lineP (ln rest) T).2.2.1, (lineP (ln rest) T).2.2.2) := by rw [parseF, if_neg h, if_neg h2, if_pos h3]
theorem parseF_step {T f a : Nat} {rest : Bs} {H : List Int} {R : List Bs} {O : List Nat} (h : rest ≠ []) (h2 : H.length ≠ T) (h3 : (lineP (ln rest) T).2.2.2 = 0) :
    parseF T (f + 1) a rest H R O = parseF T f (a + (ln rest).length + 1) (rest.drop ((ln rest).length + 1)) (H ++ [(lineP (ln rest) T).1]) (R ++ [(lineP (ln rest) T).2.1]) (O ++ [a]) := by rw [parseF, if_neg h, if_neg h2, if_neg (by simpa using h3)]
def parseD (d : Bs) (T : Nat) := parseF T (d.length + 1) 0 d [] [] []
/-- What Parse answers, of a number of tokens and a text within their bounds. -/
def parseO (d : Bs) (T : Nat) : List Int × List Bs × (Nat × Nat) × Nat :=
  match parseD d T with
  | .error (a, e) => ([], [], Pos.posOf d a, e)
  | .ok (H, R, O) =>
    if H.length < T then ([], [], Pos.posOf d d.length, 15)
    else if (chk H).2 ≠ 0 then ([], [], Pos.posOf d (O.getD (chk H).1 0), (chk H).2)
    else (H, R, (0, 0), 0)
/-- What Parse answers. -/
def parseA (d : Bs) (t : Int) : List Int × List Bs × (Nat × Nat) × Nat :=
  if t < 0 ∨ 4096 < t then ([], [], (0, 0), 1)
  else if 1048576 < d.length then ([], [], (0, 0), 2)
  else parseO d t.toNat
theorem parseA_arg {d : Bs} {t : Int} (h : t < 0 ∨ 4096 < t) : parseA d t = ([], [], (0, 0), 1) := by unfold parseA; rw [if_pos h]
theorem parseA_long {d : Bs} {t : Int} (h : ¬ (t < 0 ∨ 4096 < t)) (h2 : 1048576 < d.length) : parseA d t = ([], [], (0, 0), 2) := by unfold parseA; rw [if_neg h, if_pos h2]
theorem parseA_in {d : Bs} {T : Nat} (h : T ≤ 4096) (h2 : ¬ 1048576 < d.length) : parseA d (T : Nat) = parseO d T := by unfold parseA; rw [if_neg (by omega), if_neg h2, Int.toNat_natCast]
theorem parseO_err {d : Bs} {T a e : Nat} (h : parseD d T = .error (a, e)) : parseO d T = ([], [], Pos.posOf d a, e) := by unfold parseO; rw [h]
theorem parseO_few {d : Bs} {T : Nat} {H : List Int} {R : List Bs} {O : List Nat} (h : parseD d T = .ok (H, R, O)) (h2 : H.length < T) : parseO d T = ([], [], Pos.posOf d d.length, 15) := by unfold parseO; rw [h]; exact if_pos h2
theorem parseO_chk {d : Bs} {T : Nat} {H : List Int} {R : List Bs} {O : List Nat} (h : parseD d T = .ok (H, R, O)) (h2 : ¬ H.length < T) (h3 : (chk H).2 ≠ 0) : parseO d T = ([], [], Pos.posOf d (O.getD (chk H).1 0), (chk H).2) := by
  unfold parseO; rw [h]; simp only []; rw [if_neg h2, if_pos h3]
theorem parseO_ok {d : Bs} {T : Nat} {H : List Int} {R : List Bs} {O : List Nat} (h : parseD d T = .ok (H, R, O)) (h2 : ¬ H.length < T) (h3 : (chk H).2 = 0) : parseO d T = (H, R, (0, 0), 0) := by
  unfold parseO; rw [h]; simp only []; rw [if_neg h2, if_neg (by simpa using h3)]
theorem digs_len (s : Bs) : (digs s).length ≤ s.length := by unfold digs; exact (List.takeWhile_sublist _).length_le
theorem lineP_at (s : Bs) (T : Nat) : (lineP s T).2.2.1 ≤ s.length := by
  have hd := digs_len s
  unfold lineP
  split
  · simp
  · split
    · simp; omega
    · split
      · exact hd
      · rename_i h9
        have h9' : s[(digs s).length]? = some 9 := by simpa using h9
        have hlt := (List.getElem?_eq_some_iff.1 h9').1
        split
        · simp
        · split
          · show (digs s).length + 1 ≤ _; omega
          · simp
theorem ln_len (l : Bs) : (ln l).length ≤ l.length := by unfold ln; exact (List.takeWhile_sublist _).length_le
end Dep
theorem own_ne {w : World} {b1 b2 s1 s2 n1 n2 : Nat} {e1 e2 : TypeId} {v1 v2 : Value} {l1 l2 : List Value} (h1 : w.ownsRow b1 e1 s1 v1 n1 l1) (h2 : w.ownsRow b2 e2 s2 v2 n2 l2) (hne : e1 ≠ e2) : ∀ b, v1.ownBlock = some b → v2.ownBlock ≠ some b := by
  intro b hb hb2
  rcases h1.2 with ⟨rfl, _⟩ | ⟨g, cap, cur, rfl, _, hg, _⟩
  · simp [Value.ownBlock] at hb
  · rcases h2.2 with ⟨rfl, _⟩ | ⟨g', cap', cur', rfl, _, hg', _⟩
    · simp [Value.ownBlock] at hb2
    · simp [Value.ownBlock] at hb hb2
      subst hb; subst hb2
      rw [hg] at hg'
      simp at hg'
      exact hne hg'.2
/-- A row that is not the one that grew. -/
theorem own_grown {w w2 : World} {b1 s1 n1 : Nat} {e1 : TypeId} {v1 vx : Value} {l1 : List Value} (h : w.ownsRow b1 e1 s1 v1 n1 l1) (o : Obj) (gr : (w.alloc o).grownBy w2 vx.ownBlock) (hne : ∀ b, v1.ownBlock = some b → vx.ownBlock ≠ some b) : w2.ownsRow b1 e1 s1 v1 n1 l1 :=
  own_same h fun g hg => (gr.block g (by simp; have := (h.lt g hg).2; omega) (fun e => hne g hg e.symm)).trans (Below.heap_alloc _ _ _ (h.lt g hg).2)

theorem dis_push {v1 v2 v1' : Value} {N M : Nat} (h : ∀ b, v1.ownBlock = some b → v2.ownBlock ≠ some b) (hlt : ∀ b, v2.ownBlock = some b → b < N) (hob : v1'.ownBlock = v1.ownBlock ∨ v1'.ownBlock = some M) (hM : N ≤ M) :
    ∀ b, v1'.ownBlock = some b → v2.ownBlock ≠ some b := by
  intro b hb hb2
  rcases hob with e | e
  · rw [e] at hb; exact h b hb hb2
  · rw [e] at hb
    cases hb
    have := hlt _ hb2
    omega
theorem dis_symm {v1 v2 : Value} (h : ∀ b, v1.ownBlock = some b → v2.ownBlock ≠ some b) : ∀ b, v2.ownBlock = some b → v1.ownBlock ≠ some b := fun b h2 h1 => h b h1 h2
theorem blk_push {w w2 : World} {g : Nat} {t : TypeId} {cs : Array Value} {vx : Value} (h : Blk w g t cs) (o : Obj) (gr : (w.alloc o).grownBy w2 vx.ownBlock) (hne : vx.ownBlock ≠ some g) : Blk w2 g t cs :=
  (gr.block g (by simp; have := h.lt; omega) (fun e => hne e.symm)).trans (h.alloc o)
end Go.Proofs.YtnbnmomichegaaaDoor
