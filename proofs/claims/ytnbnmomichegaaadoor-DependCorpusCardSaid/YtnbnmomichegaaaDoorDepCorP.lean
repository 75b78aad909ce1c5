/-
  Plain: heads and relations of one text are valid in a corpus exactly if they have a text, unless all are roots without relations. No conditions.
-/
import Derived.Test.YtnbnmomichegaaaDoorCorFull
import Derived.Test.YtnbnmomichegaaaDoorDepFmtP
namespace Go.Proofs.YtnbnmomichegaaaDoor
set_option linter.unusedSimpArgs false
set_option linter.unusedVariables false
open Cor (C Nod Txt atErr tkErr txErr rgErr ndErr hdErr check bare)
open Dep (chk fmtA badR)
open Feat (Bs)

/-- The corpus of the law: so many tokens, one text. -/
def lone (n : Nat) (h : List Int) (l : List Bs) : C := ⟨[([119, 111, 114, 100], false)], List.replicate n [[]], [⟨[116], 0, n, []⟩], [], [], h, l⟩
theorem lone_tx {n : Nat} (hn : 1 ≤ n) : (txErr n [⟨[116], 0, (n : Int), []⟩]).2 = 0 := by
  rw [txC_iff]
  refine ⟨by show 1 ≤ 64; omega, ⟨rfl, by show (0 : Int) < n; omega, rfl⟩, fun t ht => ?_, List.pairwise_singleton _ _⟩
  rw [List.mem_singleton] at ht
  subst ht
  show Tagp.okName [116] = true ∧ Cor.prErr [] = 0
  exact ⟨by decide, by decide⟩
theorem lone_check {n : Nat} {h : List Int} {l : List Bs} (h1 : 1 ≤ n) (h2 : n ≤ 60) : (check (lone n h l)).2.2 = (hdErr n [⟨[116], 0, (n : Int), []⟩] h l).2 := by
  have a : (atErr [(([119, 111, 114, 100] : Bs), false)]).2 = 0 := by decide
  have b : (tkErr [(([119, 111, 114, 100] : Bs), false)] (List.replicate n [[]])).2 = 0 := by
    unfold tkErr
    rw [if_neg (by simp; omega), Cor.first_none]
    intro j _ hj
    rw [List.length_replicate] at hj
    unfold Cor.tkF
    rw [List.getElem?_replicate, if_pos (by omega)]
    decide
  have c := lone_tx h1
  have e : (rgErr [⟨[116], 0, (n : Int), []⟩] []).2 = 0 := rfl
  have f : (ndErr [⟨[116], 0, (n : Int), []⟩] []).2 = 0 := rfl
  unfold check lone
  simp only [List.length_replicate]
  rw [if_neg (by rw [a]; simp), if_neg (by rw [b]; simp), if_neg (by rw [c]; simp), if_neg (by rw [e]; simp), if_neg (by rw [f]; simp)]
  by_cases g : (hdErr n [⟨[116], 0, (n : Int), []⟩] h l).2 ≠ 0
  · rw [if_pos g]
  · rw [if_neg g]; show 0 = _; omega
theorem bare_bad {l : List Bs} (h : ∀ s ∈ l, s = []) : l.any badR = false := by
  rw [List.any_eq_false]
  intro s hs
  rw [h s hs]; simp [badR]
theorem badR_iff {s : Bs} : badR s = false ↔ (s.isEmpty = false → Tagp.okName s = true) := by
  unfold badR
  cases s.isEmpty <;> cases Tagp.okName s <;> simp
/-- All roots, no relations. -/
theorem lone_bare {n : Nat} {h : List Int} {l : List Bs} (h1 : 1 ≤ n) (h2 : n ≤ 60) (hh : h.length = n) (hl : l.length = n) (hb : bare h l = true) : (check (lone n h l)).2.2 = 14 ∧ (fmtA h l).2 = 0 := by
  rw [lone_check h1 h2]
  have hb2 := bare_iff.1 hb
  constructor
  · unfold hdErr; rw [if_neg (by omega), if_pos ⟨by omega, hb⟩]
  · have hc : (chk h).2 = 0 := by
      rw [Dep.chk_zero]
      refine ⟨by omega, fun x hx => by rw [hb2.1 x hx]; omega, fun i hi hc => ?_⟩
      obtain ⟨a, k, hk⟩ := hc
      have := up_none hb2.1 k (i : Nat)
      omega
    rw [Dep.fmtA_ok hc (by omega) (bare_bad hb2.2)]
theorem lone_else {n : Nat} {h : List Int} {l : List Bs} (h1 : 1 ≤ n) (h2 : n ≤ 60) (hh : h.length = n) (hb : ¬ (l.length = n ∧ bare h l = true)) : ((check (lone n h l)).2.2 = 0 ↔ (fmtA h l).2 = 0) := by
  rw [lone_check h1 h2]
  by_cases hl : l.length = n
  · have hb' : bare h l = false := by
      cases e : bare h l with
      | false => rfl
      | true => exact absurd ⟨hl, e⟩ hb
    have ht := (texts_ok (lone_tx h1)).1
    rw [hdC_iff ht hh (fun _ => hb')]
    constructor
    · intro c
      have hc : (chk h).2 = 0 := by
        rw [Dep.chk_zero]
        exact ⟨by omega, c.ok fun t m => ⟨ht.pos t m, ht.top t m⟩, c.acy⟩
      rw [Dep.fmtA_ok hc (by omega) (by
        rw [List.any_eq_false]
        intro s hs
        have := badR_iff.2 (c.rel s hs)
        rw [this]; simp)]
    · intro e
      have hc : (chk h).2 = 0 := by
        refine Classical.byContradiction fun q => ?_
        rw [Dep.fmtA_chk q] at e
        exact q e
      have ha : l.any badR = false := by
        cases q : l.any badR with
        | false => rfl
        | true => rw [Dep.fmtA_bad hc (by omega) q] at e; cases e
      have g := Dep.chk_zero.1 hc
      refine ⟨hh, hl, fun k hk => ?_, fun s hs => badR_iff.1 ?_, g.none⟩
      · have r := g.ok _ (List.getElem_mem hk)
        by_cases q : h[k] = -1
        · exact .inl q
        · exact .inr ⟨_, List.mem_singleton.2 rfl, by show (0 : Int) ≤ k; omega, by show (k : Int) < n; omega, by show (0 : Int) ≤ h[k]; omega, by show h[k] < (n : Int); omega⟩
      · rw [List.any_eq_false] at ha
        have := ha s hs
        simpa using this
  · constructor
    · intro e
      unfold hdErr at e
      rw [if_pos (.inl (by omega))] at e
      cases e
    · intro e
      by_cases hc : (chk h).2 = 0
      · rw [Dep.fmtA_len hc (by omega)] at e; cases e
      · rw [Dep.fmtA_chk hc] at e; exact absurd e hc
end Go.Proofs.YtnbnmomichegaaaDoor
