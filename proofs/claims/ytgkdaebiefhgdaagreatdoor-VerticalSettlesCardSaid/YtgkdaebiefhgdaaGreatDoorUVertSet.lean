/-
  Plain: a corpus that is read has a text unless that is too long. No conditions.
-/
import Derived.Test.YtgkdaebiefhgdaaGreatDoorUVertRb
import Derived.Test.YtgkdaebiefhgdaaGreatDoorUVertRbY
namespace Go.Proofs.YtgkdaebiefhgdaaGreatDoor
set_option linter.unusedSimpArgs false
set_option linter.unusedVariables false
open Utf
open Feat (Bs lt)
open Tagp (KV okName)
open Cor (Txt Reg C)
open Vert (Rd tokenP lineV lineOf parseV readV tagOf tagLine isId lastOf fmtErr badT bodyV)
structure Inv2 (x : Rd) : Prop where
  tx : ∀ t ∈ x.texts, badT t = false
  rg : ∀ r ∈ x.regs, r.nm ≠ Vert.text
  op : ∀ r ∈ x.opn, r.nm ≠ Vert.text
theorem inv2_line {ats : List (Bs × Bool)} {x y : Rd} {s : Bs} (h : Inv2 x) (hl : lineV ats x s = .ok y) : Inv2 y := by
  unfold lineV at hl
  split at hl
  · split at hl
    · cases hl
    · split at hl
      · cases hl
      · rename_i h0 z hz
        cases hl
        have hkk := tagOf_keys s
        unfold tagLine at hz
        split at hz
        · split at hz
          · unfold Vert.endText at hz
            split at hz
            · cases hz
            · split at hz
              · cases hz
              · split at hz
                · cases hz
                · rename_i t ht
                  split at hz
                  · cases hz
                  · cases hz
                    refine ⟨fun u hu => ?_, h.rg, h.op⟩
                    rcases List.mem_append.1 hu with hu | hu
                    · exact h.tx u (List.dropLast_subset _ hu)
                    · simp at hu
                      subst hu
                      exact h.tx t (List.mem_of_getLast? ht)
          · unfold Vert.beginText at hz
            split at hz
            · cases hz
            · split at hz
              · cases hz
              · split at hz
                · cases hz
                · rename_i p hp
                  split at hz
                  · cases hz
                  · split at hz
                    · cases hz
                    · cases hz
                      refine ⟨fun u hu => ?_, h.rg, h.op⟩
                      rcases List.mem_append.1 hu with hu | hu
                      · exact h.tx u hu
                      · simp at hu
                        subst hu
                        unfold badT
                        rw [Bool.or_eq_false_iff]
                        constructor
                        · rw [List.any_eq_false]
                          intro q hq
                          have := (List.mem_filter.1 hq).2
                          simpa using this
                        · rw [decide_eq_false_iff_not]
                          have h1 : ∀ l : List KV, (l.filter isId).length + (l.filter fun p => !isId p).length = l.length := by
                            intro l
                            induction l with
                            | nil => rfl
                            | cons a l ih =>
                              rw [List.filter_cons, List.filter_cons]
                              cases isId a <;> simp <;> omega
                          have h2 := h1 (tagOf s).1.2.2
                          have h3 : 0 < ((tagOf s).1.2.2.filter isId).length := by
                            cases e : (tagOf s).1.2.2.filter isId with
                            | nil => rw [e] at hp; cases hp
                            | cons a l => simp
                          have := hkk.1
                          show ¬ 8 ≤ ((tagOf s).1.2.2.filter fun p => !isId p).length
                          omega
        · rename_i hne
          split at hz
          · unfold Vert.endReg at hz
            split at hz
            · cases hz
            · split at hz
              · cases hz
              · split at hz
                · cases hz
                · rename_i r hr
                  split at hz
                  · cases hz
                  · cases hz
                    refine ⟨h.tx, fun u hu => ?_, fun u hu => h.op u (List.mem_of_mem_eraseIdx hu)⟩
                    rcases List.mem_append.1 hu with hu | hu
                    · exact h.rg u hu
                    · simp at hu
                      subst hu
                      exact h.op r (List.mem_of_getElem? hr)
          · unfold Vert.beginReg at hz
            split at hz
            · cases hz
            · split at hz
              · cases hz
              · cases hz
                refine ⟨h.tx, h.rg, fun u hu => ?_⟩
                rcases List.mem_append.1 hu with hu | hu
                · exact h.op u hu
                · simp at hu
                  subst hu
                  exact hne
  · unfold tokenP at hl
    split at hl
    · cases hl
    · split at hl
      · cases hl
      · split at hl
        · cases hl
        · split at hl
          · cases hl
          · cases hl
            exact ⟨h.tx, h.rg, h.op⟩
theorem inv2_parse {ats : List (Bs × Bool)} {y : Rd} : ∀ (f a : Nat) (rest : Bs) (x : Rd), Inv2 x → parseV ats f a rest x = .ok y → Inv2 y
  | 0, a, rest, x, h, hp => by cases hp; exact h
  | f + 1, a, rest, x, h, hp => by
    rw [parseV] at hp
    split at hp
    · cases hp; exact h
    · split at hp
      · cases hp
      · rename_i z hz
        exact inv2_parse f _ _ _ (inv2_line h hz) hp
theorem read_fmt {d : Bs} {ats : List (Bs × Bool)} (h : (readV d ats).2.2 = 0) : fmtErr (readV d ats).1 = 0 ∧ { (readV d ats).1 with nods := [], heads := [], rels := [] } = (readV d ats).1 ∧ (readV d ats).1.attrs = ats := by
  unfold readV at h ⊢
  by_cases ha : (Cor.atErr ats).2 ≠ 0
  · rw [if_pos ha] at h; cases h
  · rw [if_neg ha] at h ⊢
    by_cases hd : 1048576 < d.length
    · rw [if_pos hd] at h; cases h
    · rw [if_neg hd] at h ⊢
      cases hp : parseV ats (d.length + 1) 0 d Vert.start with
      | error p =>
        rw [hp] at h
        exact absurd h (parseV_ne hp)
      | ok x =>
        rw [hp] at h
        dsimp only at h ⊢
        by_cases ht : x.tx = true
        · rw [if_pos ht] at h; cases h
        · rw [if_neg ht]
          refine ⟨?_, rfl, rfl⟩
          have hi := inv2_parse _ _ _ _ ⟨fun t h => (by cases h), fun t h => (by cases h), fun t h => (by cases h)⟩ hp
          unfold fmtErr
          have h1 : x.texts.find? badT = none := by
            rw [List.find?_eq_none]
            intro t ht
            rw [hi.tx t ht]; simp
          dsimp only
          rw [h1]
          dsimp only
          rw [if_neg]
          rw [List.any_eq_true]
          rintro ⟨r, hr, e⟩
          exact hi.rg r ((sortT_perm _).mem_iff.1 hr) (by simpa using e)
end Go.Proofs.YtgkdaebiefhgdaaGreatDoor
