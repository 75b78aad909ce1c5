/-
  Chapter 6, CorpusSorts as its row states it: for every input the law returns true and its arguments read as before. No conditions.
-/
import Derived.Test.YtaihgoohmcipkaaArgsSz
import Derived.Test.YtaihgoohmcipkaaCorLaws5
namespace Go.Proofs.Ytaihgoohmcipkaa
set_option linter.unusedSimpArgs false
set_option linter.unusedVariables false
open Go.ChangeShapes Go.WideShapes Go.ChangeAt Go.RowKit

set_option maxRecDepth 100000 in
theorem corpusSorts_lifted (os : Os) (started : os.Started) (H : Type) (enc : TypeId × Value → H) :
    ReturnsInHanded {} Try.checked os 8 .any (Rows.corpusSortsSpec.pre6 enc Try.prog Try.f8 Rows.corpusSortsRow.domain false) (Rows.corpusSortsSpec.post enc Try.prog Try.f8 false true false false) := by
  refine returnsInHanded_of_change_sized (C := Try.checked) ownKnobs started (by kernel_rfl) Try.func8
    (ChangeSpec.witness6 (enc := enc) (C := Try.checked) false ⟨#[], #[.slice none 0 0], []⟩ 8 (by kernel_rfl) (by kernel_rfl) (by kernel_rfl) (by kernel_rfl)) ?_
  intro W base args ds gs before hval0 hW hcnd hsz _
  have hval : ∀ (j : Nat) t v, Try.f8.params[j]? = some t → args[j]? = some v → Value.okWide Try.prog W .any base t v := hval0
  have hW' := hW
  obtain ⟨p, q, hA0, hV, rfl, hfz, hnd⟩ := hW
  have hA : DataW.TrodAll enc Try.prog W 0 (fun _ => true) true Try.f8.params.toList args.toList ds p := hA0
  rw [Try.params8] at hA hval
  obtain ⟨v0, d0, rfl, rfl, h0⟩ := trodAll_one hA
  obtain ⟨rfl, rfl⟩ := trodVars_none hV
  clear hA0 hval0
  have hL : Light Try.prog 25 d0 := fun n hn => by
    have := List.all_eq_true.1 hsz n (DataW.weights_mem_each (j := 0) (t := 25) (d := d0) (by rw [Try.params8]; rfl) rfl n hn)
    simpa using this
  obtain ⟨⟨A0, n0, c0⟩, L0, rfl, hf0, hs0, ho0, hb0⟩ := regions_argL (hval 0 25 v0 rfl rfl) hL h0
  have hR : reachBytes = 140737488351232 := by decide
  rw [hR] at hb0 ho0
  have hb1 : n0 * 56 ≤ 140737488351232 := hb0
  refine (law_sorts A0 n0 c0 L0 W (by omega) hf0 hs0 (fun x hx => (ho0 x hx).1) (fun x hx => Nat.le_trans (ho0 x hx).2 (by omega))).mono fun e W' ⟨he, hb⟩ => ?_
  subst he
  exact ⟨_, rfl, post_true laidOut (by kernel_rfl) rfl hW' rfl (by kernel_rfl) Try.underlying4 hb⟩
theorem corpusSorts_holds : Rows.CorpusSortsSaid :=
  OpenClaim.holds_of_wide 8 Try.f8 rfl rfl rfl rfl rfl rfl rfl ⟨rfl, rfl, rfl, rfl, rfl⟩ rfl rfl rfl rfl rfl (by kernel_rfl) Try.func8 (by kernel_rfl)
    (of_decide_eq_true (by kernel_rfl)) (by unfold Func.isWrapper; first | (rw [if_pos (by decide +kernel)]; kernel_rfl) | (rw [if_neg (by decide +kernel)]; exact ⟨rfl, rfl⟩))
    (fun os started H enc _ => corpusSorts_lifted os started H enc)
end Go.Proofs.Ytaihgoohmcipkaa
