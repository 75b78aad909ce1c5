/-
  Chapter 6, CorpusOrders as its row states it: for every input the law returns true and its arguments read as before. No conditions.
-/
import Derived.Test.YtaihgoohmcipkaaArgs6
import Derived.Test.YtaihgoohmcipkaaCorLaws4
namespace Go.Proofs.Ytaihgoohmcipkaa
open Go.ChangeShapes Go.WideShapes Go.ChangeAt Go.RowKit

set_option maxRecDepth 100000 in
theorem corpusOrders_lifted (os : Os) (started : os.Started) (H : Type) (enc : TypeId × Value → H) :
    ReturnsInHanded {} Try.checked os 5 .any (Rows.corpusOrdersSpec.pre6 enc Try.prog Try.f5 Rows.corpusOrdersRow.domain false) (Rows.corpusOrdersSpec.post enc Try.prog Try.f5 false true false false) := by
  refine returnsInHanded_of_change (C := Try.checked) ownKnobs started (by kernel_rfl) Try.func5
    (ChangeSpec.witness6 (enc := enc) (C := Try.checked) false ⟨#[], #[.agg #[.string ⟨#[]⟩, .int .i64 0, .int .i64 0, .slice none 0 0], .agg #[.string ⟨#[]⟩, .int .i64 0, .int .i64 0, .slice none 0 0], .agg #[.string ⟨#[]⟩, .int .i64 0, .int .i64 0, .slice none 0 0]], []⟩ 8 (by kernel_rfl) (by kernel_rfl) (by kernel_rfl) (by kernel_rfl)) ?_
  intro W base args ds gs before hval0 hW hcnd _
  have hval : ∀ (j : Nat) t v, Try.f5.params[j]? = some t → args[j]? = some v → Value.okWide Try.prog W .any base t v := hval0
  have hW' := hW
  obtain ⟨p, q, hA0, hV, rfl, hfz, hnd⟩ := hW
  have hA : DataW.TrodAll enc Try.prog W 0 (fun _ => true) true Try.f5.params.toList args.toList ds p := hA0
  rw [Try.params5] at hA hval
  obtain ⟨v0, v1, v2, d0, d1, d2, p0, p1, p2, rfl, rfl, rfl, h0, h1, h2⟩ := trodAll_three hA
  obtain ⟨rfl, rfl⟩ := trodVars_none hV
  clear hA0 hval0
  obtain ⟨⟨a0, ⟨A0, n0, c0⟩⟩, rfl, w0⟩ := region_arg (hval 0 39 v0 rfl rfl) h0
  obtain ⟨⟨a1, ⟨A1, n1, c1⟩⟩, rfl, w1⟩ := region_arg (hval 1 39 v1 rfl rfl) h1
  obtain ⟨⟨a2, ⟨A2, n2, c2⟩⟩, rfl, w2⟩ := region_arg (hval 2 39 v2 rfl rfl) h2
  refine (law_orders a0 a1 a2 A0 n0 c0 A1 n1 c1 A2 n2 c2 W w0 w1 w2).mono fun e W' ⟨he, hb⟩ => ?_
  subst he
  exact ⟨_, rfl, post_true laidOut (by kernel_rfl) rfl hW' rfl (by kernel_rfl) Try.underlying4 hb⟩
theorem corpusOrders_holds : Rows.CorpusOrdersSaid :=
  OpenClaim.holds_of_wide 5 Try.f5 rfl rfl rfl rfl rfl rfl rfl ⟨rfl, rfl, rfl, rfl, rfl⟩ rfl rfl rfl rfl rfl (by kernel_rfl) Try.func5 (by kernel_rfl)
    (of_decide_eq_true (by kernel_rfl)) (by unfold Func.isWrapper; first | (rw [if_pos (by decide +kernel)]; kernel_rfl) | (rw [if_neg (by decide +kernel)]; exact ⟨rfl, rfl⟩))
    (fun os started H enc _ => corpusOrders_lifted os started H enc)
end Go.Proofs.Ytaihgoohmcipkaa
