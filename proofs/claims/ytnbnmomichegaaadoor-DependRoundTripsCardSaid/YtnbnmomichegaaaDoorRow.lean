/-
  The row's last step for a law: it returned true and left all old memory alone, so each argument reads as before. No conditions.
-/
import Derived.Test.YtnbnmomichegaaaDoorMem
import Derived.ProofKit
import Derived.Below
import Derived.ChangeSame
namespace Go.Proofs.YtnbnmomichegaaaDoor
open Go.ChangeShapes Go.WideShapes Go.ChangeAt Go.RowKit

theorem all_stays {H : Type} {enc : TypeId × Value → H} {P : Program} (hl : laidOutB P = true) {W W' : World} (hb : Below W.heap.size W W') (sp : Nat → Bool) :
    ∀ {ts : List TypeId} {vs : List Value} {ds : List (DataW H)} {ps : List MemPlace}, (ts.all fun t => P.readableRec t && decide (t < P.types.size)) = true →
      DataW.TrodAll enc P W 0 (fun _ => true) true ts vs ds ps → (∀ x ∈ ps, x.block < W.heap.size) → (∀ x ∈ ps, sp x.block = true) → DataW.TrodAll enc P W' 0 sp true ts vs ds ps
  | [], _, _, _, _, h, _, _ => by
    obtain ⟨rfl, rfl, rfl⟩ := trodAll_nil h
    exact h
  | t :: ts, _, _, _, ht, h, h1, h2 => by
    obtain ⟨v, vs, d, ds, a, b, rfl, rfl, rfl, hv, hr⟩ := trodAll_cons h
    simp only [List.all_cons, Bool.and_eq_true, decide_eq_true_eq] at ht
    refine ⟨a, b, ?_, all_stays hl hb sp ht.2 hr (fun x hx => h1 x (by simp [hx])) (fun x hx => h2 x (by simp [hx])), rfl⟩
    exact WideElems.Trod_stays hl ht.1.1 ht.1.2 hv (fun x hx => hb.same (h1 x (by simp [hx]))) (fun x hx => h2 x (by simp [hx]))

theorem post_true {H : Type} {enc : TypeId × Value → H} {P : Program} {f : Func} {s : ChangeSpec} {fresh handsOn : Bool} {W W' : World} {args : Array Value} {ds : List (DataW H)} {before : List MemPlace} {t : TypeId}
    (hl : laidOutB P = true) (hts : (f.params.toList.all fun t => P.readableRec t && decide (t < P.types.size)) = true) (hsv : s.vars = []) (hW : DataW.Whole enc P f.params.toList s.vars false W args.toList ds [] before)
    (hs : s.fn H (ds ++ []) = { results := [.lit (.bool true)], args := ds }) (hr : f.resultTypes = #[t]) (ht : P.underlying t = some .bool) (hb : Below W.heap.size W W') : s.post enc P f false fresh handsOn false W args (.bool true) W' := by
  have hWk := hW
  obtain ⟨p, q, hA, hV, rfl, hz, hn⟩ := hW
  have hlt : ∀ x ∈ p ++ q, x.block < W.heap.size := fun x hx => hWk.lt x hx
  rw [hsv] at hV
  obtain ⟨_, rfl⟩ := trodVars_none hV
  refine ⟨ds, [], p ++ [], [], p, [], hWk, ?_, ?_, ?_, (hb.frame _), fun h => by cases h⟩
  · rw [hs, hr]
    exact trodAll_mk1 (shut_bool ht _)
  · rw [hs]
    exact all_stays hl hb _ hts hA (fun x hx => hlt x (by simp [hx])) (fun x hx => by simpa using hlt x (by simp [hx]))
  · rw [hsv, hs]
    exact hV
end Go.Proofs.YtnbnmomichegaaaDoor
