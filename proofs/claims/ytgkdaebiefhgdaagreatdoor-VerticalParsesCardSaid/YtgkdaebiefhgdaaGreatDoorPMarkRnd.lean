/-
 Several texts of this seat, one behind the other: MarkCheck, MarkFmt, MarkAwake, MarkLaws, MarkStay, MarkNum, MarkRound. No conditions but those of each.
-/
import Derived.Test.YtgkdaebiefhgdaaGreatDoorPMarkAll
namespace Go.Proofs.YtgkdaebiefhgdaaGreatDoor
open Go.RowKit Utf Tagp
open Feat (Bs lt)
attribute [local go_sem] byte_mk ByteArray.extract_mk
theorem Sl.take {w : World} {B n k : Nat} {A : Option Addr} {l : List KV} (h : Sl w B 2 A n (prs l)) (hk : k ≤ n) : Sl w B 2 A k (prs (l.take k)) := by
 have hl : l.length = n := by have := h.1; rw [prs_len] at this; omega
 refine ⟨by rw [prs_len, List.length_take]; omega, fun hp => ?_⟩
 rw [prs_len, List.length_take] at hp
 obtain ⟨g, o, e, hg, hc⟩ := h.2 (by rw [prs_len]; omega)
 refine ⟨g, o, e, hg, fun j u hj => hc j u ?_⟩
 have hjl : j < (prs (l.take k)).length := (List.getElem?_eq_some_iff.1 hj).1
 rw [← hj]
 conv => lhs; rw [← List.take_append_drop k l, prs_append]
 exact List.getElem?_append_left hjl
end Go.Proofs.YtgkdaebiefhgdaaGreatDoor
namespace Go.Proofs.YtgkdaebiefhgdaaGreatDoor
open Go.RowKit Utf Tagp
open Feat (Bs lt)
attribute [local go_sem] byte_mk ByteArray.extract_mk
end Go.Proofs.YtgkdaebiefhgdaaGreatDoor
namespace Go.Proofs.YtgkdaebiefhgdaaGreatDoor
open Go.RowKit Utf Tagp
open Feat (Bs lt)
attribute [local go_sem] byte_mk ByteArray.extract_mk
end Go.Proofs.YtgkdaebiefhgdaaGreatDoor
namespace Go.Proofs.YtgkdaebiefhgdaaGreatDoor
open Go.RowKit Utf Tagp
open Feat (Bs lt)
attribute [local go_sem] byte_mk ByteArray.extract_mk
end Go.Proofs.YtgkdaebiefhgdaaGreatDoor
namespace Go.Proofs.YtgkdaebiefhgdaaGreatDoor
open Go.RowKit Utf Tagp
open Feat (Bs)
theorem tw_stop {p : UInt8 → Bool} {c : UInt8} (hc : p c = false) (r : Bs) : ∀ l : Bs, (l ++ c :: r).takeWhile p = l.takeWhile p
 | [] => by simp [hc]
 | x :: l => by
  cases hx : p x with
  | true => simp only [List.cons_append, List.takeWhile_cons, hx, if_true, tw_stop hc r l]
  | false => simp [hx]
theorem at_in (s tail : Bs) (i : Nat) (hi : i < s.length) : (s ++ 62 :: tail)[i]? = s[i]? := List.getElem?_append_left hi
end Go.Proofs.YtgkdaebiefhgdaaGreatDoor
namespace Go.Proofs.YtgkdaebiefhgdaaGreatDoor
open Go.RowKit Utf Tagp
open Feat (Bs)
end Go.Proofs.YtgkdaebiefhgdaaGreatDoor
namespace Go.Proofs.YtgkdaebiefhgdaaGreatDoor
open Go.RowKit Utf Tagp
open Feat (Bs lt)
end Go.Proofs.YtgkdaebiefhgdaaGreatDoor
