/-
  The contract of strings.Cut at a line feed: the text up to it. Condition: the text's length is an int.
-/
import Derived.Shelf.Strings.Search1
import Derived.Shelf.Strings.Search2
import Derived.Shelf.LaysM
import Derived.Lib.IndexLaws
import Derived.Test.YtnbnmomichegaaaText9
namespace Go.Proofs.Ytnbnmomichegaaa
open Go.RowKit Utf Go.Shelf

def cut_ren : Go.Shelf.Ren := ⟨fun | 219 => 39 | 217 => 44 | 225 => 45 | 224 => 46 | 267 => 47 | 266 => 48 | 314 => 49 | n => n, fun | 9 => 9 | 3 => 3 | 4 => 4 | 5 => 5 | 46 => 63 | 146 => 65 | 51 => 64 | n => n, fun | 1 => 0 | n => n⟩
theorem cut_lays : Go.Proofs.Lays.n219 Try.prog cut_ren := {
  mixed := by kernel_rfl
  f217 := Try.func44.trans (congrArg some (by kernel_rfl))
  f219 := Try.func39.trans (congrArg some (by kernel_rfl))
  f224 := Try.func46.trans (congrArg some (by kernel_rfl))
  f225 := Try.func45.trans (congrArg some (by kernel_rfl))
  f266 := Try.func48.trans (congrArg some (by kernel_rfl))
  f267 := Try.func47.trans (congrArg some (by kernel_rfl))
  f314 := Try.func49.trans (congrArg some (by kernel_rfl))
  t3 := Try.underlying3
  a3 := Try.isAgg3
  z3 := Try.sizeOf3
  v3 := Try.zeroValue3
  t4 := Try.underlying4
  a4 := Try.isAgg4
  z4 := Try.sizeOf4
  v4 := Try.zeroValue4
  t5 := Try.underlying5
  a5 := Try.isAgg5
  z5 := Try.sizeOf5
  v5 := Try.zeroValue5
  t9 := Try.underlying9
  a9 := Try.isAgg9
  z9 := Try.sizeOf9
  v9 := Try.zeroValue9
  t46 := Try.underlying63
  a46 := Try.isAgg63
  z46 := Try.sizeOf63
  v46 := Try.zeroValue63
  t51 := Try.underlying64
  a51 := Try.isAgg64
  z51 := Try.sizeOf64
  v51 := Try.zeroValue64
  t146 := Try.underlying65
  a146 := Try.isAgg65
  z146 := Try.sizeOf65
  v146 := Try.zeroValue65
  g1 := by kernel_rfl }
theorem index_one (l : List UInt8) (c : UInt8) (w : World) :
    Calls Try.prog 39 #[str l, .string ⟨#[c]⟩] w fun e w' => e = .returned (.int .i64 (Lib.indexByte l c)) ∧ w' = w := by
  have : Calls Try.prog 39 #[.string ⟨l.toArray⟩, .string ⟨#[c]⟩] w fun e w' => e = .returned (.int .i64 (Lib.indexByte (ByteArray.mk l.toArray).data.toList c)) ∧ w' = w := Any.stringslite_Index_one cut_lays ⟨l.toArray⟩ c w
  simpa using this

/-- The first line. -/
def ln (l : List UInt8) : List UInt8 := l.takeWhile fun c => c != 10
theorem ln_none {l : List UInt8} (h : ∀ k : Nat, l[k]? ≠ some 10) : ln l = l := by
  have key : ∀ l : List UInt8, (∀ c ∈ l, c ≠ 10) → ln l = l := by
    intro l
    induction l with
    | nil => intro _; rfl
    | cons c t ih =>
      intro hc
      have h1 : (c != 10) = true := by simpa using hc c (by simp)
      have := ih (fun d hd => hc d (by simp [hd]))
      unfold ln at this ⊢
      rw [List.takeWhile_cons, h1, if_pos rfl, this]
  refine key l fun c hc e => ?_
  obtain ⟨k, hk⟩ := List.getElem?_of_mem hc
  exact h k (by rw [hk, e])
theorem ln_some {l : List UInt8} {o : Nat} (h0 : l[o]? = some 10) (h : ∀ k : Nat, k < o → l[k]? ≠ some 10) : ln l = l.take o := by
  unfold ln
  induction l generalizing o with
  | nil => simp
  | cons c t ih =>
    cases o with
    | zero => simp at h0; simp [h0]
    | succ o =>
      have hc : (c != 10) = true := by have := h 0 (by omega); simpa using this
      rw [List.takeWhile_cons, hc, if_pos rfl, List.take_succ_cons, ih (o := o) (by simpa using h0) (fun k hk => by have := h (k + 1) (by omega); simpa using this)]

/-- What Cut hands back: the line first. -/
def Cutd (l : List UInt8) (w : World) (e : Ending) (w' : World) : Prop := ∃ r b, e = .returned (.tuple #[str (ln l), str r, .bool b]) ∧ ∃ q, w' = w.drewN q
theorem cutd_ret {l x r : List UInt8} {b : Bool} {w w' : World} {en : Ending} (h : ln l = x) (he : en = .returned (.tuple #[str x, str r, .bool b])) (hw : ∃ q, w' = w.drewN q) : Cutd l w en w' := by subst h; exact ⟨r, b, he, hw⟩
attribute [local go_sem] byte_mk ByteArray.extract_mk

set_option maxHeartbeats 1000000 in
theorem slCut_any (l : List UInt8) (hl : l.length ≤ 9223372036854775807) (w : World) :
    Calls Try.prog 35 #[str l, str [10]] w (Cutd l w) := by
  have hge := Lib.indexByte_ge l 10
  by_cases hi : Lib.indexByte l 10 = -1
  · have HN := Lib.hid (ln_none (Lib.indexByte_none hi))
    have Hi := Lib.hid hi
    clear hi hge
    go_enter Try.func35, Try.ntmps35
    go_wp2_with fail
    refine (index_one l 10 _).mono ?_
    rintro e w' ⟨rfl, rfl⟩
    rw [Hi.out]
    go_wp2
    go_ret3
    exact cutd_ret (r := []) (b := false) HN.out rfl ⟨0, rfl⟩
  · obtain ⟨o, ho⟩ : ∃ o : Nat, Lib.indexByte l 10 = o := ⟨(Lib.indexByte l 10).toNat, by omega⟩
    obtain ⟨h1, h2⟩ := Lib.indexByte_some ho
    have hol : o < l.length := (List.getElem?_eq_some_iff.1 h1).1
    have HN := Lib.hid (ln_some h1 h2)
    have Hi := Lib.hid ho
    clear hi hge ho h1 h2
    have hwo : IntKind.i64.wrap ((o : Int) + 1) = (o : Int) + 1 := IntWalk.i64_in _ (by omega)
    have h0 : (0 : Int) ≤ (o : Int) + 1 := by omega
    have ht : ((o : Int) + 1).toNat = o + 1 := by omega
    go_enter Try.func35, Try.ntmps35
    go_wp2_with fail
    refine (index_one l 10 _).mono ?_
    rintro e w' ⟨rfl, rfl⟩
    rw [Hi.out]
    go_wp2
    go_quiet (fail)
    clear hwo h0 ht
    go_wp2
    go_ret3
    exact cutd_ret (r := (l.drop (o + 1)).take (l.length - (o + 1))) (b := true) HN.out rfl ⟨_, rfl⟩
theorem cut_any (l : List UInt8) (hl : l.length ≤ 9223372036854775807) (w : World) :
    Calls Try.prog 31 #[str l, str [10]] w (Cutd l w) := by
  go_enter Try.func31, Try.ntmps31
  go_wp2_with fail
  refine (slCut_any l hl _).mono ?_
  rintro e w' ⟨r, b, rfl, q, rfl⟩
  go_wp2
  go_ret3
  exact ⟨r, b, rfl, q, rfl⟩
end Go.Proofs.Ytnbnmomichegaaa
