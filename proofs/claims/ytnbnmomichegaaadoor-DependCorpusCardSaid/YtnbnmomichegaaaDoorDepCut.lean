/-
  The contract of strings.Cut at a line feed: the text up to it. Condition: the text's length is an int.
-/
import Derived.Shelf.Strings.Search1
import Derived.Shelf.Strings.Search2
import Derived.Shelf.LaysM
import Derived.Lib.IndexLaws
import Derived.Test.YtnbnmomichegaaaDoorBase6
namespace Go.Proofs.YtnbnmomichegaaaDoor
open Go.RowKit Utf Go.Shelf

def cut_ren : Go.Shelf.Ren := ⟨fun | 219 => 52 | 217 => 62 | 225 => 63 | 224 => 64 | 267 => 65 | 266 => 72 | 314 => 73 | n => n, fun | 9 => 9 | 3 => 3 | 4 => 4 | 5 => 5 | 46 => 105 | 146 => 112 | 51 => 108 | n => n, fun | 1 => 0 | n => n⟩
theorem cut_lays : Go.Proofs.Lays.n219 Tryd.prog cut_ren := {
  mixed := by kernel_rfl
  f217 := Tryd.func62.trans (congrArg some (by kernel_rfl))
  f219 := Tryd.func52.trans (congrArg some (by kernel_rfl))
  f224 := Tryd.func64.trans (congrArg some (by kernel_rfl))
  f225 := Tryd.func63.trans (congrArg some (by kernel_rfl))
  f266 := Tryd.func72.trans (congrArg some (by kernel_rfl))
  f267 := Tryd.func65.trans (congrArg some (by kernel_rfl))
  f314 := Tryd.func73.trans (congrArg some (by kernel_rfl))
  t3 := Tryd.underlying3
  a3 := Tryd.isAgg3
  z3 := Tryd.sizeOf3
  v3 := Tryd.zeroValue3
  t4 := Tryd.underlying4
  a4 := Tryd.isAgg4
  z4 := Tryd.sizeOf4
  v4 := Tryd.zeroValue4
  t5 := Tryd.underlying5
  a5 := Tryd.isAgg5
  z5 := Tryd.sizeOf5
  v5 := Tryd.zeroValue5
  t9 := Tryd.underlying9
  a9 := Tryd.isAgg9
  z9 := Tryd.sizeOf9
  v9 := Tryd.zeroValue9
  t46 := Tryd.underlying105
  a46 := Tryd.isAgg105
  z46 := Tryd.sizeOf105
  v46 := Tryd.zeroValue105
  t51 := Tryd.underlying108
  a51 := Tryd.isAgg108
  z51 := Tryd.sizeOf108
  v51 := Tryd.zeroValue108
  t146 := Tryd.underlying112
  a146 := Tryd.isAgg112
  z146 := Tryd.sizeOf112
  v146 := Tryd.zeroValue112
  g1 := by kernel_rfl }
theorem index_one (l : List UInt8) (c : UInt8) (w : World) :
    Calls Tryd.prog 52 #[str l, .string ⟨#[c]⟩] w fun e w' => e = .returned (.int .i64 (Lib.indexByte l c)) ∧ w' = w := by
  have : Calls Tryd.prog 52 #[.string ⟨l.toArray⟩, .string ⟨#[c]⟩] w fun e w' => e = .returned (.int .i64 (Lib.indexByte (ByteArray.mk l.toArray).data.toList c)) ∧ w' = w := Any.stringslite_Index_one cut_lays ⟨l.toArray⟩ c w
  simpa using this

/-- The first line. -/
def ln (l : List UInt8) : List UInt8 := l.takeWhile fun c => c != 10
theorem ln_none {l : List UInt8} (h : ∀ k : Nat, l[k]? ≠ some 10) : ln l = l := by
  have key : ∀ l : List UInt8, (∀ c ∈ l, c ≠ 10) → ln l = l := by
    intro l
    induction l with
    | nil => intro _; rfl
    | cons c t ih =>
      intro hc
      have h1 : (c != 10) = true := by simpa using hc c (by simp)
      have := ih (fun d hd => hc d (by simp [hd]))
      unfold ln at this ⊢
      rw [List.takeWhile_cons, h1, if_pos rfl, this]
  refine key l fun c hc e => ?_
  obtain ⟨k, hk⟩ := List.getElem?_of_mem hc
  exact h k (by rw [hk, e])
theorem ln_some {l : List UInt8} {o : Nat} (h0 : l[o]? = some 10) (h : ∀ k : Nat, k < o → l[k]? ≠ some 10) : ln l = l.take o := by
  unfold ln
  induction l generalizing o with
  | nil => simp
  | cons c t ih =>
    cases o with
    | zero => simp at h0; simp [h0]
    | succ o =>
      have hc : (c != 10) = true := by have := h 0 (by omega); simpa using this
      rw [List.takeWhile_cons, hc, if_pos rfl, List.take_succ_cons, ih (o := o) (by simpa using h0) (fun k hk => by have := h (k + 1) (by omega); simpa using this)]

/-- What Cut hands back: the line first. -/
def Cutd (l : List UInt8) (w : World) (e : Ending) (w' : World) : Prop := ∃ r b, e = .returned (.tuple #[str (ln l), str r, .bool b]) ∧ ∃ q, w' = w.drewN q
theorem cutd_ret {l x r : List UInt8} {b : Bool} {w w' : World} {en : Ending} (h : ln l = x) (he : en = .returned (.tuple #[str x, str r, .bool b])) (hw : ∃ q, w' = w.drewN q) : Cutd l w en w' := by subst h; exact ⟨r, b, he, hw⟩
attribute [local go_sem] byte_mk ByteArray.extract_mk

set_option maxHeartbeats 1000000 in
theorem slCut_any (l : List UInt8) (hl : l.length ≤ 9223372036854775807) (w : World) :
    Calls Tryd.prog 40 #[str l, str [10]] w (Cutd l w) := by
  have hge := Lib.indexByte_ge l 10
  by_cases hi : Lib.indexByte l 10 = -1
  · have HN := Lib.hid (ln_none (Lib.indexByte_none hi))
    have Hi := Lib.hid hi
    clear hi hge
    go_enter Tryd.func40, Tryd.ntmps40
    go_wp2_with fail
    refine (index_one l 10 _).mono ?_
    rintro e w' ⟨rfl, rfl⟩
    rw [Hi.out]
    go_wp2
    go_ret3
    exact cutd_ret (r := []) (b := false) HN.out rfl ⟨0, rfl⟩
  · obtain ⟨o, ho⟩ : ∃ o : Nat, Lib.indexByte l 10 = o := ⟨(Lib.indexByte l 10).toNat, by omega⟩
    obtain ⟨h1, h2⟩ := Lib.indexByte_some ho
    have hol : o < l.length := (List.getElem?_eq_some_iff.1 h1).1
    have HN := Lib.hid (ln_some h1 h2)
    have Hi := Lib.hid ho
    clear hi hge ho h1 h2
    have hwo : IntKind.i64.wrap ((o : Int) + 1) = (o : Int) + 1 := IntWalk.i64_in _ (by omega)
    have h0 : (0 : Int) ≤ (o : Int) + 1 := by omega
    have ht : ((o : Int) + 1).toNat = o + 1 := by omega
    go_enter Tryd.func40, Tryd.ntmps40
    go_wp2_with fail
    refine (index_one l 10 _).mono ?_
    rintro e w' ⟨rfl, rfl⟩
    rw [Hi.out]
    go_wp2
    go_quiet (fail)
    clear hwo h0 ht
    go_wp2
    go_ret3
    exact cutd_ret (r := (l.drop (o + 1)).take (l.length - (o + 1))) (b := true) HN.out rfl ⟨_, rfl⟩
theorem cut_any (l : List UInt8) (hl : l.length ≤ 9223372036854775807) (w : World) :
    Calls Tryd.prog 22 #[str l, str [10]] w (Cutd l w) := by
  go_enter Tryd.func22, Tryd.ntmps22
  go_wp2_with fail
  refine (slCut_any l hl _).mono ?_
  rintro e w' ⟨r, b, rfl, q, rfl⟩
  go_wp2
  go_ret3
  exact ⟨r, b, rfl, q, rfl⟩
end Go.Proofs.YtnbnmomichegaaaDoor
