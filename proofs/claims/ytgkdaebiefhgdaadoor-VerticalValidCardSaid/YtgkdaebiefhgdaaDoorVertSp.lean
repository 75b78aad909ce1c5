/-
  Several texts of this seat, one behind the other: Shelf7, VertSplit. No conditions but those of each.
-/
import Derived.Shelf.Strings.Split
import Derived.Test.YtgkdaebiefhgdaaDoorProg
import Derived.Test.YtgkdaebiefhgdaaDoorVert
import Derived.Lib.IndexBytes
import Derived.Lib.IndexLaws
/-! ## Shelf7 -/
namespace Go.Proofs
open Go.Shelf
def Tryd.lays138_ren : Go.Shelf.Ren := ⟨fun | 138 => 72 | 195 => 78 | 218 => 80 | 143 => 73 | 219 => 42 | 217 => 57 | 225 => 58 | 224 => 59 | 267 => 60 | 266 => 69 | 314 => 70 | n => n, fun | 9 => 9 | 3 => 3 | 4 => 4 | 5 => 5 | 0 => 0 | 46 => 109 | 146 => 119 | 51 => 118 | n => n, fun | 1 => 0 | n => n⟩
theorem Tryd.lays138 : Go.Proofs.Lays.n138 Tryd.prog Tryd.lays138_ren := {
  mixed := by kernel_rfl
  f138 := Tryd.func72.trans (congrArg some (by kernel_rfl))
  f143 := Tryd.func73.trans (congrArg some (by kernel_rfl))
  f195 := Tryd.func78.trans (congrArg some (by kernel_rfl))
  f217 := Tryd.func57.trans (congrArg some (by kernel_rfl))
  f218 := Tryd.func80.trans (congrArg some (by kernel_rfl))
  f219 := Tryd.func42.trans (congrArg some (by kernel_rfl))
  f224 := Tryd.func59.trans (congrArg some (by kernel_rfl))
  f225 := Tryd.func58.trans (congrArg some (by kernel_rfl))
  f266 := Tryd.func69.trans (congrArg some (by kernel_rfl))
  f267 := Tryd.func60.trans (congrArg some (by kernel_rfl))
  f314 := Tryd.func70.trans (congrArg some (by kernel_rfl))
  t0 := Tryd.underlying0
  a0 := Tryd.isAgg0
  z0 := Tryd.sizeOf0
  v0 := Tryd.zeroValue0
  t3 := Tryd.underlying3
  a3 := Tryd.isAgg3
  z3 := Tryd.sizeOf3
  v3 := Tryd.zeroValue3
  t4 := Tryd.underlying4
  a4 := Tryd.isAgg4
  z4 := Tryd.sizeOf4
  v4 := Tryd.zeroValue4
  t5 := Tryd.underlying5
  a5 := Tryd.isAgg5
  z5 := Tryd.sizeOf5
  v5 := Tryd.zeroValue5
  t9 := Tryd.underlying9
  a9 := Tryd.isAgg9
  z9 := Tryd.sizeOf9
  v9 := Tryd.zeroValue9
  t46 := Tryd.underlying109
  a46 := Tryd.isAgg109
  z46 := Tryd.sizeOf109
  v46 := Tryd.zeroValue109
  t51 := Tryd.underlying118
  a51 := Tryd.isAgg118
  z51 := Tryd.sizeOf118
  v51 := Tryd.zeroValue118
  t146 := Tryd.underlying119
  a146 := Tryd.isAgg119
  z146 := Tryd.sizeOf119
  v146 := Tryd.zeroValue119
  g1 := by kernel_rfl }
open Go.RowKit Go.Lib in
/-- strings.Count at whatever sep that is not empty: the two roads under one statement. (LAID: no walk: one application.) -/
theorem Tryd.strings_Count_any (s sep : ByteArray) (m : Int) (w : World) (hs : s.size < 4294967281) (hm : w.cell? ⟨0, 0, none⟩ = some (.int .i64 m)) (h1 : 1 ≤ sep.size) :
    Calls Tryd.prog 72 #[.string s, .string sep] w fun e w' => e = .returned (.int .i64 (Lib.countB s sep)) ∧ w' = w := Any.strings_Count_any Tryd.lays138 s sep m w hs hm h1
def Tryd.lays221_ren : Go.Shelf.Ren := ⟨fun | 221 => 61 | 268 => 71 | 138 => 72 | 143 => 73 | 195 => 78 | 197 => 79 | 218 => 80 | 219 => 42 | 260 => 82 | 217 => 57 | 225 => 58 | 224 => 59 | 267 => 60 | 266 => 69 | 314 => 70 | n => n, fun | 9 => 9 | 3 => 3 | 31 => 28 | 4 => 4 | 0 => 0 | 105 => 112 | 21 => 21 | 5 => 5 | 46 => 109 | 119 => 129 | 139 => 132 | 138 => 131 | 146 => 119 | 51 => 118 | n => n, fun | 1 => 0 | 3 => 1 | 4 => 2 | n => n⟩
theorem Tryd.lays221 : Go.Proofs.Lays.n221 Tryd.prog Tryd.lays221_ren := {
  mixed := by kernel_rfl
  f138 := Tryd.func72.trans (congrArg some (by kernel_rfl))
  f143 := Tryd.func73.trans (congrArg some (by kernel_rfl))
  f195 := Tryd.func78.trans (congrArg some (by kernel_rfl))
  f197 := Tryd.func79.trans (congrArg some (by kernel_rfl))
  f217 := Tryd.func57.trans (congrArg some (by kernel_rfl))
  f218 := Tryd.func80.trans (congrArg some (by kernel_rfl))
  f219 := Tryd.func42.trans (congrArg some (by kernel_rfl))
  f221 := Tryd.func61.trans (congrArg some (by kernel_rfl))
  f224 := Tryd.func59.trans (congrArg some (by kernel_rfl))
  f225 := Tryd.func58.trans (congrArg some (by kernel_rfl))
  f260 := Tryd.func82.trans (congrArg some (by kernel_rfl))
  f266 := Tryd.func69.trans (congrArg some (by kernel_rfl))
  f267 := Tryd.func60.trans (congrArg some (by kernel_rfl))
  f268 := Tryd.func71.trans (congrArg some (by kernel_rfl))
  f314 := Tryd.func70.trans (congrArg some (by kernel_rfl))
  t0 := Tryd.underlying0
  a0 := Tryd.isAgg0
  z0 := Tryd.sizeOf0
  v0 := Tryd.zeroValue0
  t3 := Tryd.underlying3
  a3 := Tryd.isAgg3
  z3 := Tryd.sizeOf3
  v3 := Tryd.zeroValue3
  t4 := Tryd.underlying4
  a4 := Tryd.isAgg4
  z4 := Tryd.sizeOf4
  v4 := Tryd.zeroValue4
  t5 := Tryd.underlying5
  a5 := Tryd.isAgg5
  z5 := Tryd.sizeOf5
  v5 := Tryd.zeroValue5
  t9 := Tryd.underlying9
  a9 := Tryd.isAgg9
  z9 := Tryd.sizeOf9
  v9 := Tryd.zeroValue9
  t21 := Tryd.underlying21
  a21 := Tryd.isAgg21
  z21 := Tryd.sizeOf21
  v21 := Tryd.zeroValue21
  t31 := Tryd.underlying28
  a31 := Tryd.isAgg28
  z31 := Tryd.sizeOf28
  v31 := Tryd.zeroValue28
  t46 := Tryd.underlying109
  a46 := Tryd.isAgg109
  z46 := Tryd.sizeOf109
  v46 := Tryd.zeroValue109
  t51 := Tryd.underlying118
  a51 := Tryd.isAgg118
  z51 := Tryd.sizeOf118
  v51 := Tryd.zeroValue118
  t105 := Tryd.underlying112
  a105 := Tryd.isAgg112
  z105 := Tryd.sizeOf112
  v105 := Tryd.zeroValue112
  t119 := Tryd.underlying129
  a119 := Tryd.isAgg129
  z119 := Tryd.sizeOf129
  t138 := Tryd.underlying131
  a138 := Tryd.isAgg131
  z138 := Tryd.sizeOf131
  v138 := Tryd.zeroValue131
  t139 := Tryd.underlying132
  a139 := Tryd.isAgg132
  z139 := Tryd.sizeOf132
  v139 := Tryd.zeroValue132
  t146 := Tryd.underlying119
  a146 := Tryd.isAgg119
  z146 := Tryd.sizeOf119
  v146 := Tryd.zeroValue119
  g1 := by kernel_rfl
  g3 := by kernel_rfl
  g4 := by kernel_rfl }
open Go.RowKit Go.Lib in
theorem Tryd.strings_genSplit (s sep : ByteArray) (sv : Nat) (n : Int) (N : Nat) (m : Int) (w : World) (hs : s.size < 4294967281) (hm : w.cell? ⟨0, 0, none⟩ = some (.int .i64 m)) (h1 : 1 ≤ sep.size) (hsv : sv ≤ sep.size) (hn0 : n ≠ 0) (hn63 : n ≤ 9223372036854775807) (hN : (N : Int) = min (if n < 0 then (Lib.countB s sep : Int) + 1 else n) ((s.size : Int) + 1)) :
    Calls Tryd.prog 61 #[.string s, .string sep, .int .i64 sv, .int .i64 n] w fun e w' =>
      e = .returned (.slice (some ⟨w.heap.size, 0, none⟩) (Lib.splitB sep sv (N - 1) s).length N) ∧ w' = w.alloc (.cells (Lib.cellsOf (Lib.splitB sep sv (N - 1) s) N) 9) := Any.strings_genSplit Tryd.lays221 (by kernel_rfl) s sep sv n N m w hs hm h1 hsv hn0 hn63 hN
def Tryd.lays146_ren : Go.Shelf.Ren := ⟨fun | 146 => 44 | 221 => 61 | 268 => 71 | 138 => 72 | 143 => 73 | 195 => 78 | 197 => 79 | 218 => 80 | 219 => 42 | 260 => 82 | 217 => 57 | 225 => 58 | 224 => 59 | 267 => 60 | 266 => 69 | 314 => 70 | n => n, fun | 9 => 9 | 31 => 28 | 3 => 3 | 4 => 4 | 0 => 0 | 105 => 112 | 21 => 21 | 5 => 5 | 46 => 109 | 119 => 129 | 139 => 132 | 138 => 131 | 146 => 119 | 51 => 118 | n => n, fun | 1 => 0 | 3 => 1 | 4 => 2 | n => n⟩
theorem Tryd.lays146 : Go.Proofs.Lays.n146 Tryd.prog Tryd.lays146_ren := {
  mixed := by kernel_rfl
  f138 := Tryd.func72.trans (congrArg some (by kernel_rfl))
  f143 := Tryd.func73.trans (congrArg some (by kernel_rfl))
  f146 := Tryd.func44.trans (congrArg some (by kernel_rfl))
  f195 := Tryd.func78.trans (congrArg some (by kernel_rfl))
  f197 := Tryd.func79.trans (congrArg some (by kernel_rfl))
  f217 := Tryd.func57.trans (congrArg some (by kernel_rfl))
  f218 := Tryd.func80.trans (congrArg some (by kernel_rfl))
  f219 := Tryd.func42.trans (congrArg some (by kernel_rfl))
  f221 := Tryd.func61.trans (congrArg some (by kernel_rfl))
  f224 := Tryd.func59.trans (congrArg some (by kernel_rfl))
  f225 := Tryd.func58.trans (congrArg some (by kernel_rfl))
  f260 := Tryd.func82.trans (congrArg some (by kernel_rfl))
  f266 := Tryd.func69.trans (congrArg some (by kernel_rfl))
  f267 := Tryd.func60.trans (congrArg some (by kernel_rfl))
  f268 := Tryd.func71.trans (congrArg some (by kernel_rfl))
  f314 := Tryd.func70.trans (congrArg some (by kernel_rfl))
  t0 := Tryd.underlying0
  a0 := Tryd.isAgg0
  z0 := Tryd.sizeOf0
  v0 := Tryd.zeroValue0
  t3 := Tryd.underlying3
  a3 := Tryd.isAgg3
  z3 := Tryd.sizeOf3
  v3 := Tryd.zeroValue3
  t4 := Tryd.underlying4
  a4 := Tryd.isAgg4
  z4 := Tryd.sizeOf4
  v4 := Tryd.zeroValue4
  t5 := Tryd.underlying5
  a5 := Tryd.isAgg5
  z5 := Tryd.sizeOf5
  v5 := Tryd.zeroValue5
  t9 := Tryd.underlying9
  a9 := Tryd.isAgg9
  z9 := Tryd.sizeOf9
  v9 := Tryd.zeroValue9
  t21 := Tryd.underlying21
  a21 := Tryd.isAgg21
  z21 := Tryd.sizeOf21
  v21 := Tryd.zeroValue21
  t31 := Tryd.underlying28
  a31 := Tryd.isAgg28
  z31 := Tryd.sizeOf28
  v31 := Tryd.zeroValue28
  t46 := Tryd.underlying109
  a46 := Tryd.isAgg109
  z46 := Tryd.sizeOf109
  v46 := Tryd.zeroValue109
  t51 := Tryd.underlying118
  a51 := Tryd.isAgg118
  z51 := Tryd.sizeOf118
  v51 := Tryd.zeroValue118
  t105 := Tryd.underlying112
  a105 := Tryd.isAgg112
  z105 := Tryd.sizeOf112
  v105 := Tryd.zeroValue112
  t119 := Tryd.underlying129
  a119 := Tryd.isAgg129
  z119 := Tryd.sizeOf129
  t138 := Tryd.underlying131
  a138 := Tryd.isAgg131
  z138 := Tryd.sizeOf131
  v138 := Tryd.zeroValue131
  t139 := Tryd.underlying132
  a139 := Tryd.isAgg132
  z139 := Tryd.sizeOf132
  v139 := Tryd.zeroValue132
  t146 := Tryd.underlying119
  a146 := Tryd.isAgg119
  z146 := Tryd.sizeOf119
  v146 := Tryd.zeroValue119
  g1 := by kernel_rfl
  g3 := by kernel_rfl
  g4 := by kernel_rfl }
open Go.RowKit Go.Lib in
/-- strings.Split. (LAID: no walk: one application.) -/
theorem Tryd.strings_Split (s sep : ByteArray) (m : Int) (w : World) (hs : s.size < 4294967281) (hm : w.cell? ⟨0, 0, none⟩ = some (.int .i64 m)) (h1 : 1 ≤ sep.size) :
    Calls Tryd.prog 44 #[.string s, .string sep] w fun e w' =>
      e = .returned (.slice (some ⟨w.heap.size, 0, none⟩) (Lib.countB s sep + 1) (Lib.countB s sep + 1)) ∧ w' = w.alloc (.cells ((Lib.splitB sep 0 (Lib.countB s sep) s).map Value.string).toArray 9) := Any.strings_Split Tryd.lays146 (by kernel_rfl) s sep m w hs hm h1
end Go.Proofs

/-! ## VertSplit -/
namespace Go.Proofs.YtgkdaebiefhgdaaDoor
set_option linter.unusedSimpArgs false
set_option linter.unusedVariables false
open Go.RowKit Go.Lib
open Feat (Bs)
open Vert (splitT)

theorem splitT_miss : ∀ {l : Bs}, (∀ k : Nat, l[k]? ≠ some 9) → splitT l = [l]
  | [], _ => rfl
  | c :: l, h => by
    have hc : c ≠ 9 := fun e => h 0 (by simp [e])
    unfold splitT
    rw [if_neg hc, splitT_miss fun k => by have := h (k + 1); simpa using this]
theorem splitT_hit : ∀ {l : Bs} {i : Nat}, l[i]? = some 9 → (∀ k : Nat, k < i → l[k]? ≠ some 9) → splitT l = l.take i :: splitT (l.drop (i + 1))
  | [], i, h, _ => by simp at h
  | c :: l, 0, h, _ => by
    have hc : c = 9 := by simpa using h
    rw [splitT, if_pos hc]; rfl
  | c :: l, i + 1, h, hb => by
    have hc : c ≠ 9 := fun e => hb 0 (by omega) (by simp [e])
    have ih := splitT_hit (l := l) (i := i) (by simpa using h) (fun k hk => by have := hb (k + 1) (by omega); simpa using this)
    rw [splitT, if_neg hc, ih]
    rfl
theorem index_nine (l : Bs) : indexB ⟨l.toArray⟩ ⟨#[9]⟩ = indexByte l 9 := by
  have e : (ByteArray.mk l.toArray).data.toList = l := by simp
  show index (ByteArray.mk l.toArray).data.toList [9] = _
  rw [e]
  exact index_one l 9
theorem split_pieces : ∀ (n : Nat) (l : Bs), l.length ≤ n → splitB ⟨#[9]⟩ 0 (countB ⟨l.toArray⟩ ⟨#[9]⟩) ⟨l.toArray⟩ = (splitT l).map fun s => ByteArray.mk s.toArray := by
  intro n
  induction n with
  | zero =>
    intro l hl
    have : l = [] := List.eq_nil_of_length_eq_zero (by omega)
    subst this
    rw [countB_miss _ _ (by rw [index_nine]; rfl)]
    rfl
  | succ n ih =>
    intro l hl
    by_cases hm : indexByte l 9 = -1
    · rw [countB_miss _ _ (by rw [index_nine]; exact hm), splitB_zero, splitT_miss (indexByte_none hm)]
      rfl
    · obtain ⟨i, hi⟩ : ∃ i : Nat, indexByte l 9 = i := ⟨(indexByte l 9).toNat, by have := indexByte_ge l 9; omega⟩
      obtain ⟨h1, h2⟩ := indexByte_some hi
      have hlt := (List.getElem?_eq_some_iff.1 h1).1
      have hB : indexB ⟨l.toArray⟩ ⟨#[9]⟩ = i := by rw [index_nine]; exact hi
      have he : (ByteArray.mk l.toArray).extract (i + (ByteArray.mk #[9]).size) (ByteArray.mk l.toArray).size = ⟨(l.drop (i + 1)).toArray⟩ := by
        rw [ByteArray.extract_mk]
        congr 1
        show (List.take (l.toArray.size - (i + 1)) (List.drop (i + 1) l)).toArray = _
        rw [List.take_of_length_le (by simp)]
      have he0 : (ByteArray.mk l.toArray).extract 0 (i + 0) = ⟨(l.take i).toArray⟩ := by
        rw [ByteArray.extract_mk]
        congr 1
        try simp
      rw [countB_hit _ _ i (by decide) hB, he, Nat.add_comm, splitB_hit _ _ _ _ i hB, he, he0, splitT_hit h1 h2, List.map_cons, ih _ (by simp; omega)]
theorem split_count : ∀ (n : Nat) (l : Bs), l.length ≤ n → countB ⟨l.toArray⟩ ⟨#[9]⟩ + 1 = (splitT l).length := by
  intro n
  induction n with
  | zero =>
    intro l hl
    have : l = [] := List.eq_nil_of_length_eq_zero (by omega)
    subst this
    rw [countB_miss _ _ (by rw [index_nine]; rfl)]
    rfl
  | succ n ih =>
    intro l hl
    by_cases hm : indexByte l 9 = -1
    · rw [countB_miss _ _ (by rw [index_nine]; exact hm), splitT_miss (indexByte_none hm)]
      rfl
    · obtain ⟨i, hi⟩ : ∃ i : Nat, indexByte l 9 = i := ⟨(indexByte l 9).toNat, by have := indexByte_ge l 9; omega⟩
      obtain ⟨h1, h2⟩ := indexByte_some hi
      have hlt := (List.getElem?_eq_some_iff.1 h1).1
      have hB : indexB ⟨l.toArray⟩ ⟨#[9]⟩ = i := by rw [index_nine]; exact hi
      have he : (ByteArray.mk l.toArray).extract (i + (ByteArray.mk #[9]).size) (ByteArray.mk l.toArray).size = ⟨(l.drop (i + 1)).toArray⟩ := by
        rw [ByteArray.extract_mk]
        congr 1
        show (List.take (l.toArray.size - (i + 1)) (List.drop (i + 1) l)).toArray = _
        rw [List.take_of_length_le (by simp)]
      rw [countB_hit _ _ i (by decide) hB, he, splitT_hit h1 h2, List.length_cons, ← ih _ (by simp; omega)]
      omega
/-- What Split hands back: the pieces, in a block of their own. -/
theorem split_any (l : Bs) (m : Int) (w : World) (hl : l.length < 4294967281) (hm : w.cell? ⟨0, 0, none⟩ = some (.int .i64 m)) :
    Calls Tryd.prog 44 #[str l, .string ⟨#[9]⟩] w fun e w' => e = .returned (.slice (some ⟨w.heap.size, 0, none⟩) (splitT l).length (splitT l).length) ∧ w' = w.alloc (.cells (strs (splitT l)).toArray 9) := by
  refine (Tryd.strings_Split ⟨l.toArray⟩ ⟨#[9]⟩ m w (by show l.toArray.size < _; simpa using hl) hm (by decide)).mono ?_
  rintro e w' ⟨rfl, rfl⟩
  rw [split_pieces l.length l (Nat.le_refl _), split_count l.length l (Nat.le_refl _)]
  refine ⟨rfl, ?_⟩
  simp only [List.map_map]
  rfl
end Go.Proofs.YtgkdaebiefhgdaaDoor
