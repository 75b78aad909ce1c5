/-
 Several texts of this seat, one behind the other: Shelf7, VertSplit. No conditions but those of each.
-/
import Derived.Shelf.Strings.Split
import Derived.Test.YtgkdaebiefhgdaaGreatDoorProg
import Derived.Test.YtgkdaebiefhgdaaGreatDoorPVert
import Derived.Lib.IndexBytes
import Derived.Lib.IndexLaws
namespace Go.Proofs
open Go.Shelf
def Tryz.lays146_ren : Go.Shelf.Ren := ⟨fun | 146 => 96 | 221 => 141 | 268 => 157 | 138 => 158 | 143 => 159 | 195 => 164 | 197 => 165 | 218 => 166 | 219 => 94 | 260 => 169 | 217 => 137 | 225 => 138 | 224 => 139 | 267 => 140 | 266 => 155 | 314 => 156 | n => n, fun | 9 => 9 | 31 => 28 | 3 => 3 | 4 => 4 | 0 => 0 | 105 => 182 | 21 => 21 | 5 => 5 | 46 => 180 | 119 => 202 | 139 => 205 | 138 => 204 | 146 => 190 | 51 => 189 | n => n, fun | 1 => 0 | 3 => 1 | 4 => 2 | n => n⟩
theorem Tryz.lays146 : Go.Proofs.Lays.n146 Tryz.prog Tryz.lays146_ren := {
 mixed := by kernel_rfl
 f138 := Tryz.func158.trans (congrArg some (by kernel_rfl))
 f143 := Tryz.func159.trans (congrArg some (by kernel_rfl))
 f146 := Tryz.func96.trans (congrArg some (by kernel_rfl))
 f195 := Tryz.func164.trans (congrArg some (by kernel_rfl))
 f197 := Tryz.func165.trans (congrArg some (by kernel_rfl))
 f217 := Tryz.func137.trans (congrArg some (by kernel_rfl))
 f218 := Tryz.func166.trans (congrArg some (by kernel_rfl))
 f219 := Tryz.func94.trans (congrArg some (by kernel_rfl))
 f221 := Tryz.func141.trans (congrArg some (by kernel_rfl))
 f224 := Tryz.func139.trans (congrArg some (by kernel_rfl))
 f225 := Tryz.func138.trans (congrArg some (by kernel_rfl))
 f260 := Tryz.func169.trans (congrArg some (by kernel_rfl))
 f266 := Tryz.func155.trans (congrArg some (by kernel_rfl))
 f267 := Tryz.func140.trans (congrArg some (by kernel_rfl))
 f268 := Tryz.func157.trans (congrArg some (by kernel_rfl))
 f314 := Tryz.func156.trans (congrArg some (by kernel_rfl))
 t0 := Tryz.underlying0
 a0 := Tryz.isAgg0
 z0 := Tryz.sizeOf0
 v0 := Tryz.zeroValue0
 t3 := Tryz.underlying3
 a3 := Tryz.isAgg3
 z3 := Tryz.sizeOf3
 v3 := Tryz.zeroValue3
 t4 := Tryz.underlying4
 a4 := Tryz.isAgg4
 z4 := Tryz.sizeOf4
 v4 := Tryz.zeroValue4
 t5 := Tryz.underlying5
 a5 := Tryz.isAgg5
 z5 := Tryz.sizeOf5
 v5 := Tryz.zeroValue5
 t9 := Tryz.underlying9
 a9 := Tryz.isAgg9
 z9 := Tryz.sizeOf9
 v9 := Tryz.zeroValue9
 t21 := Tryz.underlying21
 a21 := Tryz.isAgg21
 z21 := Tryz.sizeOf21
 v21 := Tryz.zeroValue21
 t31 := Tryz.underlying28
 a31 := Tryz.isAgg28
 z31 := Tryz.sizeOf28
 v31 := Tryz.zeroValue28
 t46 := Tryz.underlying180
 a46 := Tryz.isAgg180
 z46 := Tryz.sizeOf180
 v46 := Tryz.zeroValue180
 t51 := Tryz.underlying189
 a51 := Tryz.isAgg189
 z51 := Tryz.sizeOf189
 v51 := Tryz.zeroValue189
 t105 := Tryz.underlying182
 a105 := Tryz.isAgg182
 z105 := Tryz.sizeOf182
 v105 := Tryz.zeroValue182
 t119 := Tryz.underlying202
 a119 := Tryz.isAgg202
 z119 := Tryz.sizeOf202
 t138 := Tryz.underlying204
 a138 := Tryz.isAgg204
 z138 := Tryz.sizeOf204
 v138 := Tryz.zeroValue204
 t139 := Tryz.underlying205
 a139 := Tryz.isAgg205
 z139 := Tryz.sizeOf205
 v139 := Tryz.zeroValue205
 t146 := Tryz.underlying190
 a146 := Tryz.isAgg190
 z146 := Tryz.sizeOf190
 v146 := Tryz.zeroValue190
 g1 := by kernel_rfl
 g3 := by kernel_rfl
 g4 := by kernel_rfl }
open Go.RowKit Go.Lib in
theorem Tryz.strings_Split (s sep : ByteArray) (m : Int) (w : World) (hs : s.size < 4294967281) (hm : w.cell? ⟨0, 0, none⟩ = some (.int .i64 m)) (h1 : 1 ≤ sep.size) :
  Calls Tryz.prog 96 #[.string s, .string sep] w fun e w' =>
   e = .returned (.slice (some ⟨w.heap.size, 0, none⟩) (Lib.countB s sep + 1) (Lib.countB s sep + 1)) ∧ w' = w.alloc (.cells ((Lib.splitB sep 0 (Lib.countB s sep) s).map Value.string).toArray 9) := Any.strings_Split Tryz.lays146 (by kernel_rfl) s sep m w hs hm h1
end Go.Proofs
namespace Go.Proofs.YtgkdaebiefhgdaaGreatDoor
set_option linter.unusedSimpArgs false
set_option linter.unusedVariables false
open Go.RowKit Go.Lib
open Feat (Bs)
open Vert (splitT)
theorem splitT_miss : ∀ {l : Bs}, (∀ k : Nat, l[k]? ≠ some 9) → splitT l = [l]
 | [], _ => rfl
 | c :: l, h => by
  have hc : c ≠ 9 := fun e => h 0 (by simp [e])
  unfold splitT
  rw [if_neg hc, splitT_miss fun k => by have := h (k + 1); simpa using this]
theorem splitT_hit : ∀ {l : Bs} {i : Nat}, l[i]? = some 9 → (∀ k : Nat, k < i → l[k]? ≠ some 9) → splitT l = l.take i :: splitT (l.drop (i + 1))
 | [], i, h, _ => by simp at h
 | c :: l, 0, h, _ => by
  have hc : c = 9 := by simpa using h
  rw [splitT, if_pos hc]; rfl
 | c :: l, i + 1, h, hb => by
  have hc : c ≠ 9 := fun e => hb 0 (by omega) (by simp [e])
  have ih := splitT_hit (l := l) (i := i) (by simpa using h) (fun k hk => by have := hb (k + 1) (by omega); simpa using this)
  rw [splitT, if_neg hc, ih]
  rfl
theorem index_nine (l : Bs) : indexB ⟨l.toArray⟩ ⟨#[9]⟩ = indexByte l 9 := by
 have e : (ByteArray.mk l.toArray).data.toList = l := by simp
 show index (ByteArray.mk l.toArray).data.toList [9] = _
 rw [e]
 exact index_one l 9
theorem split_pieces : ∀ (n : Nat) (l : Bs), l.length ≤ n → splitB ⟨#[9]⟩ 0 (countB ⟨l.toArray⟩ ⟨#[9]⟩) ⟨l.toArray⟩ = (splitT l).map fun s => ByteArray.mk s.toArray := by
 intro n
 induction n with
 | zero =>
  intro l hl
  have : l = [] := List.eq_nil_of_length_eq_zero (by omega)
  subst this
  rw [countB_miss _ _ (by rw [index_nine]; rfl)]
  rfl
 | succ n ih =>
  intro l hl
  by_cases hm : indexByte l 9 = -1
  ·rw [countB_miss _ _ (by rw [index_nine]; exact hm), splitB_zero, splitT_miss (indexByte_none hm)]
   rfl
  ·obtain ⟨i, hi⟩ : ∃ i : Nat, indexByte l 9 = i := ⟨(indexByte l 9).toNat, by have := indexByte_ge l 9; omega⟩
   obtain ⟨h1, h2⟩ := indexByte_some hi
   have hlt := (List.getElem?_eq_some_iff.1 h1).1
   have hB : indexB ⟨l.toArray⟩ ⟨#[9]⟩ = i := by rw [index_nine]; exact hi
   have he : (ByteArray.mk l.toArray).extract (i + (ByteArray.mk #[9]).size) (ByteArray.mk l.toArray).size = ⟨(l.drop (i + 1)).toArray⟩ := by
    rw [ByteArray.extract_mk]
    congr 1
    show (List.take (l.toArray.size - (i + 1)) (List.drop (i + 1) l)).toArray = _
    rw [List.take_of_length_le (by simp)]
   have he0 : (ByteArray.mk l.toArray).extract 0 (i + 0) = ⟨(l.take i).toArray⟩ := by
    rw [ByteArray.extract_mk]
    congr 1
    try simp
   rw [countB_hit _ _ i (by decide) hB, he, Nat.add_comm, splitB_hit _ _ _ _ i hB, he, he0, splitT_hit h1 h2, List.map_cons, ih _ (by simp; omega)]
theorem split_count : ∀ (n : Nat) (l : Bs), l.length ≤ n → countB ⟨l.toArray⟩ ⟨#[9]⟩ + 1 = (splitT l).length := by
 intro n
 induction n with
 | zero =>
  intro l hl
  have : l = [] := List.eq_nil_of_length_eq_zero (by omega)
  subst this
  rw [countB_miss _ _ (by rw [index_nine]; rfl)]
  rfl
 | succ n ih =>
  intro l hl
  by_cases hm : indexByte l 9 = -1
  ·rw [countB_miss _ _ (by rw [index_nine]; exact hm), splitT_miss (indexByte_none hm)]
   rfl
  ·obtain ⟨i, hi⟩ : ∃ i : Nat, indexByte l 9 = i := ⟨(indexByte l 9).toNat, by have := indexByte_ge l 9; omega⟩
   obtain ⟨h1, h2⟩ := indexByte_some hi
   have hlt := (List.getElem?_eq_some_iff.1 h1).1
   have hB : indexB ⟨l.toArray⟩ ⟨#[9]⟩ = i := by rw [index_nine]; exact hi
   have he : (ByteArray.mk l.toArray).extract (i + (ByteArray.mk #[9]).size) (ByteArray.mk l.toArray).size = ⟨(l.drop (i + 1)).toArray⟩ := by
    rw [ByteArray.extract_mk]
    congr 1
    show (List.take (l.toArray.size - (i + 1)) (List.drop (i + 1) l)).toArray = _
    rw [List.take_of_length_le (by simp)]
   rw [countB_hit _ _ i (by decide) hB, he, splitT_hit h1 h2, List.length_cons, ← ih _ (by simp; omega)]
   omega
theorem split_any (l : Bs) (m : Int) (w : World) (hl : l.length < 4294967281) (hm : w.cell? ⟨0, 0, none⟩ = some (.int .i64 m)) :
  Calls Tryz.prog 96 #[str l, .string ⟨#[9]⟩] w fun e w' => e = .returned (.slice (some ⟨w.heap.size, 0, none⟩) (splitT l).length (splitT l).length) ∧ w' = w.alloc (.cells (strs (splitT l)).toArray 9) := by
 refine (Tryz.strings_Split ⟨l.toArray⟩ ⟨#[9]⟩ m w (by show l.toArray.size < _; simpa using hl) hm (by decide)).mono ?_
 rintro e w' ⟨rfl, rfl⟩
 rw [split_pieces l.length l (Nat.le_refl _), split_count l.length l (Nat.le_refl _)]
 refine ⟨rfl, ?_⟩
 simp only [List.map_map]
 rfl
end Go.Proofs.YtgkdaebiefhgdaaGreatDoor
