/-
  The contract of the laws' awake: it is true. No conditions.
-/
import Derived.Test.YtaihgoohmcipkaaCorExS
import Derived.BigQuiet
import Derived.Deep.QuietTactic
namespace Go.Proofs.Ytaihgoohmcipkaa
set_option linter.unusedSimpArgs false
set_option linter.unusedVariables false
open Go.RowKit Utf
open Feat (Bs)

theorem sl_blk {w : World} {g z n : Nat} {T : TypeId} {cs : Array Value} {xs : List Value} (h : Blk w g T cs) (hx : cs = xs.toArray) (hl : xs.length = n * z) : Sl w w.heap.size z (some ⟨g, 0, none⟩) n xs := by
  subst hx
  refine ⟨hl, fun _ => ⟨g, 0, rfl, h.lt, fun j u hj => ?_⟩⟩
  rw [h.cell, Nat.zero_add]
  simpa using hj
def awC (b e : Int) : Cor.C := ⟨[([119, 111, 114, 100], false)], [[[97]], [[98]], [[99]]], [⟨[120], 0, 2, []⟩, ⟨[121], 2, 3, []⟩], [⟨[115], b, e, []⟩], [], [], []⟩
abbrev awH (n : Nat) : CH := ⟨⟨some ⟨n, 0, none⟩, 1, 1⟩, ⟨some ⟨n + 4, 0, none⟩, 3, 3⟩, ⟨some ⟨n + 5, 0, none⟩, 2, 2⟩, ⟨some ⟨n + 6, 0, none⟩, 1, 1⟩, ⟨none, 0, 0⟩, ⟨none, 0, 0⟩, ⟨none, 0, 0⟩⟩
structure AwB (w : World) (n : Nat) (b e : Int) : Prop where
  a : Blk w n 62 #[str [119, 111, 114, 100], .bool false]
  s1 : Blk w (n + 1) 9 #[str [97]]
  s2 : Blk w (n + 2) 9 #[str [98]]
  s3 : Blk w (n + 3) 9 #[str [99]]
  t : Blk w (n + 4) 28 #[.slice (some ⟨n + 1, 0, none⟩) 1 1, .slice (some ⟨n + 2, 0, none⟩) 1 1, .slice (some ⟨n + 3, 0, none⟩) 1 1]
  x : Blk w (n + 5) 64 #[str [120], .int .i64 0, .int .i64 2, .slice none 0 0, str [121], .int .i64 2, .int .i64 3, .slice none 0 0]
  r : Blk w (n + 6) 39 #[str [115], .int .i64 b, .int .i64 e, .slice none 0 0]
  c : Blk w (n + 7) 30 (awH n).cs
theorem AwB.below {w w' : World} {n : Nat} {b e : Int} (h : AwB w n b e) (hb : Below w.heap.size w w') : AwB w' n b e :=
  ⟨h.a.below hb, h.s1.below hb, h.s2.below hb, h.s3.below hb, h.t.below hb, h.x.below hb, h.r.below hb, h.c.below hb⟩
theorem AwB.set4 {w : World} {n : Nat} {b e b' e' : Int} (h : AwB w n b e) :
    AwB ((((w.setCell ⟨n + 6, 0, none⟩ (str [115])).setCell ⟨n + 6, 1, none⟩ (.int .i64 b')).setCell ⟨n + 6, 2, none⟩ (.int .i64 e')).setCell ⟨n + 6, 3, none⟩ (.slice none 0 0)) n b' e' := by
  have o : ∀ {g : Nat} {T : TypeId} {cs : Array Value}, Blk w g T cs → g ≠ n + 6 → Blk ((((w.setCell ⟨n + 6, 0, none⟩ (str [115])).setCell ⟨n + 6, 1, none⟩ (.int .i64 b')).setCell ⟨n + 6, 2, none⟩ (.int .i64 e')).setCell ⟨n + 6, 3, none⟩ (.slice none 0 0)) g T cs := fun hb hg =>
    (((hb.other (p := ⟨n + 6, 0, none⟩) (fun e => hg e.symm) _).other (p := ⟨n + 6, 1, none⟩) (fun e => hg e.symm) _).other (p := ⟨n + 6, 2, none⟩) (fun e => hg e.symm) _).other (p := ⟨n + 6, 3, none⟩) (fun e => hg e.symm) _
  exact ⟨o h.a (by omega), o h.s1 (by omega), o h.s2 (by omega), o h.s3 (by omega), o h.t (by omega), o h.x (by omega), (((h.r.set_ 0 _).set_ 1 _).set_ 2 _).set_ 3 _, o h.c (by omega)⟩
theorem keys_nil (w : World) (B : Nat) : Keys w B ⟨none, 0, 0⟩ [] := ⟨⟨Nat.le_refl _, Nat.zero_le _⟩, ⟨by simp, fun h => by cases h⟩, fun _ h => by cases h⟩
theorem words_one {w : World} {g : Nat} {s : Bs} (h : Blk w g 9 #[str s]) (hs : Len s) : Words w w.heap.size ⟨some ⟨g, 0, none⟩, 1, 1⟩ [s] :=
  ⟨⟨Nat.le_refl _, by show 1 ≤ _; omega⟩, sl_blk (xs := strs [s]) h rfl rfl, fun x hx => by simp at hx; subst hx; exact hs⟩
theorem AwB.reads {w : World} {n : Nat} {b e : Int} (h : AwB w n b e) (hb : Rng b) (he : Rng e) : Reads w w.heap.size (awH n) (awC b e) := by
  have f : ∀ k : Nat, k ≤ 100 → ∀ A : Option Addr, Fit ⟨A, k, k⟩ := fun k hk A => ⟨Nat.le_refl _, by show k ≤ _; omega⟩
  have l1 : ∀ x : UInt8, Len [x] := fun x => by unfold Len; simp
  refine ⟨⟨f 1 (by omega) _, sl_blk h.a rfl rfl, fun a ha => ?_⟩, ⟨[([[97]], ⟨some ⟨n + 1, 0, none⟩, 1, 1⟩), ([[98]], ⟨some ⟨n + 2, 0, none⟩, 1, 1⟩), ([[99]], ⟨some ⟨n + 3, 0, none⟩, 1, 1⟩)], rfl, f 3 (by omega) _, sl_blk h.t rfl rfl, fun a ha => ?_⟩,
    ⟨[(⟨[120], 0, 2, []⟩, ⟨none, 0, 0⟩), (⟨[121], 2, 3, []⟩, ⟨none, 0, 0⟩)], rfl, f 2 (by omega) _, sl_blk h.x rfl rfl, fun a ha => ?_⟩,
    ⟨[(⟨[115], b, e, []⟩, ⟨none, 0, 0⟩)], rfl, f 1 (by omega) _, sl_blk h.r rfl rfl, fun a ha => ?_⟩, ⟨f 0 (by omega) _, ⟨by simp [awC], fun h => by cases h⟩, fun _ h => by cases h⟩, ⟨f 0 (by omega) _, ⟨by simp [awC, ints], fun h => by cases h⟩, fun _ h => by cases h⟩, ⟨f 0 (by omega) _, ⟨by simp [awC, strs], fun h => by cases h⟩, fun _ h => by cases h⟩⟩
  · simp [awC] at ha; subst ha; show Len [119, 111, 114, 100]; unfold Len; simp
  · simp at ha
    rcases ha with rfl | rfl | rfl
    · exact words_one h.s1 (l1 _)
    · exact words_one h.s2 (l1 _)
    · exact words_one h.s3 (l1 _)
  · simp at ha
    rcases ha with rfl | rfl
    · exact ⟨l1 _, ⟨by decide, by decide⟩, ⟨by decide, by decide⟩, keys_nil _ _⟩
    · exact ⟨l1 _, ⟨by decide, by decide⟩, ⟨by decide, by decide⟩, keys_nil _ _⟩
  · simp at ha
    subst ha
    exact ⟨l1 _, hb, he, keys_nil _ _⟩
theorem aw_no : ∀ t, (awC 0 2).texts[(1 : Int).toNat]? = some t → ∀ x ∈ (awC 0 2).regs, Cor.inR t.b t.e x = false := by
  intro t ht x hx
  have e : (1 : Int).toNat = 1 := rfl
  rw [e] at ht
  simp [awC] at ht hx
  subst ht hx
  rfl
theorem check_aw1 : Cor.check (awC 1 3) = (4, 0, 8) := by kernel_rfl
theorem check_aw2 : Cor.check (awC 0 2) = (0, 0, 0) := by kernel_rfl
theorem ext_aw : (Cor.ext (awC 0 2) 1).2 = 0 ∧ (Cor.ext (awC 0 2) 1).1.toks.length = 1 ∧ (Cor.ext (awC 0 2) 1).1.regs.length = 0 := by
  refine ⟨by kernel_rfl, by kernel_rfl, by kernel_rfl⟩

set_option maxRecDepth 100000 in
set_option maxHeartbeats 4000000 in
theorem awake_any (w : World) : Calls Try.prog 17 #[] w (Kept (.bool true) w) := by
  have hB0 : Below w.heap.size w ((((((((w.alloc (.cells #[str [119, 111, 114, 100], .bool false] 62)).alloc (.cells #[str [97]] 9)).alloc (.cells #[str [98]] 9)).alloc (.cells #[str [99]] 9)).alloc (.cells #[.slice (some ⟨w.heap.size + 1, 0, none⟩) 1 1, .slice (some ⟨w.heap.size + 1 + 1, 0, none⟩) 1 1, .slice (some ⟨w.heap.size + 1 + 1 + 1, 0, none⟩) 1 1] 28)).alloc (.cells #[str [120], .int .i64 0, .int .i64 2, .slice none 0 0, str [121], .int .i64 2, .int .i64 3, .slice none 0 0] 64)).alloc (.cells #[str [115], .int .i64 1, .int .i64 3, .slice none 0 0] 39)).alloc (.cells #[.slice (some ⟨w.heap.size, 0, none⟩) 1 1, .slice (some ⟨w.heap.size + 1 + 1 + 1 + 1, 0, none⟩) 3 3, .slice (some ⟨w.heap.size + 1 + 1 + 1 + 1 + 1, 0, none⟩) 2 2, .slice (some ⟨w.heap.size + 1 + 1 + 1 + 1 + 1 + 1, 0, none⟩) 1 1, .slice none 0 0, .slice none 0 0, .slice none 0 0] 30)) := ((((((((Below.refl w.heap.size w).alloc (Nat.le_refl _) _).alloc (by simp) _).alloc (by simp; omega) _).alloc (by simp; omega) _).alloc (by simp; omega) _).alloc (by simp; omega) _).alloc (by simp; omega) _).alloc (by simp; omega) _
  have e0 := Blk.new w 62 #[str [119, 111, 114, 100], .bool false]
  have e1 := Blk.new (w.alloc (.cells #[str [119, 111, 114, 100], .bool false] 62)) 9 #[str [97]]
  simp only [World.size_alloc] at e1
  have e2 := Blk.new ((w.alloc (.cells #[str [119, 111, 114, 100], .bool false] 62)).alloc (.cells #[str [97]] 9)) 9 #[str [98]]
  simp only [World.size_alloc] at e2
  have e3 := Blk.new (((w.alloc (.cells #[str [119, 111, 114, 100], .bool false] 62)).alloc (.cells #[str [97]] 9)).alloc (.cells #[str [98]] 9)) 9 #[str [99]]
  simp only [World.size_alloc] at e3
  have e4 := Blk.new ((((w.alloc (.cells #[str [119, 111, 114, 100], .bool false] 62)).alloc (.cells #[str [97]] 9)).alloc (.cells #[str [98]] 9)).alloc (.cells #[str [99]] 9)) 28 #[.slice (some ⟨w.heap.size + 1, 0, none⟩) 1 1, .slice (some ⟨w.heap.size + 1 + 1, 0, none⟩) 1 1, .slice (some ⟨w.heap.size + 1 + 1 + 1, 0, none⟩) 1 1]
  simp only [World.size_alloc] at e4
  have e5 := Blk.new (((((w.alloc (.cells #[str [119, 111, 114, 100], .bool false] 62)).alloc (.cells #[str [97]] 9)).alloc (.cells #[str [98]] 9)).alloc (.cells #[str [99]] 9)).alloc (.cells #[.slice (some ⟨w.heap.size + 1, 0, none⟩) 1 1, .slice (some ⟨w.heap.size + 1 + 1, 0, none⟩) 1 1, .slice (some ⟨w.heap.size + 1 + 1 + 1, 0, none⟩) 1 1] 28)) 64 #[str [120], .int .i64 0, .int .i64 2, .slice none 0 0, str [121], .int .i64 2, .int .i64 3, .slice none 0 0]
  simp only [World.size_alloc] at e5
  have e6 := Blk.new ((((((w.alloc (.cells #[str [119, 111, 114, 100], .bool false] 62)).alloc (.cells #[str [97]] 9)).alloc (.cells #[str [98]] 9)).alloc (.cells #[str [99]] 9)).alloc (.cells #[.slice (some ⟨w.heap.size + 1, 0, none⟩) 1 1, .slice (some ⟨w.heap.size + 1 + 1, 0, none⟩) 1 1, .slice (some ⟨w.heap.size + 1 + 1 + 1, 0, none⟩) 1 1] 28)).alloc (.cells #[str [120], .int .i64 0, .int .i64 2, .slice none 0 0, str [121], .int .i64 2, .int .i64 3, .slice none 0 0] 64)) 39 #[str [115], .int .i64 1, .int .i64 3, .slice none 0 0]
  simp only [World.size_alloc] at e6
  have e7 := Blk.new (((((((w.alloc (.cells #[str [119, 111, 114, 100], .bool false] 62)).alloc (.cells #[str [97]] 9)).alloc (.cells #[str [98]] 9)).alloc (.cells #[str [99]] 9)).alloc (.cells #[.slice (some ⟨w.heap.size + 1, 0, none⟩) 1 1, .slice (some ⟨w.heap.size + 1 + 1, 0, none⟩) 1 1, .slice (some ⟨w.heap.size + 1 + 1 + 1, 0, none⟩) 1 1] 28)).alloc (.cells #[str [120], .int .i64 0, .int .i64 2, .slice none 0 0, str [121], .int .i64 2, .int .i64 3, .slice none 0 0] 64)).alloc (.cells #[str [115], .int .i64 1, .int .i64 3, .slice none 0 0] 39)) 30 #[.slice (some ⟨w.heap.size, 0, none⟩) 1 1, .slice (some ⟨w.heap.size + 1 + 1 + 1 + 1, 0, none⟩) 3 3, .slice (some ⟨w.heap.size + 1 + 1 + 1 + 1 + 1, 0, none⟩) 2 2, .slice (some ⟨w.heap.size + 1 + 1 + 1 + 1 + 1 + 1, 0, none⟩) 1 1, .slice none 0 0, .slice none 0 0, .slice none 0 0]
  simp only [World.size_alloc] at e7
  have E8 : AwB ((((((((w.alloc (.cells #[str [119, 111, 114, 100], .bool false] 62)).alloc (.cells #[str [97]] 9)).alloc (.cells #[str [98]] 9)).alloc (.cells #[str [99]] 9)).alloc (.cells #[.slice (some ⟨w.heap.size + 1, 0, none⟩) 1 1, .slice (some ⟨w.heap.size + 1 + 1, 0, none⟩) 1 1, .slice (some ⟨w.heap.size + 1 + 1 + 1, 0, none⟩) 1 1] 28)).alloc (.cells #[str [120], .int .i64 0, .int .i64 2, .slice none 0 0, str [121], .int .i64 2, .int .i64 3, .slice none 0 0] 64)).alloc (.cells #[str [115], .int .i64 1, .int .i64 3, .slice none 0 0] 39)).alloc (.cells #[.slice (some ⟨w.heap.size, 0, none⟩) 1 1, .slice (some ⟨w.heap.size + 1 + 1 + 1 + 1, 0, none⟩) 3 3, .slice (some ⟨w.heap.size + 1 + 1 + 1 + 1 + 1, 0, none⟩) 2 2, .slice (some ⟨w.heap.size + 1 + 1 + 1 + 1 + 1 + 1, 0, none⟩) 1 1, .slice none 0 0, .slice none 0 0, .slice none 0 0] 30)) w.heap.size 1 3 :=
    ⟨((((((e0.alloc _).alloc _).alloc _).alloc _).alloc _).alloc _).alloc _, (((((e1.alloc _).alloc _).alloc _).alloc _).alloc _).alloc _, ((((e2.alloc _).alloc _).alloc _).alloc _).alloc _, (((e3.alloc _).alloc _).alloc _).alloc _, ((e4.alloc _).alloc _).alloc _, (e5.alloc _).alloc _, e6.alloc _, e7⟩
  clear e0 e1 e2 e3 e4 e5 e6 e7
  have r8 := E8.reads ⟨by decide, by decide⟩ ⟨by decide, by decide⟩
  have HC1 := Lib.hid (fun (W : World) (h : Reads W W.heap.size (awH w.heap.size) (awC 1 3)) => validate_any (awH w.heap.size) (awC 1 3) W h)
  have HC2 := Lib.hid (fun (W : World) (h : Reads W W.heap.size (awH w.heap.size) (awC 0 2)) => validate_any (awH w.heap.size) (awC 0 2) W h)
  have HC3 := Lib.hid (fun (W : World) (h : Reads W W.heap.size (awH w.heap.size) (awC 0 2)) => extract_few (awH w.heap.size) (awC 0 2) 1 W ⟨by decide, by decide⟩ rfl rfl aw_no h)
  go_enter Try.func17, Try.ntmps17
  go_wp2_with fail
  refine (HC1.out _ r8).mono ?_
  rintro e' w1 ⟨he, hb1⟩
  rw [check_aw1] at he
  subst he
  have hB1 := hB0.trans (hb1.mono hB0.size)
  have E9 := E8.below hb1
  clear r8 E8 hb1 hB0
  have x0 : w1.cell? ⟨w.heap.size + 7, 0, none⟩ = some (.slice (some ⟨w.heap.size, 0, none⟩) 1 1) := E9.c.cell 0
  have x1 : w1.cell? ⟨w.heap.size + 7, 1, none⟩ = some (.slice (some ⟨w.heap.size + 4, 0, none⟩) 3 3) := E9.c.cell 1
  have x2 : w1.cell? ⟨w.heap.size + 7, 2, none⟩ = some (.slice (some ⟨w.heap.size + 5, 0, none⟩) 2 2) := E9.c.cell 2
  have x3 : w1.cell? ⟨w.heap.size + 7, 3, none⟩ = some (.slice (some ⟨w.heap.size + 6, 0, none⟩) 1 1) := E9.c.cell 3
  have x4 : w1.cell? ⟨w.heap.size + 7, 4, none⟩ = some (.slice none 0 0) := E9.c.cell 4
  have x5 : w1.cell? ⟨w.heap.size + 7, 5, none⟩ = some (.slice none 0 0) := E9.c.cell 5
  have x6 : w1.cell? ⟨w.heap.size + 7, 6, none⟩ = some (.slice none 0 0) := E9.c.cell 6
  have y0 := E9.r.cell 0
  have y1 := E9.r.cell 1
  have y2 := E9.r.cell 2
  have y3 := E9.r.cell 3
  have z0 := E9.r.free 0
  have z1 := E9.r.free 1
  have z2 := E9.r.free 2
  have z3 := E9.r.free 3
  have E10 := E9.set4 (b' := 0) (e' := 2)
  have r10 := E10.reads ⟨by decide, by decide⟩ ⟨by decide, by decide⟩
  have hB2 := (((hB1.setCell (p := ⟨w.heap.size + 6, 0, none⟩) (by show _ ≤ w.heap.size + 6; omega) (str [115])).setCell (p := ⟨w.heap.size + 6, 1, none⟩) (by show _ ≤ w.heap.size + 6; omega) (.int .i64 0)).setCell (p := ⟨w.heap.size + 6, 2, none⟩) (by show _ ≤ w.heap.size + 6; omega) (.int .i64 2)).setCell (p := ⟨w.heap.size + 6, 3, none⟩) (by show _ ≤ w.heap.size + 6; omega) (.slice none 0 0)
  go_wp2_with fail
  refine (HC2.out _ r10).mono ?_
  rintro e' w2 ⟨he, hb2⟩
  rw [check_aw2] at he
  subst he
  have hB3 := hB2.trans (hb2.mono hB2.size)
  have E11 := E10.below hb2
  have r11 := E11.reads ⟨by decide, by decide⟩ ⟨by decide, by decide⟩
  clear x0 x1 x2 x3 x4 x5 x6 y0 y1 y2 y3 z0 z1 z2 z3 hb2 E10 r10 hB2 E9 hB1
  have x0 : w2.cell? ⟨w.heap.size + 7, 0, none⟩ = some (.slice (some ⟨w.heap.size, 0, none⟩) 1 1) := E11.c.cell 0
  have x1 : w2.cell? ⟨w.heap.size + 7, 1, none⟩ = some (.slice (some ⟨w.heap.size + 4, 0, none⟩) 3 3) := E11.c.cell 1
  have x2 : w2.cell? ⟨w.heap.size + 7, 2, none⟩ = some (.slice (some ⟨w.heap.size + 5, 0, none⟩) 2 2) := E11.c.cell 2
  have x3 : w2.cell? ⟨w.heap.size + 7, 3, none⟩ = some (.slice (some ⟨w.heap.size + 6, 0, none⟩) 1 1) := E11.c.cell 3
  have x4 : w2.cell? ⟨w.heap.size + 7, 4, none⟩ = some (.slice none 0 0) := E11.c.cell 4
  have x5 : w2.cell? ⟨w.heap.size + 7, 5, none⟩ = some (.slice none 0 0) := E11.c.cell 5
  have x6 : w2.cell? ⟨w.heap.size + 7, 6, none⟩ = some (.slice none 0 0) := E11.c.cell 6
  go_wp2_with fail
  have h3 := HC3.out _ r11
  have ee := ext_aw
  obtain ⟨⟨d, er⟩, hd⟩ : ∃ r, Cor.ext (awC 0 2) 1 = r := ⟨_, rfl⟩
  rw [hd] at h3 ee
  obtain ⟨ee1, ee2, ee3⟩ := ee
  obtain rfl : er = 0 := ee1
  refine h3.mono ?_
  rintro e' w3 ⟨⟨⟨Aa, na, ca⟩, ⟨At, nt, ct⟩, ⟨Ax, nx, cx⟩, ⟨Ar, nr, cr⟩, ⟨An, nn, cn⟩, ⟨Ah, nh, ch⟩, ⟨Al, nl, cl⟩⟩, rfl, hr3, hb3⟩
  have hB4 := hB3.trans (hb3.mono hB3.size)
  have l1 : d.toks.length = nt := hr3.t.len
  have l2 : d.regs.length = nr := hr3.r.len
  obtain rfl : nt = 1 := by rw [← l1]; exact ee2
  obtain rfl : nr = 0 := by rw [← l2]; exact ee3
  have hB5 := hB4.alloc hB4.size (.cells #[.slice Aa na ca, .slice At 1 ct, .slice Ax nx cx, .slice Ar 0 cr, .slice An nn cn, .slice Ah nh ch, .slice Al nl cl] 30)
  clear l1 l2 ee2 ee3 hr3 hb3 r11 E11 h3 hd HC1 HC2 HC3 hB3 hB4 x0 x1 x2 x3 x4 x5 x6
  go_wp2
  go_ret
  exact ⟨rfl, hB5⟩
end Go.Proofs.Ytaihgoohmcipkaa
