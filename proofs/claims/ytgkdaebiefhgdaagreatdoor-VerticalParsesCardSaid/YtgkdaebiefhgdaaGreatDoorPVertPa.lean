/-
  Several texts of this seat, one behind the other: PVertPar, PVertAwk. No conditions but those of each.
-/
import Derived.Test.YtgkdaebiefhgdaaGreatDoorPVertLn
import Derived.Test.YtgkdaebiefhgdaaGreatDoorPVertVc
import Derived.Test.YtgkdaebiefhgdaaGreatDoorPDepAll
import Derived.Test.YtgkdaebiefhgdaaGreatDoorPCorSort
import Derived.RegionTactic
import Derived.BigRegion
import Derived.Deep.RegionLaw
/-! ## PVertPar -/
namespace Go.Proofs.YtgkdaebiefhgdaaGreatDoor
set_option linter.unusedSimpArgs false
set_option linter.unusedVariables false
open Go.RowKit
open Feat (Bs)
open Tagp (KV)
open Vert (Rd lineV lineOf parseV readV start)
attribute [local go_sem] byte_mk ByteArray.extract_mk
section
variable {w a : World} {B g h : Nat} {t : TypeId}
theorem other7V {cs : Array Value} (k : Blk w h t cs) (hne : g ≠ h) (v0 v1 v2 v3 v4 v5 v6 : Value) :
  Blk (((((((w.setCell ⟨g, 0, none⟩ v0).setCell ⟨g, 1, none⟩ v1).setCell ⟨g, 2, none⟩ v2).setCell ⟨g, 3, none⟩ v3).setCell ⟨g, 4, none⟩ v4).setCell ⟨g, 5, none⟩ v5).setCell ⟨g, 6, none⟩ v6) h t cs :=
 ((((((k.other (p := ⟨g, 0, none⟩) hne v0).other (p := ⟨g, 1, none⟩) hne v1).other (p := ⟨g, 2, none⟩) hne v2).other (p := ⟨g, 3, none⟩) hne v3).other (p := ⟨g, 4, none⟩) hne v4).other (p := ⟨g, 5, none⟩) hne v5).other (p := ⟨g, 6, none⟩) hne v6
theorem other2V {cs : Array Value} (k : Blk w h t cs) (hne : g ≠ h) (v0 v1 : Value) : Blk ((w.setCell ⟨g, 0, none⟩ v0).setCell ⟨g, 1, none⟩ v1) h t cs :=
 (k.other (p := ⟨g, 0, none⟩) hne v0).other (p := ⟨g, 1, none⟩) hne v1
theorem set7V {a0 a1 a2 a3 a4 a5 a6 : Value} (k : Blk w g t #[a0, a1, a2, a3, a4, a5, a6]) (v0 v1 v2 v3 v4 v5 v6 : Value) :
  Blk (((((((w.setCell ⟨g, 0, none⟩ v0).setCell ⟨g, 1, none⟩ v1).setCell ⟨g, 2, none⟩ v2).setCell ⟨g, 3, none⟩ v3).setCell ⟨g, 4, none⟩ v4).setCell ⟨g, 5, none⟩ v5).setCell ⟨g, 6, none⟩ v6) g t #[v0, v1, v2, v3, v4, v5, v6] :=
 by
 have q := ((((((k.set_ 0 v0).set_ 1 v1).set_ 2 v2).set_ 3 v3).set_ 4 v4).set_ 5 v5).set_ 6 v6
 simp only [List.setIfInBounds_toArray, List.set_cons_zero, List.set_cons_succ] at q
 exact q
theorem set2V {a0 a1 : Value} (k : Blk w g t #[a0, a1]) (v0 v1 : Value) : Blk ((w.setCell ⟨g, 0, none⟩ v0).setCell ⟨g, 1, none⟩ v1) g t #[v0, v1] := (k.set_ 0 v0).set_ 1 v1
theorem below7V (k : Below B a w) (hg : B ≤ g) (v0 v1 v2 v3 v4 v5 v6 : Value) :
  Below B a (((((((w.setCell ⟨g, 0, none⟩ v0).setCell ⟨g, 1, none⟩ v1).setCell ⟨g, 2, none⟩ v2).setCell ⟨g, 3, none⟩ v3).setCell ⟨g, 4, none⟩ v4).setCell ⟨g, 5, none⟩ v5).setCell ⟨g, 6, none⟩ v6) :=
 ((((((k.setCell (p := ⟨g, 0, none⟩) hg v0).setCell (p := ⟨g, 1, none⟩) hg v1).setCell (p := ⟨g, 2, none⟩) hg v2).setCell (p := ⟨g, 3, none⟩) hg v3).setCell (p := ⟨g, 4, none⟩) hg v4).setCell (p := ⟨g, 5, none⟩) hg v5).setCell (p := ⟨g, 6, none⟩) hg v6
theorem below2V (k : Below B a w) (hg : B ≤ g) (v0 v1 : Value) : Below B a ((w.setCell ⟨g, 0, none⟩ v0).setCell ⟨g, 1, none⟩ v1) :=
 (k.setCell (p := ⟨g, 0, none⟩) hg v0).setCell (p := ⟨g, 1, none⟩) hg v1
theorem off7V {cs : Array Value} (k : Blk w g t cs) (v0 v1 v2 v3 v4 v5 v6 : Value) :
  Off t w (((((((w.setCell ⟨g, 0, none⟩ v0).setCell ⟨g, 1, none⟩ v1).setCell ⟨g, 2, none⟩ v2).setCell ⟨g, 3, none⟩ v3).setCell ⟨g, 4, none⟩ v4).setCell ⟨g, 5, none⟩ v5).setCell ⟨g, 6, none⟩ v6) :=
 ((((((Off.set_ k 0 v0).trans (Off.set_ (k.set_ 0 v0) 1 v1)).trans (Off.set_ ((k.set_ 0 v0).set_ 1 v1) 2 v2)).trans (Off.set_ (((k.set_ 0 v0).set_ 1 v1).set_ 2 v2) 3 v3)).trans (Off.set_ ((((k.set_ 0 v0).set_ 1 v1).set_ 2 v2).set_ 3 v3) 4 v4)).trans (Off.set_ (((((k.set_ 0 v0).set_ 1 v1).set_ 2 v2).set_ 3 v3).set_ 4 v4) 5 v5)).trans (Off.set_ ((((((k.set_ 0 v0).set_ 1 v1).set_ 2 v2).set_ 3 v3).set_ 4 v4).set_ 5 v5) 6 v6)
theorem off2V {cs : Array Value} (k : Blk w g t cs) (v0 v1 : Value) : Off t w ((w.setCell ⟨g, 0, none⟩ v0).setCell ⟨g, 1, none⟩ v1) := (Off.set_ k 0 v0).trans (Off.set_ (k.set_ 0 v0) 1 v1)
end
def posR (d : Bs) : Option Nat → Nat × Nat
 | none => (0, 0)
 | some k => Pos.posOf d k
def VRead (d : Bs) (l : List At) (w : World) (e : Ending) (w' : World) : Prop :=
 ∃ H : CH, e = .returned (.tuple #[H.v, .agg #[.int .i64 ((posR d (readV d l).2.1).1 : Nat), .int .i64 ((posR d (readV d l).2.1).2 : Nat)], .int .i64 ((readV d l).2.2 : Nat)]) ∧ Reads w' w'.heap.size H (readV d l).1 ∧ Below w.heap.size w w'
theorem vread_nil {d : Bs} {l : List At} {w w' : World} {e : Ending} {p : Option Nat} {k : Nat} {x y : Nat} (h : readV d l = (Cor.nil, p, k)) (hp : posR d p = (x, y)) (he : e = .returned (.tuple #[nilH.v, .agg #[.int .i64 (x : Nat), .int .i64 (y : Nat)], .int .i64 (k : Nat)])) (hb : Below w.heap.size w w') : VRead d l w e w' := by
 unfold VRead
 rw [h]
 dsimp only
 rw [hp]
 exact ⟨nilH, he, reads_nil _ _, hb⟩
theorem results_parseV {w : World} {g : Nat} {a0 a1 a2 a3 a4 a5 a6 b0 b1 e : Value} (tmps : Array Value) (h4 : tmps.getD 4 undef = .pointer (some ⟨g, 0, none⟩)) (h5 : tmps.getD 5 undef = .pointer (some ⟨g + 1, 0, none⟩)) (h6 : tmps.getD 6 undef = e)
  (hc : Blk w g 30 #[a0, a1, a2, a3, a4, a5, a6]) (hp : Blk w (g + 1) 32 #[b0, b1]) :
  (results Tryz.f9 tmps).run Tryz.prog w = .ok (.tuple #[.agg #[a0, a1, a2, a3, a4, a5, a6], .agg #[b0, b1], e]) w := by
 have hp4 : tmps[4]?.getD undef = .pointer (some ⟨g, 0, none⟩) := by simpa using h4
 have hp5 : tmps[5]?.getD undef = .pointer (some ⟨g + 1, 0, none⟩) := by simpa using h5
 have hp6 : tmps[6]?.getD undef = e := by simpa using h6
 have c0 := hc.cell 0
 have c1 := hc.cell 1
 have c2 := hc.cell 2
 have c3 := hc.cell 3
 have c4 := hc.cell 4
 have c5 := hc.cell 5
 have c6 := hc.cell 6
 have d0 := hp.cell 0
 have d1 := hp.cell 1
 simp only [List.getElem?_toArray, List.getElem?_cons_zero, List.getElem?_cons_succ] at c0 c1 c2 c3 c4 c5 c6 d0 d1
 simp [results, Tryz.f9, hp4, hp5, hp6, asAddr, c0, c1, c2, c3, c4, c5, c6, d0, d1, go_sem]
set_option maxRecDepth 100000 in
set_option maxHeartbeats 16000000 in
theorem vparse_any (A : Option Addr) (n c : Nat) (l : List At) (d : Bs) (m : Int) (w : World) (ha : Atts w w.heap.size ⟨A, n, c⟩ l) (hd : d.length ≤ 9223372036854775807) (hm : w.cell? ⟨0, 0, none⟩ = some (.int .i64 m)) :
  Calls Tryz.prog 9 #[str d, .slice A n c] w (VRead d l w) := by
 have hw0 : 0 < w.heap.size := by
  rcases Nat.eq_zero_or_pos w.heap.size with h | h
  ·have : w.heap[0]? = none := Array.getElem?_eq_none (by omega)
   simp [World.cell?, this] at hm
  ·exact h
 have hb2 : Below w.heap.size w ((w.alloc (.cells #[.slice none 0 0, .slice none 0 0, .slice none 0 0, .slice none 0 0, .slice none 0 0, .slice none 0 0, .slice none 0 0] 30)).alloc (.cells #[.int .i64 0, .int .i64 0] 32)) := ((Below.refl _ _).alloc (Nat.le_refl _) _).alloc (by simp) _
 have HB2 := Lib.hid hb2
 have HC2 : Hid (Blk ((w.alloc (.cells #[.slice none 0 0, .slice none 0 0, .slice none 0 0, .slice none 0 0, .slice none 0 0, .slice none 0 0, .slice none 0 0] 30)).alloc (.cells #[.int .i64 0, .int .i64 0] 32)) w.heap.size 30 #[.slice none 0 0, .slice none 0 0, .slice none 0 0, .slice none 0 0, .slice none 0 0, .slice none 0 0, .slice none 0 0]) := (Blk.new w _ _).alloc _
 have hp2 := Blk.new (w.alloc (.cells #[.slice none 0 0, .slice none 0 0, .slice none 0 0, .slice none 0 0, .slice none 0 0, .slice none 0 0, .slice none 0 0] 30)) 32 #[.int .i64 0, .int .i64 0]
 rw [World.size_alloc] at hp2
 have HP2 := Lib.hid hp2
 have HA2 : Hid (Atts ((w.alloc (.cells #[.slice none 0 0, .slice none 0 0, .slice none 0 0, .slice none 0 0, .slice none 0 0, .slice none 0 0, .slice none 0 0] 30)).alloc (.cells #[.int .i64 0, .int .i64 0] 32)) w.heap.size ⟨A, n, c⟩ l) := ha.under hb2
 have HC := Lib.hid (checkAttributes_any A n c l ((w.alloc (.cells #[.slice none 0 0, .slice none 0 0, .slice none 0 0, .slice none 0 0, .slice none 0 0, .slice none 0 0, .slice none 0 0] 30)).alloc (.cells #[.int .i64 0, .int .i64 0] 32)) (HA2.out.up hb2.size))
 have hln : l.length = n := ha.len
 have hnc := ha.fit
 clear hb2 hp2 ha
 by_cases hat : (Cor.atErr l).2 = 0
 ·have HD : Hid (decide ((Cor.atErr l).2 = 0) = true) := by show _ = _; simp [hat]
  by_cases hbig : 1048576 < d.length
  ·have HF : Hid (readV d l = (Cor.nil, none, 2)) := by show _ = _; unfold readV; rw [if_neg (by simp [hat]), if_pos hbig]
   have hbg : (1048576 : Int) < (d.length : Int) := by omega
   clear hat
   go_enter Tryz.func9, Tryz.ntmps9
   go_wp2_with fail
   refine HC.out.mono ?_
   rintro en w3 ⟨rfl, hb3⟩
   rw [HD.out]
   have C3 := HC2.out.below hb3
   have P3 := HP2.out.below hb3
   have B3 : Below w.heap.size w w3 := HB2.out.trans (hb3.mono HB2.out.size)
   have a0 : _ = some (Value.slice none 0 0) := C3.cell 0
   have z0 := C3.free 0
   have a1 : _ = some (Value.slice none 0 0) := C3.cell 1
   have z1 := C3.free 1
   have a2 : _ = some (Value.slice none 0 0) := C3.cell 2
   have z2 := C3.free 2
   have a3 : _ = some (Value.slice none 0 0) := C3.cell 3
   have z3 := C3.free 3
   have a4 : _ = some (Value.slice none 0 0) := C3.cell 4
   have z4 := C3.free 4
   have a5 : _ = some (Value.slice none 0 0) := C3.cell 5
   have z5 := C3.free 5
   have a6 : _ = some (Value.slice none 0 0) := C3.cell 6
   have z6 := C3.free 6
   have p0 : _ = some (Value.int .i64 0) := P3.cell 0
   have y0 := P3.free 0
   have p1 : _ = some (Value.int .i64 0) := P3.cell 1
   have y1 := P3.free 1
   have X7 : Hid (Blk _ w.heap.size 30 #[.slice none 0 0, .slice none 0 0, .slice none 0 0, .slice none 0 0, .slice none 0 0, .slice none 0 0, .slice none 0 0]) := other2V (g := w.heap.size + 1) (set7V C3 (.slice none 0 0) (.slice none 0 0) (.slice none 0 0) (.slice none 0 0) (.slice none 0 0) (.slice none 0 0) (.slice none 0 0)) (by omega) (.int .i64 0) (.int .i64 0)
   have Y7 : Hid (Blk _ (w.heap.size + 1) 32 #[.int .i64 0, .int .i64 0]) := set2V (other7V (g := w.heap.size) P3 (by omega) (.slice none 0 0) (.slice none 0 0) (.slice none 0 0) (.slice none 0 0) (.slice none 0 0) (.slice none 0 0) (.slice none 0 0)) (.int .i64 0) (.int .i64 0)
   have Z7 := Lib.hid (below2V (g := w.heap.size + 1) (below7V (g := w.heap.size) B3 (Nat.le_refl _) (.slice none 0 0) (.slice none 0 0) (.slice none 0 0) (.slice none 0 0) (.slice none 0 0) (.slice none 0 0) (.slice none 0 0)) (Nat.le_succ _) (.int .i64 0) (.int .i64 0))
   go_wp2
   refine bodyPost_ret (results_parseV _ rfl rfl rfl X7.out Y7.out) rfl ?_
   exact vread_nil HF.out rfl rfl Z7.out
  ·have hbg : ¬ (1048576 : Int) < (d.length : Int) := by omega
   have hl8 : n ≤ 8 := by
    unfold Cor.atErr at hat
    split at hat
    ·cases hat
    ·split at hat
     ·cases hat
     ·omega
   obtain ⟨i0, hi0, hz0, hz1, hz2⟩ := info_parts info_att6
   have HAT := Lib.hid hat
   clear hat
   go_enter Tryz.func9, Tryz.ntmps9
   go_wp2_with fail
   refine HC.out.mono ?_
   rintro en w3 ⟨rfl, hb3⟩
   rw [HD.out]
   have C3 := HC2.out.below hb3
   have P3 := HP2.out.below hb3
   have B3 : Below w.heap.size w w3 := HB2.out.trans (hb3.mono HB2.out.size)

   have A3 := Lib.hid (HA2.out.under (hb3.mono HB2.out.size)).src
   have HFL : Hid ((l.flatMap atV).length = n * 2) := by show _ = _; rw [flat_len atV_len, hln]
   have H1 : Hid (∀ u ∈ l.flatMap atV, u.oneCell' = true) := atV_one l
   have HLEN : Hid (∀ a ∈ l, Len a.1) := HA2.out.2.2
   have HC3 := Lib.hid C3
   have HP3 := Lib.hid P3
   have HB3 := Lib.hid B3
   have hs3 : w.heap.size + 2 ≤ w3.heap.size := P3.lt
   clear C3 P3 B3 hb3 HC
   go_wp2_with (at_builtin; refine wpList_app _ rfl (.const (.slice none 0 0)) (.tmp 23) _ rfl (w.heap.size + 2) 73 i0 _ 2 24 Tryz.underlying22 hi0 hz0 hz1 hz2 rfl (by decide) _ 0 [] rfl (World.ownsRow_nil _ _ _ _) A n c (l.flatMap atV) rfl HFL.out A3.out H1.out (by unfold maxLen; omega) (by omega) hs3 ?_)
   intro v4 w4 own4 gr4 _
   obtain ⟨A4, c4, rfl, -, -⟩ := own_slc own4
   have hb34 : Below w3.heap.size w3 w4 := (Below.refl _ _).grown gr4 (Nat.le_refl _) (fun k hk => by cases hk)
   have o4 : w4.ownsRow (w.heap.size + 2) 73 2 (.slice A4 n c4) n (l.flatMap atV) := by simpa using own4
   have hs4 : w.heap.size + 2 ≤ w4.heap.size := Nat.le_trans hs3 hb34.size
   have HR4 : Hid (OwnR (w4.alloc (.cells #[.slice A4 n c4, .slice none 0 0, .slice none 0 0, .slice none 0 0, .slice none 0 0, .slice none 0 0, .slice none 0 0, .slice none 0 0, .bool false] 49)) (w.heap.size + 2) w4.heap.size ⟨⟨A4, n, c4⟩, ⟨none, 0, 0⟩, ⟨none, 0, 0⟩, ⟨none, 0, 0⟩, ⟨none, 0, 0⟩⟩ l Vert.start) :=
    ⟨Blk.new w4 _ _, hs4, ⟨own_below o4 ((Below.refl _ _).alloc (Nat.le_refl _) _), HLEN.out⟩, ⟨[], rfl, own_nil0 _ _ _ _, fun _ h => by cases h⟩, ⟨[], rfl, own_nil0 _ _ _ _, fun _ h => by cases h⟩, ⟨[], rfl, own_nil0 _ _ _ _, fun _ h => by cases h⟩, ⟨[], rfl, own_nil0 _ _ _ _, fun _ h => by cases h⟩, fun b hb => (by simp [Value.ownBlock] at hb), ⟨Nat.zero_le _, Nat.zero_le _, Nat.zero_le _, Nat.zero_le _, fun y hy => (by rcases hy with hy | hy <;> cases hy), fun h => (by cases h)⟩⟩
   have HC4 : Hid (Blk (w4.alloc (.cells #[.slice A4 n c4, .slice none 0 0, .slice none 0 0, .slice none 0 0, .slice none 0 0, .slice none 0 0, .slice none 0 0, .slice none 0 0, .bool false] 49)) w.heap.size 30 #[.slice none 0 0, .slice none 0 0, .slice none 0 0, .slice none 0 0, .slice none 0 0, .slice none 0 0, .slice none 0 0]) := (HC3.out.below hb34).alloc _
   have HP4 : Hid (Blk (w4.alloc (.cells #[.slice A4 n c4, .slice none 0 0, .slice none 0 0, .slice none 0 0, .slice none 0 0, .slice none 0 0, .slice none 0 0, .slice none 0 0, .bool false] 49)) (w.heap.size + 1) 32 #[.int .i64 0, .int .i64 0]) := (HP3.out.below hb34).alloc _
   have HB4 : Hid (Below w.heap.size w (w4.alloc (.cells #[.slice A4 n c4, .slice none 0 0, .slice none 0 0, .slice none 0 0, .slice none 0 0, .slice none 0 0, .slice none 0 0, .slice none 0 0, .bool false] 49))) := (HB3.out.trans (hb34.mono HB3.out.size)).alloc (by omega) _
   clear own4 gr4 hb34 o4 HC3 HP3 HB3 A3 HFL H1
   try simp only [Nat.zero_add]
   go_wp2
   go_loopw [8] (fun iv wr => ∃ (a f : Nat) (x : Rd) (h : RdH), iv = .int .i64 a ∧ a ≤ d.length + 1 ∧ Hid (d.length < f + a) ∧ Hid (parseV l (d.length + 1) 0 d Vert.start = parseV l f a (d.drop a) x) ∧ Hid (OwnR wr (w.heap.size + 2) w4.heap.size h l x) ∧ Blk wr w.heap.size 30 #[.slice none 0 0, .slice none 0 0, .slice none 0 0, .slice none 0 0, .slice none 0 0, .slice none 0 0, .slice none 0 0] ∧ Blk wr (w.heap.size + 1) 32 #[.int .i64 0, .int .i64 0] ∧ Below w.heap.size w wr) (fun iv _ => d.length + 1 - (intOf iv).toNat)
   case atStart => exact ⟨0, d.length + 1, Vert.start, _, rfl, by omega, by show _ < _; omega, by show _ = _; rw [List.drop_zero], HR4, HC4.out, HP4.out, HB4.out⟩
   case round =>
    obtain ⟨a, f, x, h, rfl, ha, hfu, hpar, hO, hC, hP, hB⟩ := hrel
    have hdl : d.length ≤ 1048576 := by omega
    by_cases hal : a < d.length
    ·obtain ⟨f, rfl⟩ : ∃ k, f = k + 1 := ⟨f - 1, by have := hfu.out; omega⟩
     obtain ⟨rest, hrest⟩ : ∃ rest, d.drop a = rest := ⟨_, rfl⟩
     have hrl : rest.length = d.length - a := by rw [← hrest]; simp
     have hrne : Hid (rest ≠ []) := by intro e; rw [e] at hrl; simp at hrl; omega
     have hs1 : ∀ W, (Instr.slice 9 (str d) (some (.int .i64 (a : Int))) none none).run Tryz.prog W = .ok (str rest) W := fun W => by rw [← hrest]; exact str_from 9 Tryz.underlying9 d a (by omega) W
     rw [hrest] at hpar
     have hsl : (lineOf rest).length ≤ rest.length := lineOf_le rest
     have HDR : Hid (d.drop (a + (lineOf rest).length + 1) = rest.drop ((lineOf rest).length + 1)) := by
      show _ = _
      rw [← hrest, List.drop_drop, Nat.add_assoc]
     have hi1 : (a : Int) < (d.length : Int) := by omega
     have HO := hO
     have HCC := Lib.hid hC
     have HPP := Lib.hid hP
     have HBB := Lib.hid hB
     clear hO hC hP hB hrest
     go_wp2_with fail
     refine (cut_any rest (by omega) _).mono ?_
     rintro en w' ⟨r, b, rfl, q, rfl⟩
     rw [show ln rest = lineOf rest from rfl]
     have HOQ : Hid (OwnR (wr.drewN q) (w.heap.size + 2) w4.heap.size h l x) := HO.out.drewN q
     have HCQ : Hid (Blk (wr.drewN q) w.heap.size 30 #[.slice none 0 0, .slice none 0 0, .slice none 0 0, .slice none 0 0, .slice none 0 0, .slice none 0 0, .slice none 0 0]) := HCC.out
     have HPQ : Hid (Blk (wr.drewN q) (w.heap.size + 1) 32 #[.int .i64 0, .int .i64 0]) := HPP.out
     have HBQ : Hid (Below w.heap.size w (wr.drewN q)) := below_drewN HBB.out q
     clear HO HCC HPP HBB hs1
     generalize wr.drewN q = wq at HOQ HCQ HPQ HBQ ⊢
     have HLN := Lib.hid (line_any (w.heap.size + 2) w4.heap.size h l x (lineOf rest) m wq HOQ.out (by omega) (by omega) ((HBQ.out.cell (p := ⟨0, 0, none⟩) hw0).trans hm))
     unfold Lines at HLN
     cases hlv : lineV l x (lineOf rest) with
     | error p =>
      obtain ⟨pa, pe⟩ := p
      have hpa : pa ≤ (lineOf rest).length := lineV_at hlv
      have hpe : pe ≠ 0 := lineV_ne hlv
      rw [hlv] at HLN
      dsimp only at HLN
      have HF : Hid (readV d l = (Cor.nil, some (a + pa), pe)) := by
       show _ = _
       unfold readV
       rw [if_neg (by simp [HAT.out]), if_neg (by omega), hpar.out, parseV, if_neg hrne.out, hlv]
      have e1 : ((pe : Int) != 0) = true := by rw [bne_iff_ne]; omega
      have hw1 : IntKind.i64.wrap ((a : Int) + (pa : Int)) = ((a + pa : Nat) : Int) := by rw [IntWalk.i64_in _ (by omega)]; omega
      clear hlv hpar hfu HOQ
      go_wp2_with fail
      refine HLN.out.mono ?_
      rintro en w5 ⟨hb5, -, rfl⟩
      have hz5 : w.heap.size + 2 ≤ w5.heap.size := Nat.le_trans HPQ.out.lt hb5.size
      have hCw : Blk (w5.alloc (.cells #[.int .i64 (pa : Nat), .int .i64 (pe : Nat)] 53)).drew w.heap.size 30 #[.slice none 0 0, .slice none 0 0, .slice none 0 0, .slice none 0 0, .slice none 0 0, .slice none 0 0, .slice none 0 0] := (Blk.alloc ((hb5.block _ (by omega)).trans HCQ.out) _).off (R := 4294967295) (Off.drew _) (by decide)
      have hPw : Blk (w5.alloc (.cells #[.int .i64 (pa : Nat), .int .i64 (pe : Nat)] 53)).drew (w.heap.size + 1) 32 #[.int .i64 0, .int .i64 0] := (Blk.alloc ((hb5.block _ (by omega)).trans HPQ.out) _).off (R := 4294967295) (Off.drew _) (by decide)
      have hFw : Blk (w5.alloc (.cells #[.int .i64 (pa : Nat), .int .i64 (pe : Nat)] 53)).drew w5.heap.size 53 #[.int .i64 (pa : Nat), .int .i64 (pe : Nat)] := (Blk.new w5 _ _).off (R := 4294967295) (Off.drew _) (by decide)
      have hBw : Below w.heap.size w (w5.alloc (.cells #[.int .i64 (pa : Nat), .int .i64 (pe : Nat)] 53)).drew := ((HBQ.out.trans (hb5.mono (by omega))).alloc (by omega) _).drew
      have HCW := Lib.hid hCw
      have HPW := Lib.hid hPw
      have HFW := Lib.hid hFw
      have HBW := Lib.hid hBw
      have HPO := Lib.hid (position_any d (a + pa) (by omega) (w5.alloc (.cells #[.int .i64 (pa : Nat), .int .i64 (pe : Nat)] 53)).drew)
      clear hCw hPw hFw hBw hb5
      go_wp2
      go_region_held3 (fun W => W.cell? ⟨w5.heap.size, 0, none⟩ = some (.int .i64 (pa : Nat)) ∧ W.cell? ⟨w5.heap.size, 1, none⟩ = some (.int .i64 (pe : Nat))) (first | go_keep | exact ⟨x0, x1⟩ | exact ⟨s0, s1⟩ | exact ⟨t0, t1⟩) (first | (go_at_call 18; refine HPO.out.mono ?_; rintro en w6 ⟨rfl, hb6⟩; have F6 := HFW.out.below hb6; have C6 := HCW.out.below hb6; have P6 := HPW.out.below hb6; have B6 := HBW.out.trans (hb6.mono HBW.out.size); have x0 := F6.cell 0; have x1 := F6.cell 1; have a0 : _ = some (Value.slice none 0 0) := C6.cell 0;have z0 := C6.free 0;have a1 : _ = some (Value.slice none 0 0) := C6.cell 1;have z1 := C6.free 1;have a2 : _ = some (Value.slice none 0 0) := C6.cell 2;have z2 := C6.free 2;have a3 : _ = some (Value.slice none 0 0) := C6.cell 3;have z3 := C6.free 3;have a4 : _ = some (Value.slice none 0 0) := C6.cell 4;have z4 := C6.free 4;have a5 : _ = some (Value.slice none 0 0) := C6.cell 5;have z5 := C6.free 5;have a6 : _ = some (Value.slice none 0 0) := C6.cell 6;have z6 := C6.free 6;have p0 : _ = some (Value.int .i64 0) := P6.cell 0;have y0 := P6.free 0;have p1 : _ = some (Value.int .i64 0) := P6.cell 1;have y1 := P6.free 1; have F7 := other7V (g := w.heap.size) F6 (by omega) (.slice none 0 0) (.slice none 0 0) (.slice none 0 0) (.slice none 0 0) (.slice none 0 0) (.slice none 0 0) (.slice none 0 0); have P7 := other7V (g := w.heap.size) P6 (by omega) (.slice none 0 0) (.slice none 0 0) (.slice none 0 0) (.slice none 0 0) (.slice none 0 0) (.slice none 0 0) (.slice none 0 0); have s0 := F7.cell 0; have s1 := F7.cell 1; have r0 := P7.cell 0; have r1 := P7.cell 1; have k0 := P7.free 0; have k1 := P7.free 1; have F8 := other2V (g := w.heap.size + 1) F7 (by omega) (.int .i64 ((Pos.posOf d (a + pa)).1 : Nat)) (.int .i64 ((Pos.posOf d (a + pa)).2 : Nat)); have t0 := F8.cell 0; have t1 := F8.cell 1))
      have X7 : Hid (Blk _ w.heap.size 30 #[.slice none 0 0, .slice none 0 0, .slice none 0 0, .slice none 0 0, .slice none 0 0, .slice none 0 0, .slice none 0 0]) := other2V (g := w.heap.size + 1) (set7V C6 (.slice none 0 0) (.slice none 0 0) (.slice none 0 0) (.slice none 0 0) (.slice none 0 0) (.slice none 0 0) (.slice none 0 0)) (by omega) (.int .i64 ((Pos.posOf d (a + pa)).1 : Nat)) (.int .i64 ((Pos.posOf d (a + pa)).2 : Nat))
      have Y7 : Hid (Blk _ (w.heap.size + 1) 32 #[.int .i64 ((Pos.posOf d (a + pa)).1 : Nat), .int .i64 ((Pos.posOf d (a + pa)).2 : Nat)]) := set2V (other7V (g := w.heap.size) P6 (by omega) (.slice none 0 0) (.slice none 0 0) (.slice none 0 0) (.slice none 0 0) (.slice none 0 0) (.slice none 0 0) (.slice none 0 0)) (.int .i64 ((Pos.posOf d (a + pa)).1 : Nat)) (.int .i64 ((Pos.posOf d (a + pa)).2 : Nat))
      have Z7 := Lib.hid (below2V (g := w.heap.size + 1) (below7V (g := w.heap.size) B6 (Nat.le_refl _) (.slice none 0 0) (.slice none 0 0) (.slice none 0 0) (.slice none 0 0) (.slice none 0 0) (.slice none 0 0) (.slice none 0 0)) (Nat.le_succ _) (.int .i64 ((Pos.posOf d (a + pa)).1 : Nat)) (.int .i64 ((Pos.posOf d (a + pa)).2 : Nat)))
      go_wp2
      refine bodyPost_ret (results_parseV _ rfl rfl rfl X7.out Y7.out) rfl ?_
      exact vread_nil HF.out rfl rfl Z7.out
     | ok y =>
      rw [hlv] at HLN
      dsimp only at HLN
      have HST : Hid (parseV l (d.length + 1) 0 d Vert.start = parseV l f (a + (lineOf rest).length + 1) (d.drop (a + (lineOf rest).length + 1)) y) := by
       show _ = _
       rw [hpar.out, parseV, if_neg hrne.out, hlv, HDR.out]
      have hw1 : IntKind.i64.wrap (((lineOf rest).length : Int) + 1) = (((lineOf rest).length + 1 : Nat) : Int) := by rw [IntWalk.i64_in _ (by omega)]; omega
      have hw2 : IntKind.i64.wrap ((a : Int) + (((lineOf rest).length + 1 : Nat) : Int)) = ((a + (lineOf rest).length + 1 : Nat) : Int) := by rw [IntWalk.i64_in _ (by omega)]; omega
      have HFU : Hid (d.length < f + (a + (lineOf rest).length + 1)) := by have := hfu.out; show _ < _; omega
      clear hlv hpar hfu HOQ
      go_wp2_with fail
      refine HLN.out.mono ?_
      rintro en w5 ⟨hb5, -, rfl, h5, hO5⟩
      have hz5 : w.heap.size + 2 ≤ w5.heap.size := Nat.le_trans HPQ.out.lt hb5.size
      have HC5 : Hid (Blk (w5.alloc (.cells #[.int .i64 0, .int .i64 0] 53)) w.heap.size 30 #[.slice none 0 0, .slice none 0 0, .slice none 0 0, .slice none 0 0, .slice none 0 0, .slice none 0 0, .slice none 0 0]) := Blk.alloc ((hb5.block _ (by omega)).trans HCQ.out) _
      have HP5 : Hid (Blk (w5.alloc (.cells #[.int .i64 0, .int .i64 0] 53)) (w.heap.size + 1) 32 #[.int .i64 0, .int .i64 0]) := Blk.alloc ((hb5.block _ (by omega)).trans HPQ.out) _
      have HB5 : Hid (Below w.heap.size w (w5.alloc (.cells #[.int .i64 0, .int .i64 0] 53))) := (HBQ.out.trans (hb5.mono (by omega))).alloc (by omega) _
      have HO5 : Hid (OwnR (w5.alloc (.cells #[.int .i64 0, .int .i64 0] 53)) (w.heap.size + 2) w4.heap.size h5 l y) := hO5.alloc _
      clear hb5 hO5 HCQ HPQ HBQ HLN
      go_wp2
      go_roundw
      case rel => exact ⟨a + (lineOf rest).length + 1, f, y, h5, rfl, by omega, HFU, HST, HO5, HC5.out, HP5.out, HB5.out⟩
      case measure => simp [intOf]; omega
    ·have hdn : d.drop a = [] := List.drop_eq_nil_of_le (by omega)
     have HPR : Hid (parseV l (d.length + 1) 0 d Vert.start = .ok x) := by
      show _ = _
      rw [hpar.out, hdn, parseV_nil]
     have hi1 : ¬ (a : Int) < (d.length : Int) := by omega
     obtain ⟨⟨Aa, na, ca⟩, ⟨At', nt, ct⟩, ⟨Ax, nx, cx⟩, ⟨Ar, nr, cr⟩, ⟨Ao, no, co⟩⟩ := h
     obtain ⟨toks, texts, regs, opn, tx⟩ := x
     have c8 : wr.cell? ⟨w4.heap.size, 8, none⟩ = some (.bool tx) := hO.out.blk.cell 8
     clear hpar hdn hfu
     cases tx with
     | true =>
      have HF : Hid (readV d l = (Cor.nil, some d.length, 10)) := by
       show _ = _
       unfold readV
       rw [if_neg (by simp [HAT.out]), if_neg (by omega), HPR.out]
       rfl
      have HPO := Lib.hid (position_any d d.length (by omega) wr)
      have HCC := Lib.hid hC
      have HPP := Lib.hid hP
      have HBB := Lib.hid hB
      have HDL : Hid (∃ dl, d.length = dl) := ⟨_, rfl⟩
      clear hO hC hP hB
      go_wp2_with fail
      refine HPO.out.mono ?_
      rintro en w6 ⟨rfl, hb6⟩
      have C6 := HCC.out.below hb6
      have P6 := HPP.out.below hb6
      have B6 := HBB.out.trans (hb6.mono HBB.out.size)
      have a0 : _ = some (Value.slice none 0 0) := C6.cell 0
      have z0 := C6.free 0
      have a1 : _ = some (Value.slice none 0 0) := C6.cell 1
      have z1 := C6.free 1
      have a2 : _ = some (Value.slice none 0 0) := C6.cell 2
      have z2 := C6.free 2
      have a3 : _ = some (Value.slice none 0 0) := C6.cell 3
      have z3 := C6.free 3
      have a4 : _ = some (Value.slice none 0 0) := C6.cell 4
      have z4 := C6.free 4
      have a5 : _ = some (Value.slice none 0 0) := C6.cell 5
      have z5 := C6.free 5
      have a6 : _ = some (Value.slice none 0 0) := C6.cell 6
      have z6 := C6.free 6
      have p0 : _ = some (Value.int .i64 0) := P6.cell 0
      have y0 := P6.free 0
      have p1 : _ = some (Value.int .i64 0) := P6.cell 1
      have y1 := P6.free 1
      have X7 : Hid (Blk _ w.heap.size 30 #[.slice none 0 0, .slice none 0 0, .slice none 0 0, .slice none 0 0, .slice none 0 0, .slice none 0 0, .slice none 0 0]) := other2V (g := w.heap.size + 1) (set7V C6 (.slice none 0 0) (.slice none 0 0) (.slice none 0 0) (.slice none 0 0) (.slice none 0 0) (.slice none 0 0) (.slice none 0 0)) (by omega) (.int .i64 ((Pos.posOf d (d.length)).1 : Nat)) (.int .i64 ((Pos.posOf d (d.length)).2 : Nat))
      have Y7 : Hid (Blk _ (w.heap.size + 1) 32 #[.int .i64 ((Pos.posOf d (d.length)).1 : Nat), .int .i64 ((Pos.posOf d (d.length)).2 : Nat)]) := set2V (other7V (g := w.heap.size) P6 (by omega) (.slice none 0 0) (.slice none 0 0) (.slice none 0 0) (.slice none 0 0) (.slice none 0 0) (.slice none 0 0) (.slice none 0 0)) (.int .i64 ((Pos.posOf d (d.length)).1 : Nat)) (.int .i64 ((Pos.posOf d (d.length)).2 : Nat))
      have Z7 := Lib.hid (below2V (g := w.heap.size + 1) (below7V (g := w.heap.size) B6 (Nat.le_refl _) (.slice none 0 0) (.slice none 0 0) (.slice none 0 0) (.slice none 0 0) (.slice none 0 0) (.slice none 0 0) (.slice none 0 0)) (Nat.le_succ _) (.int .i64 ((Pos.posOf d (d.length)).1 : Nat)) (.int .i64 ((Pos.posOf d (d.length)).2 : Nat)))
      go_wp2
      refine bodyPost_ret (results_parseV _ rfl rfl rfl X7.out Y7.out) rfl ?_
      exact vread_nil HF.out rfl rfl Z7.out
     | false =>
      have HF : Hid (readV d l = (⟨l, toks, texts, sortT regs, [], [], []⟩, none, 0)) := by
       show _ = _
       unfold readV
       rw [if_neg (by simp [HAT.out]), if_neg (by omega), HPR.out]
       rfl
      obtain ⟨L, hL, oL, wL⟩ := hO.out.r
      have hnr : nr ≤ 1024 := by have h1 := hO.out.r.len; have h2 := hO.out.ok.r; dsimp only at h1 h2; omega
      have hkk : ∀ y ∈ L, y.2.n * 32 ≤ 140737488355328 := fun y hy => by
       have h1 := hO.out.ok.ks y.1 (.inl (hL ▸ List.mem_map_of_mem hy))
       have h2 := (wL y hy).2.2.2.1.1
       rw [flat_len prV_len] at h2
       omega
      have HSO := Lib.hid (sortRegions_own Ar nr cr L wr (by omega) (own_sl oL) (fun y hy => (wL y hy).reads) hkk)
      unfold SortedO at HSO
      rw [hL] at HSO
      have HOO := hO
      have HCC := Lib.hid hC
      have HPP := Lib.hid hP
      have HBB := Lib.hid hB
      have c3 : wr.cell? ⟨w4.heap.size, 3, none⟩ = some (.slice Ar nr cr) := hO.out.blk.cell 3
      have hszr : w4.heap.size < wr.heap.size := hO.out.blk.lt
      clear hO hC hP hB hkk oL wL hL
      go_wp2_with fail
      refine HSO.out.mono ?_
      rintro en w6 ⟨⟨As, ns, cs⟩, rfl, hs6, hb6⟩
      have K6 := HOO.out.blk.below hb6
      have d3 : _ = some (Value.slice Ar nr cr) := K6.cell 3
      have e3 := K6.free 3
      have K7 := K6.set_ 3 (.slice As ns cs)
      have C6 := HCC.out.below hb6
      have P6 := HPP.out.below hb6
      have C7 := C6.other (p := ⟨w4.heap.size, 3, none⟩) (by show w4.heap.size ≠ w.heap.size; omega) (.slice As ns cs)
      have P7 := P6.other (p := ⟨w4.heap.size, 3, none⟩) (by show w4.heap.size ≠ w.heap.size + 1; omega) (.slice As ns cs)
      have B7 : Hid (Below w.heap.size w (w6.setCell ⟨w4.heap.size, 3, none⟩ (.slice As ns cs))) := (HBB.out.trans (hb6.mono HBB.out.size)).setCell (p := ⟨w4.heap.size, 3, none⟩) (by show w.heap.size ≤ w4.heap.size; omega) _
      have F7 := Off.set_ K6 3 (.slice As ns cs)
      have KO6 := HOO.out.below hb6
      have b0 : _ = some (Value.slice Aa na ca) := K7.cell 0
      have b1 : _ = some (Value.slice At' nt ct) := K7.cell 1
      have b2 : _ = some (Value.slice Ax nx cx) := K7.cell 2
      have b3 : _ = some (Value.slice As ns cs) := K7.cell 3
      have b4 : _ = some (Value.slice none 0 0) := K7.cell 4
      have b5 : _ = some (Value.slice none 0 0) := K7.cell 5
      have b6 : _ = some (Value.slice none 0 0) := K7.cell 6
      have a0 : _ = some (Value.slice none 0 0) := C7.cell 0
      have z0 := C7.free 0
      have a1 : _ = some (Value.slice none 0 0) := C7.cell 1
      have z1 := C7.free 1
      have a2 : _ = some (Value.slice none 0 0) := C7.cell 2
      have z2 := C7.free 2
      have a3 : _ = some (Value.slice none 0 0) := C7.cell 3
      have z3 := C7.free 3
      have a4 : _ = some (Value.slice none 0 0) := C7.cell 4
      have z4 := C7.free 4
      have a5 : _ = some (Value.slice none 0 0) := C7.cell 5
      have z5 := C7.free 5
      have a6 : _ = some (Value.slice none 0 0) := C7.cell 6
      have z6 := C7.free 6
      have p0 : _ = some (Value.int .i64 0) := P7.cell 0
      have y0 := P7.free 0
      have p1 : _ = some (Value.int .i64 0) := P7.cell 1
      have y1 := P7.free 1
      have RA := Lib.hid (KO6.a.off F7 (by decide))
      have RT := Lib.hid (KO6.t.off F7 (by decide) (by decide))
      have RX := Lib.hid (KO6.x.off F7 (by decide) (by decide))
      have RS := Lib.hid (hs6.off F7 (by decide) (by decide))
      have X7 : Hid (Blk _ w.heap.size 30 #[.slice Aa na ca, .slice At' nt ct, .slice Ax nx cx, .slice As ns cs, .slice none 0 0, .slice none 0 0, .slice none 0 0]) := other2V (g := w.heap.size + 1) (set7V C7 (.slice Aa na ca) (.slice At' nt ct) (.slice Ax nx cx) (.slice As ns cs) (.slice none 0 0) (.slice none 0 0) (.slice none 0 0)) (by omega) (.int .i64 0) (.int .i64 0)
      have P8 := other7V (g := w.heap.size) P7 (by omega) (.slice Aa na ca) (.slice At' nt ct) (.slice Ax nx cx) (.slice As ns cs) (.slice none 0 0) (.slice none 0 0) (.slice none 0 0)
      have Y7 : Hid (Blk _ (w.heap.size + 1) 32 #[.int .i64 0, .int .i64 0]) := set2V P8 (.int .i64 0) (.int .i64 0)
      have Z7 := Lib.hid (below2V (g := w.heap.size + 1) (below7V (g := w.heap.size) B7.out (Nat.le_refl _) (.slice Aa na ca) (.slice At' nt ct) (.slice Ax nx cx) (.slice As ns cs) (.slice none 0 0) (.slice none 0 0) (.slice none 0 0)) (Nat.le_succ _) (.int .i64 0) (.int .i64 0))
      have F8 := off7V C7 (.slice Aa na ca) (.slice At' nt ct) (.slice Ax nx cx) (.slice As ns cs) (.slice none 0 0) (.slice none 0 0) (.slice none 0 0)
      have F9 := off2V P8 (.int .i64 0) (.int .i64 0)
      have RA9 := Lib.hid ((RA.out.off F8 (by decide)).off F9 (by decide))
      have RT9 := Lib.hid ((RT.out.off F8 (by decide) (by decide)).off F9 (by decide) (by decide))
      have RX9 := Lib.hid ((RX.out.off F8 (by decide) (by decide)).off F9 (by decide) (by decide))
      have RS9 := Lib.hid ((RS.out.off F8 (by decide) (by decide)).off F9 (by decide) (by decide))
      clear K6 K7 C6 P6 C7 P7 F7 F8 F9 KO6 P8 hs6 hb6 HSO c3 c8
      go_wp2
      refine bodyPost_ret (results_parseV _ rfl rfl rfl X7.out Y7.out) rfl ?_
      unfold VRead
      rw [HF.out]
      exact ⟨⟨⟨Aa, na, ca⟩, ⟨At', nt, ct⟩, ⟨Ax, nx, cx⟩, ⟨As, ns, cs⟩, ⟨none, 0, 0⟩, ⟨none, 0, 0⟩, ⟨none, 0, 0⟩⟩, rfl, ⟨RA9.out.reads, RT9.out.reads, RX9.out.reads, RS9.out.reads, (reads_nil _ _).n, (reads_nil _ _).h, (reads_nil _ _).l⟩, Z7.out⟩
 ·have HD : Hid (decide ((Cor.atErr l).2 = 0) = false) := by show _ = _; simp [hat]
  have HF : Hid (readV d l = (Cor.nil, none, 1)) := by show _ = _; unfold readV; rw [if_pos hat]
  clear hat
  go_enter Tryz.func9, Tryz.ntmps9
  go_wp2_with fail
  refine HC.out.mono ?_
  rintro en w3 ⟨rfl, hb3⟩
  rw [HD.out]
  have C3 := HC2.out.below hb3
  have P3 := HP2.out.below hb3
  have B3 : Below w.heap.size w w3 := HB2.out.trans (hb3.mono HB2.out.size)
  have a0 : _ = some (Value.slice none 0 0) := C3.cell 0
  have z0 := C3.free 0
  have a1 : _ = some (Value.slice none 0 0) := C3.cell 1
  have z1 := C3.free 1
  have a2 : _ = some (Value.slice none 0 0) := C3.cell 2
  have z2 := C3.free 2
  have a3 : _ = some (Value.slice none 0 0) := C3.cell 3
  have z3 := C3.free 3
  have a4 : _ = some (Value.slice none 0 0) := C3.cell 4
  have z4 := C3.free 4
  have a5 : _ = some (Value.slice none 0 0) := C3.cell 5
  have z5 := C3.free 5
  have a6 : _ = some (Value.slice none 0 0) := C3.cell 6
  have z6 := C3.free 6
  have p0 : _ = some (Value.int .i64 0) := P3.cell 0
  have y0 := P3.free 0
  have p1 : _ = some (Value.int .i64 0) := P3.cell 1
  have y1 := P3.free 1
  have X7 : Hid (Blk _ w.heap.size 30 #[.slice none 0 0, .slice none 0 0, .slice none 0 0, .slice none 0 0, .slice none 0 0, .slice none 0 0, .slice none 0 0]) := other2V (g := w.heap.size + 1) (set7V C3 (.slice none 0 0) (.slice none 0 0) (.slice none 0 0) (.slice none 0 0) (.slice none 0 0) (.slice none 0 0) (.slice none 0 0)) (by omega) (.int .i64 0) (.int .i64 0)
  have Y7 : Hid (Blk _ (w.heap.size + 1) 32 #[.int .i64 0, .int .i64 0]) := set2V (other7V (g := w.heap.size) P3 (by omega) (.slice none 0 0) (.slice none 0 0) (.slice none 0 0) (.slice none 0 0) (.slice none 0 0) (.slice none 0 0) (.slice none 0 0)) (.int .i64 0) (.int .i64 0)
  have Z7 := Lib.hid (below2V (g := w.heap.size + 1) (below7V (g := w.heap.size) B3 (Nat.le_refl _) (.slice none 0 0) (.slice none 0 0) (.slice none 0 0) (.slice none 0 0) (.slice none 0 0) (.slice none 0 0) (.slice none 0 0)) (Nat.le_succ _) (.int .i64 0) (.int .i64 0))
  go_wp2
  refine bodyPost_ret (results_parseV _ rfl rfl rfl X7.out Y7.out) rfl ?_
  exact vread_nil HF.out rfl rfl Z7.out
end Go.Proofs.YtgkdaebiefhgdaaGreatDoor

/-! ## PVertAwk -/
namespace Go.Proofs.YtgkdaebiefhgdaaGreatDoor
set_option linter.unusedSimpArgs false
set_option linter.unusedVariables false
open Go.RowKit
open Feat (Bs)
open Vert (readV)
attribute [local go_sem] byte_mk ByteArray.extract_mk
namespace Vert
def exD : Bs := [60, 116, 101, 120, 116, 32, 105, 100, 61, 34, 116, 34, 62, 10, 60, 115, 32, 110, 61, 34, 49, 34, 62, 10, 97, 10, 60, 110, 112, 62, 10, 98, 32, 38, 97, 109, 112, 59, 32, 99, 10, 60, 47, 115, 62, 10, 60, 47, 110, 112, 62, 10, 60, 47, 116, 101, 120, 116, 62, 10]
def exA : List At := [([119, 111, 114, 100], false)]
theorem ex_read : (readV exD exA).2 = (none, 0) ∧ (readV exD exA).1.toks.length = 2 ∧ ((readV exD exA).1.regs.map fun r => r.nm) = [[115], [110, 112]] := by decide +kernel
theorem ex_bad : (readV [97] exA).2 = (some 0, 17) := by decide +kernel
theorem ex_pos : Pos.posOf [97] 0 = (1, 1) := by
 unfold Pos.posOf
 have : (Utf.un 0 [97]).takeWhile (fun u => decide (u.2.1 < 0)) = [] := by
  cases Utf.un 0 [97] with
  | nil => rfl
  | cons u l => simp
 rw [this]; rfl
end Vert
theorem ownA1 {w : World} {B g : Nat} {E : TypeId} {a b : Value} (h : Blk w g E #[a, b]) (hb : B ≤ g) : w.ownsRow B E 2 (.slice (some ⟨g, 0, none⟩) 1 1) 1 [a, b] :=
 ⟨rfl, .inr ⟨g, 1, #[a, b], rfl, hb, h, Nat.le_refl _, by decide, rfl, rfl⟩⟩

set_option maxRecDepth 100000 in
set_option maxHeartbeats 4000000 in
theorem vawake_any (m : Int) (w : World) (hm : w.cell? ⟨0, 0, none⟩ = some (.int .i64 m)) : Calls Tryz.prog 12 #[] w (Kept (.bool true) w) := by
 have hw0 : 0 < w.heap.size := by
  rcases Nat.eq_zero_or_pos w.heap.size with h | h
  ·have : w.heap[0]? = none := Array.getElem?_eq_none (by omega)
   simp [World.cell?, this] at hm
  ·exact h
 have hB1 := (Below.refl w.heap.size w).alloc (Nat.le_refl _) (.cells #[str [119, 111, 114, 100], .bool false] 73)
 have hO1 : OA (w.alloc (.cells #[str [119, 111, 114, 100], .bool false] 73)) w.heap.size ⟨some ⟨w.heap.size, 0, none⟩, 1, 1⟩ Vert.exA :=
  ⟨ownA1 (Blk.new w _ _) (Nat.le_refl _), fun a ha => by
   have ha : a ∈ [(([119, 111, 114, 100] : Bs), false)] := ha
   rw [List.mem_singleton] at ha
   subst ha
   show ([119, 111, 114, 100] : Bs).length ≤ _
   simp⟩
 have hA1 := hO1.reads
 have HV1 := Lib.hid (vparse_any (some ⟨w.heap.size, 0, none⟩) 1 1 Vert.exA Vert.exD m _ hA1 (by decide) ((hB1.cell (p := ⟨0, 0, none⟩) hw0).trans hm))
 unfold VRead at HV1
 obtain ⟨e1, e2, e3⟩ := Vert.ex_read
 obtain ⟨c, hc⟩ : ∃ c, (readV Vert.exD Vert.exA).1 = c := ⟨_, rfl⟩
 rw [e1, hc] at HV1
 rw [hc] at e2 e3
 have HB1 := Lib.hid hB1
 have HA1 := Lib.hid hA1
 have hx1 : 1 < c.regs.length := by have := congrArg List.length e3; simp at this; omega
 have E3 : Hid (∀ h : 1 < c.regs.length, c.regs[1].nm = [110, 112]) := fun h => by
  have := congrArg (fun L => L[1]?) e3
  simpa [h] using this
 have E2 := Lib.hid e2
 have E3L : Hid (c.regs.length = 2) := by have := congrArg List.length e3; show _ = _; simpa using this
 clear hB1 hO1 hA1 e1 e2 e3 hc hx1
 go_enter Tryz.func12, Tryz.ntmps12
 go_wp2_with fail
 refine HV1.out.mono ?_
 rintro en w2 ⟨⟨⟨Aa, na, ca⟩, ⟨At', nt, ct⟩, ⟨Ax, nx, cx⟩, ⟨Ar, nr, cr⟩, ⟨An, nn, cn⟩, ⟨Ah, nh, ch⟩, ⟨Al, nl, cl⟩⟩, rfl, hr2, hb2⟩
 obtain rfl : nt = 2 := by have h1 : c.toks.length = nt := hr2.t.len; rw [← h1]; exact E2.out
 obtain rfl : nr = 2 := by have h1 : c.regs.length = nr := hr2.r.len; rw [← h1]; exact E3L.out
 obtain ⟨gr, orr, H2, hk, hAr, hg, -, r0, -, -, -⟩ := hr2.r.at_ (k := 1) (by show 1 < 2; omega)
 dsimp only at hAr
 subst hAr
 rw [E3.out hk] at r0
 have hB2 : Below w.heap.size w w2 := HB1.out.trans (hb2.mono HB1.out.size)
 have hb3 : Below w2.heap.size w2 ((w2.alloc (.cells #[.slice Aa na ca, .slice At' 2 ct, .slice Ax nx cx, .slice (some ⟨gr, orr, none⟩) 2 cr, .slice An nn cn, .slice Ah nh ch, .slice Al nl cl] 30)).alloc (.cells #[.int .i64 0, .int .i64 0] 32)) := ((Below.refl _ _).alloc (Nat.le_refl _) _).alloc (by simp) _
 have hb13 := hb2.trans (hb3.mono hb2.size)
 have hB3 : Below w.heap.size w ((w2.alloc (.cells #[.slice Aa na ca, .slice At' 2 ct, .slice Ax nx cx, .slice (some ⟨gr, orr, none⟩) 2 cr, .slice An nn cn, .slice Ah nh ch, .slice Al nl cl] 30)).alloc (.cells #[.int .i64 0, .int .i64 0] 32)) := hB2.trans (hb3.mono hB2.size)
 have HV2 := Lib.hid (vparse_any (some ⟨w.heap.size, 0, none⟩) 1 1 Vert.exA [97] m ((w2.alloc (.cells #[.slice Aa na ca, .slice At' 2 ct, .slice Ax nx cx, .slice (some ⟨gr, orr, none⟩) 2 cr, .slice An nn cn, .slice Ah nh ch, .slice Al nl cl] 30)).alloc (.cells #[.int .i64 0, .int .i64 0] 32)) ((HA1.out.under hb13).up hb13.size) (by decide) ((hB3.cell (p := ⟨0, 0, none⟩) hw0).trans hm))
 unfold VRead at HV2
 rw [Vert.ex_bad] at HV2
 dsimp only at HV2
 rw [show posR [97] (some 0) = (1, 1) from Vert.ex_pos] at HV2
 have hC3 : Blk ((w2.alloc (.cells #[.slice Aa na ca, .slice At' 2 ct, .slice Ax nx cx, .slice (some ⟨gr, orr, none⟩) 2 cr, .slice An nn cn, .slice Ah nh ch, .slice Al nl cl] 30)).alloc (.cells #[.int .i64 0, .int .i64 0] 32)) w2.heap.size 30 #[.slice Aa na ca, .slice At' 2 ct, .slice Ax nx cx, .slice (some ⟨gr, orr, none⟩) 2 cr, .slice An nn cn, .slice Ah nh ch, .slice Al nl cl] := (Blk.new w2 _ _).alloc _
 have hP3 := Blk.new (w2.alloc (.cells #[.slice Aa na ca, .slice At' 2 ct, .slice Ax nx cx, .slice (some ⟨gr, orr, none⟩) 2 cr, .slice An nn cn, .slice Ah nh ch, .slice Al nl cl] 30)) 32 #[.int .i64 0, .int .i64 0]
 rw [World.size_alloc] at hP3
 have HB3 := Lib.hid hB3
 have HC3 := Lib.hid hC3
 have HP3 := Lib.hid hP3
 have R3 : Hid (World.cell? ((w2.alloc (.cells #[.slice Aa na ca, .slice At' 2 ct, .slice Ax nx cx, .slice (some ⟨gr, orr, none⟩) 2 cr, .slice An nn cn, .slice Ah nh ch, .slice Al nl cl] 30)).alloc (.cells #[.int .i64 0, .int .i64 0] 32)) ⟨gr, orr + 1 * 4, none⟩ = some (str [110, 112])) := (hb3.cell (p := ⟨gr, orr + 1 * 4, none⟩) hg).trans r0
 clear hB2 hb3 hb13 hB3 hC3 hP3 r0 hr2 hb2
 go_wp2_with fail
 refine HV2.out.mono ?_
 rintro en w4 ⟨⟨⟨Da, ma, da⟩, ⟨Dt, mt, dt⟩, ⟨Dx, mx, dx⟩, ⟨Dr, mr, dr⟩, ⟨Dn, mn, dn⟩, ⟨Dh, mh, dh⟩, ⟨Dl, ml, dl⟩⟩, rfl, -, hb4⟩
 have hb6 : Below w4.heap.size w4 ((w4.alloc (.cells #[.slice Da ma da, .slice Dt mt dt, .slice Dx mx dx, .slice Dr mr dr, .slice Dn mn dn, .slice Dh mh dh, .slice Dl ml dl] 30)).alloc (.cells #[.int .i64 1, .int .i64 1] 32)) := ((Below.refl _ _).alloc (Nat.le_refl _) _).alloc (by simp) _
 have hb36 := hb4.trans (hb6.mono hb4.size)
 have hC6 := HC3.out.below hb36
 have hP6 := HP3.out.below hb36
 have q1 : _ = some (Value.slice At' 2 ct) := hC6.cell 1
 have q3 : _ = some (Value.slice (some ⟨gr, orr, none⟩) 2 cr) := hC6.cell 3
 have p0 : _ = some (Value.int .i64 0) := hP6.cell 0
 have p1 : _ = some (Value.int .i64 0) := hP6.cell 1
 have r6 : World.cell? ((w4.alloc (.cells #[.slice Da ma da, .slice Dt mt dt, .slice Dx mx dx, .slice Dr mr dr, .slice Dn mn dn, .slice Dh mh dh, .slice Dl ml dl] 30)).alloc (.cells #[.int .i64 1, .int .i64 1] 32)) ⟨gr, orr + 1 * 4, none⟩ = some (str [110, 112]) := (hb36.cell (p := ⟨gr, orr + 1 * 4, none⟩) (by show gr < _; simp; omega)).trans R3.out
 have HB6 : Hid (Below w.heap.size w ((w4.alloc (.cells #[.slice Da ma da, .slice Dt mt dt, .slice Dx mx dx, .slice Dr mr dr, .slice Dn mn dn, .slice Dh mh dh, .slice Dl ml dl] 30)).alloc (.cells #[.int .i64 1, .int .i64 1] 32))) := HB3.out.trans (hb36.mono HB3.out.size)
 have hP6n := Blk.new (w4.alloc (.cells #[.slice Da ma da, .slice Dt mt dt, .slice Dx mx dx, .slice Dr mr dr, .slice Dn mn dn, .slice Dh mh dh, .slice Dl ml dl] 30)) 32 #[.int .i64 1, .int .i64 1]
 rw [World.size_alloc] at hP6n
 have s0 : _ = some (Value.int .i64 1) := hP6n.cell 0
 have s1 : _ = some (Value.int .i64 1) := hP6n.cell 1
 clear hb4 hb6 hb36 hC6 hP6 hP6n
 go_wp2
 go_ret
 exact ⟨rfl, HB6.out⟩
end Go.Proofs.YtgkdaebiefhgdaaGreatDoor
