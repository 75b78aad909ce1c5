/-
  The contract of the reader's line. Conditions: the state is one of a reading, the line is not long, MaxLen's cell holds a number.
-/
import Derived.Test.YtgkdaebiefhgdaaDoorVertBeg
import Derived.Test.YtgkdaebiefhgdaaDoorVertBeT
import Derived.Test.YtgkdaebiefhgdaaDoorVertEndT
import Derived.Test.YtgkdaebiefhgdaaDoorVertEndR
import Derived.Test.YtgkdaebiefhgdaaDoorVertTok
import Derived.Test.YtgkdaebiefhgdaaDoorVertPl
import Derived.Test.YtgkdaebiefhgdaaDoorMarkAll
import Derived.Laws.EntriesVeiled
namespace Go.Proofs.YtgkdaebiefhgdaaDoor
set_option linter.unusedSimpArgs false
set_option linter.unusedVariables false
open Go.RowKit
open Feat (Bs)
open Tagp (KV)
open Vert (Rd lineV tagOf tagLine)
attribute [local go_sem] byte_mk ByteArray.extract_mk

theorem results_line {w : World} {g : Nat} {x y : Value} (tmps : Array Value) (h4 : tmps.getD 4 undef = .pointer (some ⟨g, 0, none⟩)) (hg : Blk w g 48 #[x, y]) :
    (results Tryd.f12 tmps).run Tryd.prog w = .ok (.agg #[x, y]) w := by
  have hp' : tmps[4]?.getD undef = .pointer (some ⟨g, 0, none⟩) := by simpa using h4
  have c0 := hg.cell 0
  have c1 := hg.cell 1
  simp only [List.getElem?_toArray, List.getElem?_cons_zero, List.getElem?_cons_succ] at c0 c1
  simp [results, Tryd.f12, hp', asAddr, c0, c1, go_sem]
theorem pre_lt {l : Bs} : ([60] : Bs).isPrefixOf l = decide (l.head? = some 60) := by
  cases l with
  | nil => rfl
  | cons c l =>
    rw [List.isPrefixOf]
    show ((60 : UInt8) == c && true) = decide (some c = some 60)
    by_cases h : c = 60
    · subst h; rfl
    · rw [decide_eq_false (by simpa using h), beq_eq_false_iff_ne.2 (Ne.symm h)]; rfl

/-- What a method has left: the state, or the error's number. -/
def Done (B g : Nat) (ats : List At) (w' : World) (r : Except Nat Rd) (k : Nat) : Prop := match r with | .error q => k = q | .ok y => k = 0 ∧ ∃ h, OwnR w' B g h ats y
def lift0 (r : Except Nat Rd) : Except (Nat × Nat) Rd := match r with | .error e => .error (0, e) | .ok y => .ok y
theorem line_close {B g : Nat} {ats : List At} {w W w5 : World} {r : Except Nat Rd} {k : Nat} (hBg : B ≤ w.heap.size) (hb : Below w.heap.size w W) (hb5 : Below B W w5) (ho : Only W w5) (hF : Blk W w.heap.size 48 #[.int .i64 0, .int .i64 0])
    (hk : Done B g ats w5 r k) :
    Lines B g ats w (lift0 r) (.returned (.agg #[.int .i64 0, .int .i64 (k : Nat)])) ((w5.setCell ⟨w.heap.size, 0, none⟩ (.int .i64 0)).setCell ⟨w.heap.size, 1, none⟩ (.int .i64 (k : Nat))) := by
  have hB5 : Below B w w5 := (hb.mono hBg).trans hb5
  have hF5 := ho.blk hF aside_f
  refine ⟨(hB5.setCell (p := ⟨w.heap.size, 0, none⟩) hBg _).setCell (p := ⟨w.heap.size, 1, none⟩) hBg _, (((Only.below hb).trans ho).new (p := ⟨w.heap.size, 0, none⟩) (Nat.le_refl _) _).new (p := ⟨w.heap.size, 1, none⟩) (Nat.le_refl _) _, ?_⟩
  cases r with
  | error q =>
    have hk : k = q := hk
    subst hk
    rfl
  | ok y =>
    obtain ⟨rfl, h, hO⟩ := hk
    exact ⟨rfl, h, (hO.off (Off.set_ hF5 0 _) (by decide)).off (Off.set_ (hF5.set_ 0 _) 1 _) (by decide)⟩
theorem steps_lines {B g : Nat} {ats : List At} {w w' : World} {r : Except Nat Rd} {e : Ending} (h : Steps B g ats w r e w') : ∃ k : Nat, e = .returned (.int .i64 (k : Nat)) ∧ Below B w w' ∧ Only w w' ∧ Done B g ats w' r k := by
  obtain ⟨h1, h2, h3⟩ := h
  cases r with
  | error q => exact ⟨q, h3, h1, h2, rfl⟩
  | ok y => exact ⟨0, h3.1, h1, h2, rfl, h3.2⟩

set_option maxRecDepth 100000 in
set_option maxHeartbeats 4000000 in
theorem line_any (B g : Nat) (h : RdH) (ats : List At) (s : Rd) (l : Bs) (m : Int) (w : World) (k : OwnR w B g h ats s) (hB : 0 < B) (hl : l.length ≤ 1048576) (hm : w.cell? ⟨0, 0, none⟩ = some (.int .i64 m)) :
    Calls Tryd.prog 12 #[.pointer (some ⟨g, 0, none⟩), str l] w (Lines B g ats w (lineV ats s l)) := by
  have hBg : B ≤ w.heap.size := Nat.le_trans k.bg (Nat.le_of_lt k.blk.lt)
  have hb1 := (Below.refl w.heap.size w).alloc (Nat.le_refl _) (.cells #[.int .i64 0, .int .i64 0] 48)
  have kb := k.below hb1
  have hF := Blk.new w 48 #[.int .i64 0, .int .i64 0]
  have HP := Lib.hid (hasPrefix_any l [60] (w.alloc (.cells #[.int .i64 0, .int .i64 0] 48)))
  rw [pre_lt] at HP
  have HB1 := Lib.hid hb1
  have HFB := Lib.hid hF
  have HKB := Lib.hid kb
  by_cases hlt : l.head? = some 60
  · rw [decide_eq_true hlt] at HP
    have HPT := Lib.hid (parseTag_any l (w.alloc (.cells #[.int .i64 0, .int .i64 0] 48)) (by omega))
    have hgk := tagOf_keys l
    have hnl := tagOf_name l
    obtain ⟨cl, nm, ks, at_, er, hto⟩ : ∃ cl nm ks at_ er, tagOf l = ((cl, nm, ks), at_, er) := ⟨_, _, _, _, _, rfl⟩
    unfold Parsed at HPT
    rw [show parseP l = ((cl, nm, ks), at_, er) from hto] at HPT
    rw [hto] at hgk hnl
    dsimp only at HPT hgk hnl
    have HTO := Lib.hid hto
    have HGK := Lib.hid hgk
    clear hto hgk hb1 hF kb k
    by_cases he : er = 0
    · subst he
      cases cl with
      | false =>
        by_cases hnt : nm = [116, 101, 120, 116]
        · have HR : Hid (lineV ats s l = lift0 (Vert.beginText s ks)) := by
            show _ = _
            unfold lineV
            rw [if_pos hlt, HTO.out, if_neg (by simp)]
            unfold tagLine
            dsimp only
            rw [if_pos (show nm = Vert.text from hnt), if_neg (by simp)]
            cases Vert.beginText s ks <;> rfl
          have hq : (nm == [116, 101, 120, 116]) = true := by rw [beq_iff_eq]; exact hnt
          go_enter Tryd.func12, Tryd.ntmps12
          go_wp2_with fail
          refine HP.out.mono ?_
          rintro en w1 ⟨rfl, rfl⟩
          go_wp2_with fail
          refine HPT.out.mono ?_
          rintro en w2 ⟨v, rfl, own2, hb2⟩
          obtain ⟨A2, c2, rfl, -, -⟩ := own_slc own2
          have hb3 : Below w2.heap.size w2 ((w2.alloc (.cells #[.bool false, str nm, .slice A2 ks.length c2] 68)).alloc (.cells #[.func (Fn.func 26) #[] #[], .func (Fn.func 27) #[] #[], .func (Fn.func 28) #[] #[], .func (Fn.func 29) #[] #[]] 73)).drew := (((Below.refl _ _).alloc (Nat.le_refl _) _).alloc (by simp) _).drew
          have hsz2 : w.heap.size < w2.heap.size := by have := hb2.size; rw [World.size_alloc] at this; omega
          have hbw2 : Below w.heap.size w w2 := HB1.out.trans (hb2.mono HB1.out.size)
          have HBW : Hid (Below w.heap.size w ((w2.alloc (.cells #[.bool false, str nm, .slice A2 ks.length c2] 68)).alloc (.cells #[.func (Fn.func 26) #[] #[], .func (Fn.func 27) #[] #[], .func (Fn.func 28) #[] #[], .func (Fn.func 29) #[] #[]] 73)).drew) := hbw2.trans (hb3.mono hbw2.size)
          have HFW := Lib.hid ((HFB.out.below hb2).below hb3)
          have HKW := Lib.hid ((HKB.out.below hb2).below hb3)
          have HTW : Hid (Blk ((w2.alloc (.cells #[.bool false, str nm, .slice A2 ks.length c2] 68)).alloc (.cells #[.func (Fn.func 26) #[] #[], .func (Fn.func 27) #[] #[], .func (Fn.func 28) #[] #[], .func (Fn.func 29) #[] #[]] 73)).drew w2.heap.size 68 #[.bool false, str nm, .slice A2 ks.length c2]) := ((Blk.new w2 _ _).alloc _).off (R := 4294967295) (Off.drew _) (by decide)
          have hmw := Blk.new (w2.alloc (.cells #[.bool false, str nm, .slice A2 ks.length c2] 68)) 73 #[.func (Fn.func 26) #[] #[], .func (Fn.func 27) #[] #[], .func (Fn.func 28) #[] #[], .func (Fn.func 29) #[] #[]]
          rw [World.size_alloc] at hmw
          have HMW := Lib.hid (hmw.off (R := 4294967295) (Off.drew _) (by decide))
          have hoW : Hid (World.ownsRow ((w2.alloc (.cells #[.bool false, str nm, .slice A2 ks.length c2] 68)).alloc (.cells #[.func (Fn.func 26) #[] #[], .func (Fn.func 27) #[] #[], .func (Fn.func 28) #[] #[], .func (Fn.func 29) #[] #[]] 73)).drew B 88 2 (.slice A2 ks.length c2) ks.length (ks.flatMap prV)) := own_below (own_base own2 (Nat.le_trans hBg HB1.out.size)) hb3
          have HC := Lib.hid (beginText_any B g h ats s false nm A2 ks.length c2 ks ((w2.alloc (.cells #[.bool false, str nm, .slice A2 ks.length c2] 68)).alloc (.cells #[.func (Fn.func 26) #[] #[], .func (Fn.func 27) #[] #[], .func (Fn.func 28) #[] #[], .func (Fn.func 29) #[] #[]] 73)).drew HKW.out hoW.out (fun p hp => goodK_len HGK.out p hp) (by have := HGK.out.1; omega))
          have HS12 := (⟨HMW.out.cell 2, HTW.out.cell 0, HTW.out.cell 1, HTW.out.cell 2⟩ : _ ∧ _ ∧ _ ∧ _)
          clear own2 hb2 hb3 hbw2 hmw hlt hnt
          go_wp2
          generalize hr : Vert.beginText s ks = r at HR HC
          have HRR := Lib.hid hr
          clear hr
          go_region_held3 (fun W => W.cell? ⟨w2.heap.size + 1, 2, none⟩ = some (.func (Fn.func 28) #[] #[]) ∧ W.cell? ⟨w2.heap.size, 0, none⟩ = some (.bool false) ∧ W.cell? ⟨w2.heap.size, 1, none⟩ = some (str nm) ∧ W.cell? ⟨w2.heap.size, 2, none⟩ = some (.slice A2 ks.length c2)) (first | go_keep | exact ⟨x0, x1, x2, x3⟩ | exact ⟨u0, u1, u2, u3⟩) (first | (go_at_call 28; refine HC.out.mono ?_; intro en w5 hst; obtain ⟨kk, rfl, hb5, ho5, hk5⟩ := steps_lines hst; have MB := ho5.blk HMW.out aside_m; have TB := ho5.blk HTW.out aside_t; have x0 := MB.cell 2; have x1 := TB.cell 0; have x2 := TB.cell 1; have x3 := TB.cell 2; have FB := ho5.blk HFW.out aside_f; have q0 := FB.cell 0; have q1 := FB.cell 1; have z0 := FB.free 0; have z1 := FB.free 1; have MB2 := (MB.other (p := ⟨w.heap.size, 0, none⟩) (by show w.heap.size ≠ w2.heap.size + 1; omega) (.int .i64 0)).other (p := ⟨w.heap.size, 1, none⟩) (by show w.heap.size ≠ w2.heap.size + 1; omega) (.int .i64 (kk : Nat)); have TB2 := (TB.other (p := ⟨w.heap.size, 0, none⟩) (by show w.heap.size ≠ w2.heap.size; omega) (.int .i64 0)).other (p := ⟨w.heap.size, 1, none⟩) (by show w.heap.size ≠ w2.heap.size; omega) (.int .i64 (kk : Nat)); have u0 := MB2.cell 2; have u1 := TB2.cell 0; have u2 := TB2.cell 1; have u3 := TB2.cell 2))
          go_wp2
          refine bodyPost_ret (results_line _ rfl ((FB.set_ 0 _).set_ 1 _)) rfl ?_
          rw [HR.out]
          exact line_close hBg HBW.out hb5 ho5 HFW.out hk5
        · have HR : Hid (lineV ats s l = lift0 (Vert.beginReg s nm ks)) := by
            show _ = _
            unfold lineV
            rw [if_pos hlt, HTO.out, if_neg (by simp)]
            unfold tagLine
            dsimp only
            rw [if_neg (show ¬ nm = Vert.text from hnt), if_neg (by simp)]
            cases Vert.beginReg s nm ks <;> rfl
          have hq : (nm == [116, 101, 120, 116]) = false := by rw [beq_eq_false_iff_ne]; exact hnt
          go_enter Tryd.func12, Tryd.ntmps12
          go_wp2_with fail
          refine HP.out.mono ?_
          rintro en w1 ⟨rfl, rfl⟩
          go_wp2_with fail
          refine HPT.out.mono ?_
          rintro en w2 ⟨v, rfl, own2, hb2⟩
          obtain ⟨A2, c2, rfl, -, -⟩ := own_slc own2
          have hb3 : Below w2.heap.size w2 ((w2.alloc (.cells #[.bool false, str nm, .slice A2 ks.length c2] 68)).alloc (.cells #[.func (Fn.func 26) #[] #[], .func (Fn.func 27) #[] #[], .func (Fn.func 28) #[] #[], .func (Fn.func 29) #[] #[]] 73)).drew := (((Below.refl _ _).alloc (Nat.le_refl _) _).alloc (by simp) _).drew
          have hsz2 : w.heap.size < w2.heap.size := by have := hb2.size; rw [World.size_alloc] at this; omega
          have hbw2 : Below w.heap.size w w2 := HB1.out.trans (hb2.mono HB1.out.size)
          have HBW : Hid (Below w.heap.size w ((w2.alloc (.cells #[.bool false, str nm, .slice A2 ks.length c2] 68)).alloc (.cells #[.func (Fn.func 26) #[] #[], .func (Fn.func 27) #[] #[], .func (Fn.func 28) #[] #[], .func (Fn.func 29) #[] #[]] 73)).drew) := hbw2.trans (hb3.mono hbw2.size)
          have HFW := Lib.hid ((HFB.out.below hb2).below hb3)
          have HKW := Lib.hid ((HKB.out.below hb2).below hb3)
          have HTW : Hid (Blk ((w2.alloc (.cells #[.bool false, str nm, .slice A2 ks.length c2] 68)).alloc (.cells #[.func (Fn.func 26) #[] #[], .func (Fn.func 27) #[] #[], .func (Fn.func 28) #[] #[], .func (Fn.func 29) #[] #[]] 73)).drew w2.heap.size 68 #[.bool false, str nm, .slice A2 ks.length c2]) := ((Blk.new w2 _ _).alloc _).off (R := 4294967295) (Off.drew _) (by decide)
          have hmw := Blk.new (w2.alloc (.cells #[.bool false, str nm, .slice A2 ks.length c2] 68)) 73 #[.func (Fn.func 26) #[] #[], .func (Fn.func 27) #[] #[], .func (Fn.func 28) #[] #[], .func (Fn.func 29) #[] #[]]
          rw [World.size_alloc] at hmw
          have HMW := Lib.hid (hmw.off (R := 4294967295) (Off.drew _) (by decide))
          have hoW : Hid (World.ownsRow ((w2.alloc (.cells #[.bool false, str nm, .slice A2 ks.length c2] 68)).alloc (.cells #[.func (Fn.func 26) #[] #[], .func (Fn.func 27) #[] #[], .func (Fn.func 28) #[] #[], .func (Fn.func 29) #[] #[]] 73)).drew B 88 2 (.slice A2 ks.length c2) ks.length (ks.flatMap prV)) := own_below (own_base own2 (Nat.le_trans hBg HB1.out.size)) hb3
          have HC := Lib.hid (beginRegion_any B g h ats s false nm A2 ks.length c2 ks ((w2.alloc (.cells #[.bool false, str nm, .slice A2 ks.length c2] 68)).alloc (.cells #[.func (Fn.func 26) #[] #[], .func (Fn.func 27) #[] #[], .func (Fn.func 28) #[] #[], .func (Fn.func 29) #[] #[]] 73)).drew HKW.out (show nm.length ≤ _ by omega) hoW.out (fun p hp => goodK_len HGK.out p hp) (by have := HGK.out.1; omega))
          have HS12 := (⟨HMW.out.cell 0, HTW.out.cell 0, HTW.out.cell 1, HTW.out.cell 2⟩ : _ ∧ _ ∧ _ ∧ _)
          clear own2 hb2 hb3 hbw2 hmw hlt hnt
          go_wp2
          generalize hr : Vert.beginReg s nm ks = r at HR HC
          have HRR := Lib.hid hr
          clear hr
          go_region_held3 (fun W => W.cell? ⟨w2.heap.size + 1, 0, none⟩ = some (.func (Fn.func 26) #[] #[]) ∧ W.cell? ⟨w2.heap.size, 0, none⟩ = some (.bool false) ∧ W.cell? ⟨w2.heap.size, 1, none⟩ = some (str nm) ∧ W.cell? ⟨w2.heap.size, 2, none⟩ = some (.slice A2 ks.length c2)) (first | go_keep | exact ⟨x0, x1, x2, x3⟩ | exact ⟨u0, u1, u2, u3⟩) (first | (go_at_call 26; refine HC.out.mono ?_; intro en w5 hst; obtain ⟨kk, rfl, hb5, ho5, hk5⟩ := steps_lines hst; have MB := ho5.blk HMW.out aside_m; have TB := ho5.blk HTW.out aside_t; have x0 := MB.cell 0; have x1 := TB.cell 0; have x2 := TB.cell 1; have x3 := TB.cell 2; have FB := ho5.blk HFW.out aside_f; have q0 := FB.cell 0; have q1 := FB.cell 1; have z0 := FB.free 0; have z1 := FB.free 1; have MB2 := (MB.other (p := ⟨w.heap.size, 0, none⟩) (by show w.heap.size ≠ w2.heap.size + 1; omega) (.int .i64 0)).other (p := ⟨w.heap.size, 1, none⟩) (by show w.heap.size ≠ w2.heap.size + 1; omega) (.int .i64 (kk : Nat)); have TB2 := (TB.other (p := ⟨w.heap.size, 0, none⟩) (by show w.heap.size ≠ w2.heap.size; omega) (.int .i64 0)).other (p := ⟨w.heap.size, 1, none⟩) (by show w.heap.size ≠ w2.heap.size; omega) (.int .i64 (kk : Nat)); have u0 := MB2.cell 0; have u1 := TB2.cell 0; have u2 := TB2.cell 1; have u3 := TB2.cell 2))
          go_wp2
          refine bodyPost_ret (results_line _ rfl ((FB.set_ 0 _).set_ 1 _)) rfl ?_
          rw [HR.out]
          exact line_close hBg HBW.out hb5 ho5 HFW.out hk5
      | true =>
        by_cases hnt : nm = [116, 101, 120, 116]
        · have HR : Hid (lineV ats s l = lift0 (Vert.endText s)) := by
            show _ = _
            unfold lineV
            rw [if_pos hlt, HTO.out, if_neg (by simp)]
            unfold tagLine
            dsimp only
            rw [if_pos (show nm = Vert.text from hnt), if_pos rfl]
            cases Vert.endText s <;> rfl
          have hq : (nm == [116, 101, 120, 116]) = true := by rw [beq_iff_eq]; exact hnt
          go_enter Tryd.func12, Tryd.ntmps12
          go_wp2_with fail
          refine HP.out.mono ?_
          rintro en w1 ⟨rfl, rfl⟩
          go_wp2_with fail
          refine HPT.out.mono ?_
          rintro en w2 ⟨v, rfl, own2, hb2⟩
          obtain ⟨A2, c2, rfl, -, -⟩ := own_slc own2
          have hb3 : Below w2.heap.size w2 ((w2.alloc (.cells #[.bool true, str nm, .slice A2 ks.length c2] 68)).alloc (.cells #[.func (Fn.func 26) #[] #[], .func (Fn.func 27) #[] #[], .func (Fn.func 28) #[] #[], .func (Fn.func 29) #[] #[]] 73)).drew := (((Below.refl _ _).alloc (Nat.le_refl _) _).alloc (by simp) _).drew
          have hsz2 : w.heap.size < w2.heap.size := by have := hb2.size; rw [World.size_alloc] at this; omega
          have hbw2 : Below w.heap.size w w2 := HB1.out.trans (hb2.mono HB1.out.size)
          have HBW : Hid (Below w.heap.size w ((w2.alloc (.cells #[.bool true, str nm, .slice A2 ks.length c2] 68)).alloc (.cells #[.func (Fn.func 26) #[] #[], .func (Fn.func 27) #[] #[], .func (Fn.func 28) #[] #[], .func (Fn.func 29) #[] #[]] 73)).drew) := hbw2.trans (hb3.mono hbw2.size)
          have HFW := Lib.hid ((HFB.out.below hb2).below hb3)
          have HKW := Lib.hid ((HKB.out.below hb2).below hb3)
          have HTW : Hid (Blk ((w2.alloc (.cells #[.bool true, str nm, .slice A2 ks.length c2] 68)).alloc (.cells #[.func (Fn.func 26) #[] #[], .func (Fn.func 27) #[] #[], .func (Fn.func 28) #[] #[], .func (Fn.func 29) #[] #[]] 73)).drew w2.heap.size 68 #[.bool true, str nm, .slice A2 ks.length c2]) := ((Blk.new w2 _ _).alloc _).off (R := 4294967295) (Off.drew _) (by decide)
          have hmw := Blk.new (w2.alloc (.cells #[.bool true, str nm, .slice A2 ks.length c2] 68)) 73 #[.func (Fn.func 26) #[] #[], .func (Fn.func 27) #[] #[], .func (Fn.func 28) #[] #[], .func (Fn.func 29) #[] #[]]
          rw [World.size_alloc] at hmw
          have HMW := Lib.hid (hmw.off (R := 4294967295) (Off.drew _) (by decide))
          have hoW : Hid (World.ownsRow ((w2.alloc (.cells #[.bool true, str nm, .slice A2 ks.length c2] 68)).alloc (.cells #[.func (Fn.func 26) #[] #[], .func (Fn.func 27) #[] #[], .func (Fn.func 28) #[] #[], .func (Fn.func 29) #[] #[]] 73)).drew B 88 2 (.slice A2 ks.length c2) ks.length (ks.flatMap prV)) := own_below (own_base own2 (Nat.le_trans hBg HB1.out.size)) hb3
          have HC := Lib.hid (endText_any B g h ats s #[.bool true, str nm, .slice A2 ks.length c2] ((w2.alloc (.cells #[.bool true, str nm, .slice A2 ks.length c2] 68)).alloc (.cells #[.func (Fn.func 26) #[] #[], .func (Fn.func 27) #[] #[], .func (Fn.func 28) #[] #[], .func (Fn.func 29) #[] #[]] 73)).drew HKW.out)
          have HS12 := (⟨HMW.out.cell 3, HTW.out.cell 0, HTW.out.cell 1, HTW.out.cell 2⟩ : _ ∧ _ ∧ _ ∧ _)
          clear own2 hb2 hb3 hbw2 hmw hlt hnt
          go_wp2
          generalize hr : Vert.endText s = r at HR HC
          have HRR := Lib.hid hr
          clear hr
          go_region_held3 (fun W => W.cell? ⟨w2.heap.size + 1, 3, none⟩ = some (.func (Fn.func 29) #[] #[]) ∧ W.cell? ⟨w2.heap.size, 0, none⟩ = some (.bool true) ∧ W.cell? ⟨w2.heap.size, 1, none⟩ = some (str nm) ∧ W.cell? ⟨w2.heap.size, 2, none⟩ = some (.slice A2 ks.length c2)) (first | go_keep | exact ⟨x0, x1, x2, x3⟩ | exact ⟨u0, u1, u2, u3⟩) (first | (go_at_call 29; refine HC.out.mono ?_; intro en w5 hst; obtain ⟨kk, rfl, hb5, ho5, hk5⟩ := steps_lines hst; have MB := ho5.blk HMW.out aside_m; have TB := ho5.blk HTW.out aside_t; have x0 := MB.cell 3; have x1 := TB.cell 0; have x2 := TB.cell 1; have x3 := TB.cell 2; have FB := ho5.blk HFW.out aside_f; have q0 := FB.cell 0; have q1 := FB.cell 1; have z0 := FB.free 0; have z1 := FB.free 1; have MB2 := (MB.other (p := ⟨w.heap.size, 0, none⟩) (by show w.heap.size ≠ w2.heap.size + 1; omega) (.int .i64 0)).other (p := ⟨w.heap.size, 1, none⟩) (by show w.heap.size ≠ w2.heap.size + 1; omega) (.int .i64 (kk : Nat)); have TB2 := (TB.other (p := ⟨w.heap.size, 0, none⟩) (by show w.heap.size ≠ w2.heap.size; omega) (.int .i64 0)).other (p := ⟨w.heap.size, 1, none⟩) (by show w.heap.size ≠ w2.heap.size; omega) (.int .i64 (kk : Nat)); have u0 := MB2.cell 3; have u1 := TB2.cell 0; have u2 := TB2.cell 1; have u3 := TB2.cell 2))
          go_wp2
          refine bodyPost_ret (results_line _ rfl ((FB.set_ 0 _).set_ 1 _)) rfl ?_
          rw [HR.out]
          exact line_close hBg HBW.out hb5 ho5 HFW.out hk5
        · have HR : Hid (lineV ats s l = lift0 (Vert.endReg s nm)) := by
            show _ = _
            unfold lineV
            rw [if_pos hlt, HTO.out, if_neg (by simp)]
            unfold tagLine
            dsimp only
            rw [if_neg (show ¬ nm = Vert.text from hnt), if_pos rfl]
            cases Vert.endReg s nm <;> rfl
          have hq : (nm == [116, 101, 120, 116]) = false := by rw [beq_eq_false_iff_ne]; exact hnt
          go_enter Tryd.func12, Tryd.ntmps12
          go_wp2_with fail
          refine HP.out.mono ?_
          rintro en w1 ⟨rfl, rfl⟩
          go_wp2_with fail
          refine HPT.out.mono ?_
          rintro en w2 ⟨v, rfl, own2, hb2⟩
          obtain ⟨A2, c2, rfl, -, -⟩ := own_slc own2
          have hb3 : Below w2.heap.size w2 ((w2.alloc (.cells #[.bool true, str nm, .slice A2 ks.length c2] 68)).alloc (.cells #[.func (Fn.func 26) #[] #[], .func (Fn.func 27) #[] #[], .func (Fn.func 28) #[] #[], .func (Fn.func 29) #[] #[]] 73)).drew := (((Below.refl _ _).alloc (Nat.le_refl _) _).alloc (by simp) _).drew
          have hsz2 : w.heap.size < w2.heap.size := by have := hb2.size; rw [World.size_alloc] at this; omega
          have hbw2 : Below w.heap.size w w2 := HB1.out.trans (hb2.mono HB1.out.size)
          have HBW : Hid (Below w.heap.size w ((w2.alloc (.cells #[.bool true, str nm, .slice A2 ks.length c2] 68)).alloc (.cells #[.func (Fn.func 26) #[] #[], .func (Fn.func 27) #[] #[], .func (Fn.func 28) #[] #[], .func (Fn.func 29) #[] #[]] 73)).drew) := hbw2.trans (hb3.mono hbw2.size)
          have HFW := Lib.hid ((HFB.out.below hb2).below hb3)
          have HKW := Lib.hid ((HKB.out.below hb2).below hb3)
          have HTW : Hid (Blk ((w2.alloc (.cells #[.bool true, str nm, .slice A2 ks.length c2] 68)).alloc (.cells #[.func (Fn.func 26) #[] #[], .func (Fn.func 27) #[] #[], .func (Fn.func 28) #[] #[], .func (Fn.func 29) #[] #[]] 73)).drew w2.heap.size 68 #[.bool true, str nm, .slice A2 ks.length c2]) := ((Blk.new w2 _ _).alloc _).off (R := 4294967295) (Off.drew _) (by decide)
          have hmw := Blk.new (w2.alloc (.cells #[.bool true, str nm, .slice A2 ks.length c2] 68)) 73 #[.func (Fn.func 26) #[] #[], .func (Fn.func 27) #[] #[], .func (Fn.func 28) #[] #[], .func (Fn.func 29) #[] #[]]
          rw [World.size_alloc] at hmw
          have HMW := Lib.hid (hmw.off (R := 4294967295) (Off.drew _) (by decide))
          have hoW : Hid (World.ownsRow ((w2.alloc (.cells #[.bool true, str nm, .slice A2 ks.length c2] 68)).alloc (.cells #[.func (Fn.func 26) #[] #[], .func (Fn.func 27) #[] #[], .func (Fn.func 28) #[] #[], .func (Fn.func 29) #[] #[]] 73)).drew B 88 2 (.slice A2 ks.length c2) ks.length (ks.flatMap prV)) := own_below (own_base own2 (Nat.le_trans hBg HB1.out.size)) hb3
          have HC := Lib.hid (endRegion_any B g h ats s true nm A2 ks.length c2 ((w2.alloc (.cells #[.bool true, str nm, .slice A2 ks.length c2] 68)).alloc (.cells #[.func (Fn.func 26) #[] #[], .func (Fn.func 27) #[] #[], .func (Fn.func 28) #[] #[], .func (Fn.func 29) #[] #[]] 73)).drew HKW.out)
          have HS12 := (⟨HMW.out.cell 1, HTW.out.cell 0, HTW.out.cell 1, HTW.out.cell 2⟩ : _ ∧ _ ∧ _ ∧ _)
          clear own2 hb2 hb3 hbw2 hmw hlt hnt
          go_wp2
          generalize hr : Vert.endReg s nm = r at HR HC
          have HRR := Lib.hid hr
          clear hr
          go_region_held3 (fun W => W.cell? ⟨w2.heap.size + 1, 1, none⟩ = some (.func (Fn.func 27) #[] #[]) ∧ W.cell? ⟨w2.heap.size, 0, none⟩ = some (.bool true) ∧ W.cell? ⟨w2.heap.size, 1, none⟩ = some (str nm) ∧ W.cell? ⟨w2.heap.size, 2, none⟩ = some (.slice A2 ks.length c2)) (first | go_keep | exact ⟨x0, x1, x2, x3⟩ | exact ⟨u0, u1, u2, u3⟩) (first | (go_at_call 27; refine HC.out.mono ?_; intro en w5 hst; obtain ⟨kk, rfl, hb5, ho5, hk5⟩ := steps_lines hst; have MB := ho5.blk HMW.out aside_m; have TB := ho5.blk HTW.out aside_t; have x0 := MB.cell 1; have x1 := TB.cell 0; have x2 := TB.cell 1; have x3 := TB.cell 2; have FB := ho5.blk HFW.out aside_f; have q0 := FB.cell 0; have q1 := FB.cell 1; have z0 := FB.free 0; have z1 := FB.free 1; have MB2 := (MB.other (p := ⟨w.heap.size, 0, none⟩) (by show w.heap.size ≠ w2.heap.size + 1; omega) (.int .i64 0)).other (p := ⟨w.heap.size, 1, none⟩) (by show w.heap.size ≠ w2.heap.size + 1; omega) (.int .i64 (kk : Nat)); have TB2 := (TB.other (p := ⟨w.heap.size, 0, none⟩) (by show w.heap.size ≠ w2.heap.size; omega) (.int .i64 0)).other (p := ⟨w.heap.size, 1, none⟩) (by show w.heap.size ≠ w2.heap.size; omega) (.int .i64 (kk : Nat)); have u0 := MB2.cell 1; have u1 := TB2.cell 0; have u2 := TB2.cell 1; have u3 := TB2.cell 2))
          go_wp2
          refine bodyPost_ret (results_line _ rfl ((FB.set_ 0 _).set_ 1 _)) rfl ?_
          rw [HR.out]
          exact line_close hBg HBW.out hb5 ho5 HFW.out hk5
    · have HR : Hid (lineV ats s l = .error (at_, er)) := by
        show _ = _
        unfold lineV
        rw [if_pos hlt, HTO.out, if_pos he]
      have hq : ((er : Int) != 0) = true := by rw [bne_iff_ne]; omega
      go_enter Tryd.func12, Tryd.ntmps12
      go_wp2_with fail
      refine HP.out.mono ?_
      rintro en w1 ⟨rfl, rfl⟩
      go_wp2_with fail
      refine HPT.out.mono ?_
      rintro en w2 ⟨v, rfl, own2, hb2⟩
      obtain ⟨A2, c2, rfl, -, -⟩ := own_slc own2
      have HB2 : Hid (Below w.heap.size w (w2.alloc (.cells #[.bool cl, str nm, .slice A2 ks.length c2] 68))) := (HB1.out.trans (hb2.mono HB1.out.size)).alloc (Nat.le_trans HB1.out.size hb2.size) _
      have HF2 := Lib.hid ((HFB.out.below hb2).alloc (.cells #[.bool cl, str nm, .slice A2 ks.length c2] 68))
      have q0 : _ = some (Value.int .i64 0) := HF2.out.cell 0
      have q1 : _ = some (Value.int .i64 0) := HF2.out.cell 1
      have y0 := HF2.out.free 0
      have y1 := HF2.out.free 1
      clear own2 hb2 hlt he
      go_wp2
      refine bodyPost_ret (results_line _ rfl ((HF2.out.set_ 0 _).set_ 1 _)) rfl ?_
      rw [HR.out]
      exact Lines.err hBg ((HB2.out.setCell (p := ⟨w.heap.size, 0, none⟩) (Nat.le_refl _) _).setCell (p := ⟨w.heap.size, 1, none⟩) (Nat.le_refl _) _) rfl
  · rw [decide_eq_false hlt] at HP
    have HR : Hid (lineV ats s l = Vert.tokenP ats s l) := by show _ = _; unfold lineV; rw [if_neg hlt]
    have hm1 : (w.alloc (.cells #[.int .i64 0, .int .i64 0] 48)).cell? ⟨0, 0, none⟩ = some (.int .i64 m) := (HB1.out.cell (by show 0 < w.heap.size; omega)).trans hm
    have HT := Lib.hid (token_any B g h ats s l m (w.alloc (.cells #[.int .i64 0, .int .i64 0] 48)) HKB.out hB hl hm1)
    unfold Lines at HT
    clear hlt hb1 hF kb k hm1
    cases hr : Vert.tokenP ats s l with
    | error p =>
      rw [hr] at HT HR
      dsimp only at HT
      clear hr
      go_enter Tryd.func12, Tryd.ntmps12
      go_wp2_with fail
      refine HP.out.mono ?_
      rintro en w1 ⟨rfl, rfl⟩
      go_wp2_with fail
      refine HT.out.mono ?_
      rintro en w2 ⟨hb2, ho2, rfl⟩
      have HF2 := Lib.hid (ho2.blk HFB.out aside_f)
      have HB2 : Hid (Below B w w2) := (HB1.out.mono hBg).trans hb2
      have HO2 : Hid (Only w w2) := (Only.below HB1.out).trans ho2
      have q0 : _ = some (Value.int .i64 0) := HF2.out.cell 0
      have q1 : _ = some (Value.int .i64 0) := HF2.out.cell 1
      have y0 := HF2.out.free 0
      have y1 := HF2.out.free 1
      clear hb2 ho2
      go_wp2
      refine bodyPost_ret (results_line _ rfl ((HF2.out.set_ 0 _).set_ 1 _)) rfl ?_
      rw [HR.out]
      exact ⟨(HB2.out.setCell (p := ⟨w.heap.size, 0, none⟩) hBg _).setCell (p := ⟨w.heap.size, 1, none⟩) hBg _, (HO2.out.new (p := ⟨w.heap.size, 0, none⟩) (Nat.le_refl _) _).new (p := ⟨w.heap.size, 1, none⟩) (Nat.le_refl _) _, rfl⟩
    | ok y =>
      rw [hr] at HT HR
      dsimp only at HT
      clear hr
      go_enter Tryd.func12, Tryd.ntmps12
      go_wp2_with fail
      refine HP.out.mono ?_
      rintro en w1 ⟨rfl, rfl⟩
      go_wp2_with fail
      refine HT.out.mono ?_
      rintro en w2 ⟨hb2, ho2, rfl, h2, k2⟩
      have HF2 := Lib.hid (ho2.blk HFB.out aside_f)
      have HB2 : Hid (Below B w w2) := (HB1.out.mono hBg).trans hb2
      have HO2 : Hid (Only w w2) := (Only.below HB1.out).trans ho2
      have HK2 := Lib.hid k2
      have q0 : _ = some (Value.int .i64 0) := HF2.out.cell 0
      have q1 : _ = some (Value.int .i64 0) := HF2.out.cell 1
      have y0 := HF2.out.free 0
      have y1 := HF2.out.free 1
      clear hb2 ho2 k2
      go_wp2
      refine bodyPost_ret (results_line _ rfl ((HF2.out.set_ 0 _).set_ 1 _)) rfl ?_
      rw [HR.out]
      exact ⟨(HB2.out.setCell (p := ⟨w.heap.size, 0, none⟩) hBg _).setCell (p := ⟨w.heap.size, 1, none⟩) hBg _, (HO2.out.new (p := ⟨w.heap.size, 0, none⟩) (Nat.le_refl _) _).new (p := ⟨w.heap.size, 1, none⟩) (Nat.le_refl _) _, rfl, h2, (HK2.out.off (Off.set_ HF2.out 0 _) (by decide)).off (Off.set_ (HF2.out.set_ 0 _) 1 _) (by decide)⟩
end Go.Proofs.YtgkdaebiefhgdaaDoor
