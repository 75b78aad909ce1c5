/-
  The contracts of the reference's Parse and SameStrings. Condition: the text's length is an int; lists' lengths are ints.
-/
import Derived.Test.YtnbnmomichegaaaDepRefParse
import Derived.Test.YtnbnmomichegaaaDepRefProj
import Derived.Test.YtnbnmomichegaaaDepLaws4
namespace Go.Proofs.Ytnbnmomichegaaa
open Go.RowKit Utf Dep
open Feat (Bs)

theorem results_rtop {w : World} {g : Nat} {x y : Value} (tmps : Array Value) (h6 : tmps.getD 6 undef = .pointer (some ⟨g, 0, none⟩)) (hg : Blk w g 36 #[x, y]) :
    (results Try.f22 tmps).run Try.prog w = .ok (.tuple #[tmps.getD 4 undef, tmps.getD 5 undef, .agg #[x, y], tmps.getD 7 undef]) w := by
  have hp' : tmps[6]?.getD undef = .pointer (some ⟨g, 0, none⟩) := by simpa using h6
  have c0 := hg.cell 0
  have c1 := hg.cell 1
  simp only [List.getElem?_toArray, List.getElem?_cons_zero, List.getElem?_cons_succ] at c0 c1
  simp [results, Try.f22, hp', asAddr, c0, c1, go_sem]
namespace Dep
theorem parseD_ok (d : Bs) (T : Nat) : match parseD d T with
    | .ok (H', R', O') => H'.length ≤ T ∧ R'.length = H'.length ∧ O'.length = H'.length ∧ ∀ o ∈ O', o ≤ d.length
    | .error (x, e) => x ≤ d.length ∧ e ≠ 0 := by
  have := parseF_ok (T := T) (d.length + 1) 0 d [] [] [] (by simp) rfl rfl (fun o ho => by simp at ho)
  simp only [Nat.zero_add] at this
  exact this
theorem parseD_ne {d : Bs} {T a e : Nat} (h : parseD d T = .error (a, e)) : e ≠ 0 := by
  have := parseD_ok d T
  rw [h] at this
  exact this.2
theorem parseR_at (d : Bs) (T : Nat) (h : (parseR d T).2.2.2 ≠ 0) : (parseR d T).1 = [] ∧ (parseR d T).2.1 = [] ∧ (parseR d T).2.2.1 ≤ d.length := by
  have hok := parseD_ok d T
  cases hp : parseD d T with
  | error p =>
    obtain ⟨a, e⟩ := p
    rw [hp] at hok
    rw [parseR_err hp]
    exact ⟨rfl, rfl, hok.1⟩
  | ok p =>
    obtain ⟨H, R, O⟩ := p
    rw [hp] at hok
    obtain ⟨h1, h2, h3, h4⟩ := hok
    by_cases hf : H.length < T
    · rw [parseR_few hp hf]; exact ⟨rfl, rfl, Nat.le_refl _⟩
    · by_cases hc : (chk H).2 = 0
      · rw [parseR_ok hp hf hc] at h; exact absurd rfl h
      · rw [parseR_chk hp hf hc]
        refine ⟨rfl, rfl, ?_⟩
        show O.getD (chk H).1 0 ≤ _
        by_cases hi : (chk H).1 < O.length
        · have : O.getD (chk H).1 0 = O[(chk H).1] := by simp [hi]
          rw [this]
          exact h4 _ (List.getElem_mem hi)
        · have : O.getD (chk H).1 0 = 0 := by rw [List.getD_eq_getElem?_getD, List.getElem?_eq_none (by omega)]; rfl
          rw [this]; omega
theorem parseR_zero (d : Bs) (T : Nat) (h : (parseR d T).2.2.2 = 0) : (parseR d T).2.2.1 = 0 := by
  cases hp : parseD d T with
  | error p =>
    obtain ⟨a, e⟩ := p
    rw [parseR_err hp] at h
    exact absurd h (parseD_ne hp)
  | ok p =>
    obtain ⟨H, R, O⟩ := p
    by_cases hf : H.length < T
    · rw [parseR_few hp hf] at h; cases h
    · by_cases hc : (chk H).2 = 0
      · rw [parseR_ok hp hf hc]
      · rw [parseR_chk hp hf hc] at h; exact absurd h hc
theorem parseR_O (d : Bs) (T : Nat) : parseO d T = if (parseR d T).2.2.2 ≠ 0 then ([], [], Pos.posOf d (parseR d T).2.2.1, (parseR d T).2.2.2) else ((parseR d T).1, (parseR d T).2.1, (0, 0), 0) := by
  unfold parseO parseR
  cases hp : parseD d T with
  | error p =>
    obtain ⟨a, e⟩ := p
    simp only []
    by_cases he : e ≠ 0
    · rw [if_pos he]
    · exact absurd (parseD_ne hp) he
  | ok p =>
    obtain ⟨H, R, O⟩ := p
    simp only []
    by_cases h1 : H.length < T
    · rw [if_pos h1, if_pos h1]; rfl
    · rw [if_neg h1, if_neg h1]
      by_cases h2 : (chk H).2 ≠ 0
      · rw [if_pos h2, if_pos h2]; simp only []; rw [if_pos h2]
      · rw [if_neg h2, if_neg h2]; rfl
theorem parseO_bad {d : Bs} {T x e : Nat} (h : parseR d T = ([], [], x, e)) (he : e ≠ 0) : parseO d T = ([], [], Pos.posOf d x, e) := by
  rw [parseR_O, h]; exact if_pos he
theorem parseO_good {d : Bs} {T x : Nat} {H : List Int} {R : List Bs} (h : parseR d T = (H, R, x, 0)) : parseO d T = (H, R, (0, 0), 0) := by
  rw [parseR_O, h]; rfl
end Dep
theorem strs_inj {a b : List Bs} (h : a = b) : strs a = strs b := by rw [h]
attribute [local go_sem] byte_mk ByteArray.extract_mk

set_option maxRecDepth 100000 in
set_option maxHeartbeats 4000000 in
theorem refTop_any (d : Bs) (t : Int) (hd : d.length ≤ 9223372036854775807) (w : World) :
    Calls Try.prog 22 #[str d, .int .i64 t] w (Parsd (parseA d t) w) := by
  have HB2 : Hid (∀ a b, Blk (w.alloc (.cells #[a, b] 36)) w.heap.size 36 #[a, b]) := fun a b => Blk.new w _ _
  have HB1 : Hid (∀ a b, Below w.heap.size w (w.alloc (.cells #[a, b] 36))) := fun a b => (Below.refl w.heap.size w).alloc (Nat.le_refl _) _
  by_cases ht0 : t < 0
  · have HP := Lib.hid (parseA_arg (d := d) (t := t) (.inl ht0))
    go_enter Try.func22, Try.ntmps22
    go_wp2
    refine bodyPost_ret (results_rtop _ rfl (HB2.out _ _)) rfl ?_
    exact parsd_nil HP.out (HB1.out _ _) rfl
  · by_cases ht1 : 4096 < t
    · have HP := Lib.hid (parseA_arg (d := d) (t := t) (.inr ht1))
      go_enter Try.func22, Try.ntmps22
      go_wp2
      refine bodyPost_ret (results_rtop _ rfl (HB2.out _ _)) rfl ?_
      exact parsd_nil HP.out (HB1.out _ _) rfl
    · by_cases hdl : 1048576 < d.length
      · have HP := Lib.hid (parseA_long (d := d) (t := t) (by omega) hdl)
        go_enter Try.func22, Try.ntmps22
        go_wp2
        refine bodyPost_ret (results_rtop _ rfl (HB2.out _ _)) rfl ?_
        exact parsd_nil HP.out (HB1.out _ _) rfl
      · obtain ⟨T, rfl⟩ : ∃ T : Nat, t = T := ⟨t.toNat, by omega⟩
        have hT : T ≤ 4096 := by omega
        have HP := Lib.hid (parseA_in (d := d) hT hdl)
        have hb0 := HB2.out (.int .i64 0) (.int .i64 0)
        have hB0 := HB1.out (.int .i64 0) (.int .i64 0)
        have hd2 : d.length ≤ 1048576 := by omega
        have hrp := fun W => refparse_any d T hd2 hT W
        have hat := parseR_at d T
        obtain ⟨PH, PR, x, e, hp⟩ : ∃ PH PR x e, parseR d T = (PH, PR, x, e) := ⟨_, _, _, _, rfl⟩
        unfold Rparsd at hrp
        rw [hp] at hrp hat
        dsimp only at hrp hat
        have HRP := Lib.hid hrp
        have HPP := Lib.hid hp
        have HAT := Lib.hid hat
        clear hd hdl ht0 ht1 hrp hp hat
        go_enter Try.func22, Try.ntmps22
        go_wp2_with fail
        refine (HRP.out _).mono ?_
        rintro en w1 ⟨v1, v2, rfl, own1, own2, hb1⟩
        have hblk1 := Blk.below hb0 hb1
        have hB1 := hB0.trans (Below.mono hb1 hB0.size)
        obtain ⟨A1, c1, rfl, -, -⟩ := own_slc own1
        obtain ⟨A2, c2, rfl, -, -⟩ := own_slc own2
        have OH := Lib.hid own1
        have OR := Lib.hid own2
        clear own1 own2
        have c0 := hblk1.cell 0
        have c1' := hblk1.cell 1
        have f0 := hblk1.free 0
        have f1 := hblk1.free 1
        simp only [List.getElem?_toArray, List.getElem?_cons_zero, List.getElem?_cons_succ] at c0 c1'
        by_cases he : e = 0
        · have E : ((e : Int) != 0) = false := by rw [he]; rfl
          have HF : Hid (parseO d T = (PH, PR, (0, 0), 0)) := parseO_good (x := x) (by rw [HPP.out, he])
          clear he
          go_wp2
          refine bodyPost_ret (results_rtop _ rfl ((hblk1.set_ 0 _).set_ 1 _)) rfl ?_
          rw [HP.out, HF.out]
          exact ⟨_, _, rfl, own_same (own_base OH.out (by simp)) (fun g hg => (Below.heap_setCell _ _ _ _ (by have := (OH.out.lt g hg).1; simp at this; show g ≠ w.heap.size; omega)).trans (Below.heap_setCell _ _ _ _ (by have := (OH.out.lt g hg).1; simp at this; show g ≠ w.heap.size; omega))), own_same (own_base OR.out (by simp)) (fun g hg => (Below.heap_setCell _ _ _ _ (by have := (OR.out.lt g hg).1; simp at this; show g ≠ w.heap.size; omega)).trans (Below.heap_setCell _ _ _ _ (by have := (OR.out.lt g hg).1; simp at this; show g ≠ w.heap.size; omega))), (hB1.setCell (p := ⟨w.heap.size, 0, none⟩) (Nat.le_refl _) _).setCell (p := ⟨w.heap.size, 1, none⟩) (Nat.le_refl _) _⟩
        · have E : ((e : Int) != 0) = true := by rw [bne_iff_ne]; omega
          obtain ⟨g1, g2, g3⟩ := HAT.out he
          subst g1 g2
          have HF := Lib.hid (parseO_bad HPP.out he)
          clear he
          clear c0 c1' f0 f1
          go_wp2_with fail
          refine (refPosition_any d x (by omega) g3 _).mono ?_
          rintro en w3 ⟨rfl, hb3⟩
          have hblk3 := hblk1.below hb3
          have hB3 := hB1.trans (hb3.mono hB1.size)
          have c0 := hblk3.cell 0
          have c1' := hblk3.cell 1
          have f0 := hblk3.free 0
          have f1 := hblk3.free 1
          simp only [List.getElem?_toArray, List.getElem?_cons_zero, List.getElem?_cons_succ] at c0 c1'
          go_wp2
          refine bodyPost_ret (results_rtop _ rfl ((hblk3.set_ 0 _).set_ 1 _)) rfl ?_
          exact parsd_nil (HP.out.trans HF.out) ((hB3.setCell (p := ⟨w.heap.size, 0, none⟩) (Nat.le_refl _) _).setCell (p := ⟨w.heap.size, 1, none⟩) (Nat.le_refl _) _) rfl
end Go.Proofs.Ytnbnmomichegaaa
