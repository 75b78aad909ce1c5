/-
  The contract of depend.Parse: heads and relations in memory of their own, the position and the error. Condition: the text's length is an int.
-/
import Derived.Test.YtnbnmomichegaaaDoorDepParseP
import Derived.Test.YtnbnmomichegaaaDoorFam
import Derived.Maps.AppendAt
import Derived.RegionTactic
import Derived.Deep.RegionLaw
namespace Go.Proofs.YtnbnmomichegaaaDoor
open Go.RowKit Utf Dep
open Feat (Bs)

/-- What Parse hands back. -/
def Parsd (p : List Int × List Bs × (Nat × Nat) × Nat) (w : World) (e : Ending) (w' : World) : Prop :=
  ∃ v1 v2, e = .returned (.tuple #[v1, v2, .agg #[.int .i64 (p.2.2.1.1 : Nat), .int .i64 (p.2.2.1.2 : Nat)], .int .i64 (p.2.2.2 : Nat)]) ∧ w'.ownsRow w.heap.size 3 1 v1 p.1.length (ints p.1) ∧ w'.ownsRow w.heap.size 9 1 v2 p.2.1.length (strs p.2.1) ∧ Below w.heap.size w w'
theorem parsd_nil {p : List Int × List Bs × (Nat × Nat) × Nat} {a b k : Nat} {w w' : World} (h : p = ([], [], (a, b), k)) (hb : Below w.heap.size w w') {en : Ending} (he : en = .returned (.tuple #[.slice none 0 0, .slice none 0 0, .agg #[.int .i64 (a : Nat), .int .i64 (b : Nat)], .int .i64 (k : Nat)])) : Parsd p w en w' := by
  subst h; exact ⟨_, _, he, World.ownsRow_nil _ _ _ _, World.ownsRow_nil _ _ _ _, hb⟩
theorem results_parse {w : World} {g : Nat} {x y : Value} (tmps : Array Value) (h6 : tmps.getD 6 undef = .pointer (some ⟨g, 0, none⟩)) (hg : Blk w g 30 #[x, y]) :
    (results Tryd.f9 tmps).run Tryd.prog w = .ok (.tuple #[tmps.getD 4 undef, tmps.getD 5 undef, .agg #[x, y], tmps.getD 7 undef]) w := by
  have hp' : tmps[6]?.getD undef = .pointer (some ⟨g, 0, none⟩) := by simpa using h6
  have c0 := hg.cell 0
  have c1 := hg.cell 1
  simp only [List.getElem?_toArray, List.getElem?_cons_zero, List.getElem?_cons_succ] at c0 c1
  simp [results, Tryd.f9, hp', asAddr, c0, c1, go_sem]
theorem position_is {l : Bs} {x : Int} {k : Nat} (hx : x = (k : Nat)) (hl : l.length ≤ 2097152) (w : World) : Calls Tryd.prog 23 #[str l, .int .i64 x] w (Posd (Pos.posOf l k) w) := by subst hx; exact position_any l k hl w
attribute [local go_sem] byte_mk ByteArray.extract_mk

set_option maxRecDepth 100000 in
set_option maxHeartbeats 4000000 in
theorem depParse_any (d : Bs) (t : Int) (hd : d.length ≤ 9223372036854775807) (w : World) :
    Calls Tryd.prog 9 #[str d, .int .i64 t] w (Parsd (parseA d t) w) := by
  have HB2 : Hid (∀ a b, Blk (w.alloc (.cells #[a, b] 30)) w.heap.size 30 #[a, b]) := fun a b => Blk.new w _ _
  have HB1 : Hid (∀ a b, Below w.heap.size w (w.alloc (.cells #[a, b] 30))) := fun a b => (Below.refl w.heap.size w).alloc (Nat.le_refl _) _
  obtain ⟨i0, hi0, hz0, hz1, hz2⟩ := info_parts info_int
  obtain ⟨j0, hj0, hy0, hy1, hy2⟩ := info_parts info_string
  by_cases ht0 : t < 0
  · have HP := Lib.hid (parseA_arg (d := d) (t := t) (.inl ht0))
    go_enter Tryd.func9, Tryd.ntmps9
    go_wp2
    refine bodyPost_ret (results_parse _ rfl (HB2.out _ _)) rfl ?_
    exact parsd_nil HP.out (HB1.out _ _) rfl
  · by_cases ht1 : 4096 < t
    · have HP := Lib.hid (parseA_arg (d := d) (t := t) (.inr ht1))
      go_enter Tryd.func9, Tryd.ntmps9
      go_wp2
      refine bodyPost_ret (results_parse _ rfl (HB2.out _ _)) rfl ?_
      exact parsd_nil HP.out (HB1.out _ _) rfl
    · by_cases hdl : 1048576 < d.length
      · have HP := Lib.hid (parseA_long (d := d) (t := t) (by omega) hdl)
        go_enter Tryd.func9, Tryd.ntmps9
        go_wp2
        refine bodyPost_ret (results_parse _ rfl (HB2.out _ _)) rfl ?_
        exact parsd_nil HP.out (HB1.out _ _) rfl
      · obtain ⟨T, rfl⟩ : ∃ T : Nat, t = T := ⟨t.toNat, by omega⟩
        have hT : T ≤ 4096 := by omega
        have HP := Lib.hid (parseA_in (d := d) hT hdl)
        have hb0 := HB2.out (.int .i64 0) (.int .i64 0)
        have hB0 := HB1.out (.int .i64 0) (.int .i64 0)
        have hd2 : d.length ≤ 1048576 := by omega
        clear hd hdl ht0 ht1
        go_enter Tryd.func9, Tryd.ntmps9
        go_wp2
        go_loopw [9, 4, 5, 8] (fun av hv rv ov wr => ∃ (f a : Nat) (H : List Int) (R : List Bs) (O : List Nat) (Ah Ar Ao : Option Addr) (ch cr co : Nat),
            av = .int .i64 a ∧ a ≤ d.length + 1 ∧ hv = .slice Ah H.length ch ∧ rv = .slice Ar R.length cr ∧ ov = .slice Ao O.length co ∧ H.length ≤ T ∧ Hid (R.length = H.length ∧ O.length = H.length ∧ ∀ o ∈ O, o ≤ d.length) ∧ Hid (d.length - a < f) ∧
            Hid (wr.ownsRow (w.heap.size + 1) 3 1 (.slice Ah H.length ch) H.length (ints H)) ∧ Hid (wr.ownsRow (w.heap.size + 1) 9 1 (.slice Ar R.length cr) R.length (strs R)) ∧ Hid (wr.ownsRow (w.heap.size + 1) 3 1 (.slice Ao O.length co) O.length (nats O)) ∧
            Hid (∀ b, (Value.slice Ah H.length ch).ownBlock = some b → (Value.slice Ao O.length co).ownBlock ≠ some b) ∧ Blk wr w.heap.size 30 #[.int .i64 0, .int .i64 0] ∧ Below w.heap.size w wr ∧ Hid (parseD d T = parseF T f a (d.drop a) H R O)) (fun av _ _ _ _ => d.length + 1 - (intOf av).toNat)
        case atStart => exact ⟨d.length + 1, 0, [], [], [], none, none, none, 0, 0, 0, rfl, by omega, rfl, rfl, rfl, by simp, ⟨rfl, rfl, fun o ho => by simp at ho⟩, by show _ < _; omega, World.ownsRow_nil _ _ _ _, World.ownsRow_nil _ _ _ _, World.ownsRow_nil _ _ _ _, fun b hb => by simp [Value.ownBlock] at hb, hb0, hB0, rfl⟩
        case round =>
          obtain ⟨f, a, H, R, O, Ah, Ar, Ao, ch, cr, co, rfl, ha, rfl, rfl, rfl, hHT, hlens, hf, ownH, ownR, ownO, hdis, hblk, hB, hpar⟩ := hrel
          obtain ⟨wo, rfl⟩ : ∃ wo : World, wo = wr := ⟨_, rfl⟩
          by_cases hal : a < d.length
          · obtain ⟨f, rfl⟩ : ∃ k, f = k + 1 := ⟨f - 1, by have := hf.out; omega⟩
            obtain ⟨rest, hrest⟩ : ∃ rest, d.drop a = rest := ⟨_, rfl⟩
            have hrl : rest.length = d.length - a := by rw [← hrest]; simp
            have hrest' : d.drop a = rest := hrest
            have hrne : Hid (rest ≠ []) := by intro e; rw [e] at hrl; simp at hrl; omega
            have hs1 : ∀ W, (Instr.slice 9 (str d) (some (.int .i64 (a : Int))) none none).run Tryd.prog W = .ok (str rest) W := fun W => by rw [← hrest]; exact str_from 9 Tryd.underlying9 d a (by omega) W
            rw [hrest] at hpar
            have hsl := ln_len rest
            have hrl2 : rest.length ≤ 1048576 := by omega
            have HRL := Lib.hid hrl
            clear hrl
            go_wp2_with fail
            refine (cut_any rest (by omega) _).mono ?_
            rintro en w' ⟨r, b, rfl, q, rfl⟩
            have hBq := below_drewN hB q
            have hblkq : Blk (wo.drewN q) w.heap.size 30 #[.int .i64 0, .int .i64 0] := hblk
            obtain ⟨wq, hwq⟩ : ∃ wq, wo.drewN q = wq := ⟨_, rfl⟩
            have ownHq : Hid (wq.ownsRow (w.heap.size + 1) 3 1 (.slice Ah H.length ch) H.length (ints H)) := by rw [← hwq]; exact ownH.out
            have ownRq : Hid (wq.ownsRow (w.heap.size + 1) 9 1 (.slice Ar R.length cr) R.length (strs R)) := by rw [← hwq]; exact ownR.out
            have ownOq : Hid (wq.ownsRow (w.heap.size + 1) 3 1 (.slice Ao O.length co) O.length (nats O)) := by rw [← hwq]; exact ownO.out
            simp only [hwq] at hBq hblkq ⊢
            clear hwq ownH ownR ownO hB hblk hs1
            by_cases hmany : H.length = T
            · have HF := Lib.hid (parseO_err (hpar.out.trans (parseF_many hrne.out hmany)))
              have hm2 : ((H.length : Int) == (T : Int)) = true := by rw [beq_iff_eq]; omega
              clear hmany
              go_wp2_with fail
              refine (position_any d a (by omega) _).mono ?_
              rintro en w3 ⟨rfl, hb3⟩
              have hblk3 := hblkq.below hb3
              have hB3 := hBq.trans (hb3.mono hBq.size)
              have c0 := hblk3.cell 0
              have c1 := hblk3.cell 1
              have f0 := hblk3.free 0
              have f1 := hblk3.free 1
              simp only [List.getElem?_toArray, List.getElem?_cons_zero, List.getElem?_cons_succ] at c0 c1
              have hb5 := fun x y => (hblk3.set_ 0 x).set_ 1 y
              have hB5 := fun x y => (hB3.setCell (p := ⟨w.heap.size, 0, none⟩) (Nat.le_refl _) x).setCell (p := ⟨w.heap.size, 1, none⟩) (Nat.le_refl _) y
              have HB5 := Lib.hid hb5
              have HBB5 := Lib.hid hB5
              clear hb5 hB5
              go_wp2
              refine bodyPost_ret (results_parse _ rfl (HB5.out _ _)) rfl ?_
              exact parsd_nil (HP.out.trans HF.out) (HBB5.out _ _) rfl
            · have hm2 : ((H.length : Int) == (T : Int)) = false := by rw [beq_eq_false_iff_ne]; omega
              have HM := Lib.hid hmany
              have hline := fun W => line_any (ln rest) T (by omega) hT W
              obtain ⟨ph, pr, pa, pe, hp⟩ : ∃ ph pr pa pe, lineP (ln rest) T = (ph, pr, pa, pe) := ⟨_, _, _, _, rfl⟩
              unfold Lined at hline
              rw [hp] at hline
              dsimp only at hline
              have HLN := Lib.hid hline
              have Hp := Lib.hid hp
              clear hline hp hmany
              go_wp2_with fail
              refine (HLN.out _).mono ?_
              rintro en w4 ⟨rfl, hb4⟩
              have hblk4 := hblkq.below hb4
              have hB4 := hBq.trans (hb4.mono hBq.size)
              have ownH4 := Lib.hid (own_below ownHq.out hb4)
              have ownR4 := Lib.hid (own_below ownRq.out hb4)
              have ownO4 := Lib.hid (own_below ownOq.out hb4)
              have hz4 : w.heap.size + 1 ≤ w4.heap.size := hblk4.lt
              clear ownHq ownRq ownOq hblkq hBq
              by_cases hpe : pe = 0
              · subst hpe
                have hHT2 : H.length < T := by have := HM.out; omega
                obtain ⟨hRl, hOl, hOd⟩ := hlens.out
                have hRl2 : R.length ≤ 4096 := by omega
                have hOl2 : O.length ≤ 4096 := by omega
                have HOD := Lib.hid hOd
                clear hRl hOl hOd
                have hstepE := Lib.hid (hpar.out.trans (parseF_step hrne.out HM.out (by rw [Hp.out])))
                have hrd : Hid (rest.drop ((ln rest).length + 1) = d.drop (a + (ln rest).length + 1)) := by show _ = _; rw [← hrest', List.drop_drop]; rfl
                have F1 := hblk4.alloc (.cells #[.int .i64 (pa : Nat), .int .i64 0] 63)
                have oH1 := (ownH4.out.alloc (.cells #[.int .i64 (pa : Nat), .int .i64 0] 63))
                have oR1 := (ownR4.out.alloc (.cells #[.int .i64 (pa : Nat), .int .i64 0] 63))
                have oO1 := (ownO4.out.alloc (.cells #[.int .i64 (pa : Nat), .int .i64 0] 63))
                have B1 := hB4.alloc hB4.size (.cells #[.int .i64 (pa : Nat), .int .i64 0] 63)
                have hoa := oH1.alloc (.cells #[.int .i64 ph] 3)
                have OH1 := Lib.hid oH1
                have OR1 := Lib.hid oR1
                have OO1 := Lib.hid oO1
                clear oH1 oR1 oO1 ownH4 ownR4 ownO4 hblk4 hB4
                go_wp2_with (at_builtin; refine wpList_append_own_at _ rfl (.tmp 68) (.tmp 70) _ rfl (w.heap.size + 1) 3 i0 _ 1 8 Tryd.underlying22 hi0 hz0 hz1 hz2 rfl (by decide) _ _ _ rfl hoa ⟨_, 0, none⟩ 1 1 [.int .i64 ph] rfl rfl ?a1 ?a2 ?a3 ?a4 ?a5 ?_)
                case a1 => exact news_one (by simp)
                case a2 => intro u hu; simp only [List.mem_singleton] at hu; subst hu; rfl
                case a3 => simp [maxLen]; omega
                case a4 => omega
                case a5 => simp; omega
                intro v6 w6 own6 gr6 _ hob6
                obtain ⟨A6, c6, rfl, -, -⟩ := own_slc own6
                have OR6 := Lib.hid (own_grown OR1.out _ gr6 (own_ne OR1.out OH1.out (by decide)))
                have OO6 := Lib.hid (own_grown OO1.out _ gr6 (dis_symm hdis.out))
                have F6 := blk_push F1 _ gr6 (fun e => by have := (OH1.out.lt _ e).1; omega)
                have B6 := Below.push B1 _ gr6 (fun g hg => by have := (OH1.out.lt g hg).1; omega)
                have DIS6 : Hid (∀ b, (Value.slice A6 (H.length + 1) c6).ownBlock = some b → (Value.slice Ao O.length co).ownBlock ≠ some b) := dis_push hdis.out (fun b hb => (OO1.out.lt b hb).2) hob6 (by simp)
                have OH6 := Lib.hid own6
                have hz6 : w.heap.size + 1 ≤ w6.heap.size := F6.lt
                clear own6 gr6 hob6 hoa F1 B1
                have hob := OR6.out.alloc (.cells #[str pr] 9)
                go_wp2_with (at_builtin; refine wpList_append_own_at _ rfl (.tmp 72) (.tmp 74) _ rfl (w.heap.size + 1) 9 j0 _ 1 16 Tryd.underlying23 hj0 hy0 hy1 hy2 rfl (by decide) _ _ _ rfl hob ⟨_, 0, none⟩ 1 1 [str pr] rfl rfl ?b1 ?b2 ?b3 ?b4 ?b5 ?_)
                case b1 => exact news_one (by simp)
                case b2 => intro u hu; simp only [List.mem_singleton] at hu; subst hu; rfl
                case b3 => simp [maxLen]; omega
                case b4 => omega
                case b5 => simp; omega
                intro v7 w7 own7 gr7 _ hob7
                obtain ⟨A7, c7, rfl, -, -⟩ := own_slc own7
                have OH7 := Lib.hid (own_grown OH6.out _ gr7 (own_ne OH6.out OR6.out (by decide)))
                have OO7 := Lib.hid (own_grown OO6.out _ gr7 (own_ne OO6.out OR6.out (by decide)))
                have F7 := blk_push F6 _ gr7 (fun e => by have := (OR6.out.lt _ e).1; omega)
                have B7 := Below.push B6 _ gr7 (fun g hg => by have := (OR6.out.lt g hg).1; omega)
                have OR7 := Lib.hid own7
                have hz7 : w.heap.size + 1 ≤ w7.heap.size := F7.lt
                clear own7 gr7 hob7 hob F6 B6
                have hoc := OO7.out.alloc (.cells #[.int .i64 (a : Nat)] 3)
                go_wp2_with (at_builtin; refine wpList_append_own_at _ rfl (.tmp 76) (.tmp 78) _ rfl (w.heap.size + 1) 3 i0 _ 1 8 Tryd.underlying22 hi0 hz0 hz1 hz2 rfl (by decide) _ _ _ rfl hoc ⟨_, 0, none⟩ 1 1 [.int .i64 (a : Nat)] rfl rfl ?c1 ?c2 ?c3 ?c4 ?c5 ?_)
                case c1 => exact news_one (by simp)
                case c2 => intro u hu; simp only [List.mem_singleton] at hu; subst hu; rfl
                case c3 => simp [maxLen]; omega
                case c4 => omega
                case c5 => simp; omega
                intro v8 w8 own8 gr8 _ hob8
                obtain ⟨A8, c8, rfl, -, -⟩ := own_slc own8
                have OH8 := Lib.hid (own_grown OH7.out _ gr8 DIS6.out)
                have OR8 := Lib.hid (own_grown OR7.out _ gr8 (own_ne OR7.out OO7.out (by decide)))
                have F8 := blk_push F7 _ gr8 (fun e => by have := (OO7.out.lt _ e).1; omega)
                have B8 := Below.push B7 _ gr8 (fun g hg => by have := (OO7.out.lt g hg).1; omega)
                have DIS8 : Hid (∀ b, (Value.slice A6 (H.length + 1) c6).ownBlock = some b → (Value.slice A8 (O.length + 1) c8).ownBlock ≠ some b) := dis_symm (dis_push (dis_symm DIS6.out) (fun b hb => (OH7.out.lt b hb).2) hob8 (by simp))
                have OO8 := Lib.hid own8
                clear own8 gr8 hob8 hoc F7 B7
                go_wp2
                go_roundw
                case rel =>
                  refine ⟨f, a + (ln rest).length + 1, H ++ [ph], R ++ [pr], O ++ [a], A6, A7, A8, c6, c7, c8, by go_num, by have := HRL.out; omega, by simp, by simp, by simp, by simp; omega, ?_, ?_, ?_, ?_, ?_, ?_, F8, B8, ?_⟩
                  · obtain ⟨h1, h2, _⟩ := hlens.out
                    refine ⟨by simp [h1], by simp [h2], fun o ho => ?_⟩
                    rcases List.mem_append.1 ho with h | h
                    · exact HOD.out o h
                    · simp at h; omega
                  · have := hf.out; show _ < _; omega
                  · have := OH8.out
                    rw [show ints H ++ [Value.int .i64 ph] = ints (H ++ [ph]) by simp [ints]] at this
                    exact Lib.hid (by simpa using this)
                  · have := OR8.out
                    rw [← strs_snoc] at this
                    exact Lib.hid (by simpa using this)
                  · have := OO8.out
                    rw [show nats O ++ [Value.int .i64 (a : Nat)] = nats (O ++ [a]) by simp [nats]] at this
                    exact Lib.hid (by simpa using this)
                  · have := DIS8.out
                    exact Lib.hid (by simpa using this)
                  · show _ = _
                    rw [hstepE.out, Hp.out, hrd.out]
                case measure => simp [intOf]; omega
              · have hpe2 : ((pe : Int) != 0) = true := by rw [bne_iff_ne]; omega
                have hpal := Lib.hid (lineP_at (ln rest) T)
                rw [Hp.out] at hpal
                have hpa2 : pa ≤ (ln rest).length := hpal.out
                have HF := Lib.hid (parseO_err (hpar.out.trans (parseF_bad hrne.out HM.out (by rw [Hp.out]; exact hpe))))
                rw [Hp.out] at HF
                dsimp only at HF
                have hF := Blk.new w4 63 #[.int .i64 (pa : Nat), .int .i64 (pe : Nat)]
                have hF2 := hblk4.alloc (.cells #[.int .i64 (pa : Nat), .int .i64 (pe : Nat)] 63)
                have B1 := hB4.alloc hB4.size (.cells #[.int .i64 (pa : Nat), .int .i64 (pe : Nat)] 63)
                have hsum : (a : Int) + (pa : Int) = ((a + pa : Nat) : Int) := by omega
                have hw1 : IntKind.i64.wrap ((a : Int) + (pa : Int)) = (a : Int) + (pa : Int) := IntWalk.i64_in _ (by omega)
                have HSUM := Lib.hid hsum
                clear hpe hsum
                go_wp2
                go_region_law (go_simp; refine (position_is HSUM.out (by omega) _).mono ?_; rintro en w5 ⟨rfl, hb5⟩; have v0 := (Blk.below (w := (w4.alloc (.cells #[.int .i64 (pa : Nat), .int .i64 (pe : Nat)] 63)).drew) hF hb5).cell 0; have v1 := (Blk.below (w := (w4.alloc (.cells #[.int .i64 (pa : Nat), .int .i64 (pe : Nat)] 63)).drew) hF hb5).cell 1; have z0 := (Blk.below (w := (w4.alloc (.cells #[.int .i64 (pa : Nat), .int .i64 (pe : Nat)] 63)).drew) hF2 hb5).cell 0; have z1 := (Blk.below (w := (w4.alloc (.cells #[.int .i64 (pa : Nat), .int .i64 (pe : Nat)] 63)).drew) hF2 hb5).cell 1; have y0' := (Blk.below (w := (w4.alloc (.cells #[.int .i64 (pa : Nat), .int .i64 (pe : Nat)] 63)).drew) hF2 hb5).free 0; have y1' := (Blk.below (w := (w4.alloc (.cells #[.int .i64 (pa : Nat), .int .i64 (pe : Nat)] 63)).drew) hF2 hb5).free 1; go_simp)
                all_goals
                  have B5 := (B1.drew).trans (Below.mono hb5 (B1.drew).size)
                  have F5 := Blk.below (w := (w4.alloc (.cells #[.int .i64 (pa : Nat), .int .i64 (pe : Nat)] 63)).drew) hF2 hb5
                  go_wp2
                  refine bodyPost_ret (results_parse _ rfl ((F5.set_ 0 _).set_ 1 _)) rfl ?_
                  exact parsd_nil (HP.out.trans HF.out) ((B5.setCell (p := ⟨w.heap.size, 0, none⟩) (Nat.le_refl _) _).setCell (p := ⟨w.heap.size, 1, none⟩) (Nat.le_refl _) _) rfl
          · have hend : Hid (parseD d T = .ok (H, R, O)) := by show _ = _; rw [hpar.out, List.drop_eq_nil_of_le (by omega), parseF_end]
            have c0 := hblk.cell 0
            have c1 := hblk.cell 1
            have f0 := hblk.free 0
            have f1 := hblk.free 1
            simp only [List.getElem?_toArray, List.getElem?_cons_zero, List.getElem?_cons_succ] at c0 c1
            by_cases hfew : H.length < T
            · have HF := Lib.hid (parseO_few hend.out hfew)
              clear c0 c1 f0 f1
              go_wp2_with fail
              refine (position_any d d.length (by omega) _).mono ?_
              rintro en w3 ⟨rfl, hb3⟩
              have hblk3 := hblk.below hb3
              have hB3 := hB.trans (hb3.mono hB.size)
              have c0 := hblk3.cell 0
              have c1 := hblk3.cell 1
              have f0 := hblk3.free 0
              have f1 := hblk3.free 1
              simp only [List.getElem?_toArray, List.getElem?_cons_zero, List.getElem?_cons_succ] at c0 c1
              go_wp2
              refine bodyPost_ret (results_parse _ rfl ((hblk3.set_ 0 _).set_ 1 _)) rfl ?_
              exact parsd_nil (HP.out.trans HF.out) ((hB3.setCell (p := ⟨w.heap.size, 0, none⟩) (Nat.le_refl _) _).setCell (p := ⟨w.heap.size, 1, none⟩) (Nat.le_refl _) _) rfl
            · have HNF := Lib.hid hfew
              clear c0 c1 f0 f1
              go_wp2_with fail
              refine (depCheck_any Ah H.length ch H _ (by omega) (own_sl ownH.out)).mono ?_
              rintro en w3 ⟨rfl, hb3⟩
              have hblk3 := hblk.below hb3
              have hB3 := hB.trans (hb3.mono hB.size)
              have OH3 := Lib.hid (own_below ownH.out hb3)
              have OR3 := Lib.hid (own_below ownR.out hb3)
              have OO3 := Lib.hid (own_below ownO.out hb3)
              by_cases hc : (chk H).2 = 0
              · have E : (((chk H).2 : Int) != 0) = false := by rw [hc]; rfl
                have HF := Lib.hid (parseO_ok hend.out HNF.out hc)
                have c0 := hblk3.cell 0
                have c1 := hblk3.cell 1
                have f0 := hblk3.free 0
                have f1 := hblk3.free 1
                simp only [List.getElem?_toArray, List.getElem?_cons_zero, List.getElem?_cons_succ] at c0 c1
                clear hc hfew
                go_wp2
                refine bodyPost_ret (results_parse _ rfl ((hblk3.set_ 0 _).set_ 1 _)) rfl ?_
                rw [HP.out, HF.out]
                exact ⟨_, _, rfl, own_same (own_base OH3.out (by omega)) (fun g hg => (Below.heap_setCell _ _ _ _ (by have := (OH3.out.lt g hg).1; show g ≠ w.heap.size; omega)).trans (Below.heap_setCell _ _ _ _ (by have := (OH3.out.lt g hg).1; show g ≠ w.heap.size; omega))), own_same (own_base OR3.out (by omega)) (fun g hg => (Below.heap_setCell _ _ _ _ (by have := (OR3.out.lt g hg).1; show g ≠ w.heap.size; omega)).trans (Below.heap_setCell _ _ _ _ (by have := (OR3.out.lt g hg).1; show g ≠ w.heap.size; omega))), (hB3.setCell (p := ⟨w.heap.size, 0, none⟩) (Nat.le_refl _) _).setCell (p := ⟨w.heap.size, 1, none⟩) (Nat.le_refl _) _⟩
              · have E : (((chk H).2 : Int) != 0) = true := by rw [bne_iff_ne]; omega
                have HF := Lib.hid (parseO_chk hend.out HNF.out hc)
                have hci : (chk H).1 < H.length := by
                  rcases chk_lt H with h0 | h0
                  · rw [h0]
                    rcases Nat.eq_zero_or_pos H.length with h1 | h1
                    · exfalso
                      have : H = [] := List.eq_nil_of_length_eq_zero h1
                      subst this
                      exact hc (by decide)
                    · exact h1
                  · exact h0
                obtain ⟨hRl, hOl, hOd⟩ := hlens.out
                have hOl2 : (chk H).1 < O.length := by omega
                have hOb : O[(chk H).1] ≤ d.length := hOd _ (List.getElem_mem hOl2)
                obtain ⟨go_, capo, eo, -, hgo, -⟩ := own_form OO3.out (by omega)
                injection eo with eo1 _ eo3
                subst eo1 eo3
                have cO := own_nat OO3.out _ hOl2
                have hgd : O.getD (chk H).1 0 = O[(chk H).1] := by simp [hOl2]
                rw [hgd] at HF
                obtain ⟨x, hx⟩ : ∃ x, O[(chk H).1] = x := ⟨_, rfl⟩
                rw [hx] at HF cO hOb
                have hi0' : (0 : Int) ≤ ((chk H).1 : Int) := by omega
                have hi1' : ((chk H).1 : Int) < (O.length : Int) := by omega
                clear hRl hOl hOd hgd hx hc hfew
                go_wp2_with fail
                refine (position_any d x (by omega) _).mono ?_
                rintro en w5 ⟨rfl, hb5⟩
                have hblk5 := hblk3.below hb5
                have hB5 := hB3.trans (hb5.mono hB3.size)
                have c0 := hblk5.cell 0
                have c1 := hblk5.cell 1
                have f0 := hblk5.free 0
                have f1 := hblk5.free 1
                simp only [List.getElem?_toArray, List.getElem?_cons_zero, List.getElem?_cons_succ] at c0 c1
                go_wp2
                refine bodyPost_ret (results_parse _ rfl ((hblk5.set_ 0 _).set_ 1 _)) rfl ?_
                exact parsd_nil (HP.out.trans HF.out) ((hB5.setCell (p := ⟨w.heap.size, 0, none⟩) (Nat.le_refl _) _).setCell (p := ⟨w.heap.size, 1, none⟩) (Nat.le_refl _) _) rfl
end Go.Proofs.YtnbnmomichegaaaDoor
