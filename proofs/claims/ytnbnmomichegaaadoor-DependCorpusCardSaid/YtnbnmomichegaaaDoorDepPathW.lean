/-
  The contract of depend.Path: the connection in memory of its own, and the error. Condition: the list's length is an int.
-/
import Derived.Test.YtnbnmomichegaaaDoorDepWay
import Derived.WalkMore
namespace Go.Proofs.YtnbnmomichegaaaDoor
open Go.RowKit Dep

/-- A list in memory of the call's own, and an error. -/
def ListedI (l : List Int) (n : Nat) (w : World) (e : Ending) (w' : World) : Prop := ∃ v, e = .returned (.tuple #[v, .int .i64 (n : Nat)]) ∧ w'.ownsRow w.heap.size 3 1 v l.length (ints l) ∧ Below w.heap.size w w'
theorem listedI_nil {l : List Int} {n k : Nat} {p : List Int × Nat} {w w' : World} (h : p = ([], k)) (hl : l = p.1) (hn : n = p.2) (hb : Below w.heap.size w w') : ListedI l n w (.returned (.tuple #[.slice none 0 0, .int .i64 (k : Nat)])) w' := by
  subst h; subst hl; subst hn; exact ⟨_, rfl, World.ownsRow_nil _ _ _ _, hb⟩
theorem listedI_own {l l' : List Int} {k n m : Nat} {v : Value} {w w' : World} (e1 : l' = l) (e2 : n = k) (hm : m = l.length) (hown : w'.ownsRow w.heap.size 3 1 v m (ints l)) (hb : Below w.heap.size w w') {en : Ending} (he : en = .returned (.tuple #[v, .int .i64 (k : Nat)])) : ListedI l' n w en w' := by
  subst e1; subst e2; subst hm; subst he; exact ⟨_, rfl, hown, hb⟩
namespace Dep
theorem path_bad {h : Hs} {a b : Int} (hu : usb h a = false ∨ b < 0 ∨ h.length ≤ b) : path h a b = ([], 1) := by
  unfold path; rw [if_neg]
  rintro ⟨h1, ⟨h2, h3⟩, h4, h5⟩
  rcases hu with hu | hu | hu
  · rw [usb_iff.2 ⟨chk_zero.1 h1, h2, h3⟩] at hu; cases hu
  · omega
  · omega
theorem path_ok {h : Hs} {a b : Int} (hu : usb h a = true) (h0 : 0 ≤ b) (h1 : b < h.length) : path h a b = pathL (way h a) (way h b) := by
  obtain ⟨g, h2, h3⟩ := usb_iff.1 hu
  unfold path; rw [if_pos ⟨chk_zero.2 g, ⟨h2, h3⟩, h0, h1⟩]
end Dep

set_option maxRecDepth 100000 in
set_option maxHeartbeats 4000000 in
theorem path_any (A : Option Addr) (n c : Nat) (h : Hs) (a b : Int) (w : World) (hn : n ≤ 9223372036854775807) (hsl : Sl w w.heap.size 1 A n (ints h)) :
    Calls Tryd.prog 19 #[.slice A n c, .int .i64 a, .int .i64 b] w (ListedI (path h a b).1 (path h a b).2 w) := by
  have hl := hsl.ilen
  obtain ⟨i0, hi0, hz0, hz1, hz2⟩ := info_parts info_int
  go_enter Tryd.func19, Tryd.ntmps19
  go_wp2
  go_step3
  go_wp2_with fail
  refine (usable_any A n c h a _ hn hsl).mono ?_
  rintro e w1 ⟨rfl, hb1⟩
  cases hu : usb h a with
  | false =>
    have HP := Lib.hid (path_bad (b := b) (.inl hu))
    clear hu hl
    go_wp2
    try rw [Exit.noGoto_ret]
    go_ret2
    exact listedI_nil HP.out rfl rfl hb1
  | true =>
    by_cases hb0 : b < 0
    · have HP := Lib.hid (path_bad (h := h) (a := a) (.inr (.inl hb0)))
      clear hu hl
      go_wp2
      try rw [Exit.noGoto_ret]
      go_ret2
      exact listedI_nil HP.out rfl rfl hb1
    · by_cases hbn : (n : Int) ≤ b
      · have HP := Lib.hid (path_bad (h := h) (a := a) (b := b) (.inr (.inr (by omega))))
        clear hu hl
        go_wp2
        try rw [Exit.noGoto_ret]
        go_ret2
        exact listedI_nil HP.out rfl rfl hb1
      · have HP := Lib.hid (path_ok (b := b) hu (by omega) (by omega))
        obtain ⟨hg, ha0, ha1⟩ := usb_iff.1 hu
        have HG := Lib.hid hg
        have hn4 : n ≤ 4096 := by have := hg.len; omega
        have hxa := way_len hg ha1
        have hxb := way_len hg (show b < h.length by omega)
        have hpa := (way_pos hg ha0).1
        have hpb := (way_pos hg (show 0 ≤ b by omega)).1
        have hln : h.length ≤ n := by omega
        have han : a < n := by omega
        have HA1 := Lib.hid ha1
        have HB1 : Hid (b < h.length) := by show _ < _; omega
        have HL := Lib.hid hl
        clear hu hl hg ha1
        go_wp2_with fail
        refine (way_any A n c h a _ HG.out han ((hsl.under hb1).up hb1.size)).mono ?_
        rintro e w2 ⟨v, rfl, own2, hb2⟩
        obtain ⟨X, cx, rfl, -, -⟩ := own_slc own2
        have hB2 := hb1.trans (hb2.mono hb1.size)
        go_wp2_with fail
        refine (way_any A n c h b _ HG.out (by omega) ((hsl.under hB2).up hB2.size)).mono ?_
        rintro e w3 ⟨v, rfl, own3, hb3⟩
        obtain ⟨Y, cy, rfl, -, -⟩ := own_slc own3
        have hB3 := hB2.trans (hb3.mono hB2.size)
        have own2' := own_below own2 hb3
        have hh2 := hb2.size
        have hh1 := hb1.size
        have hlt2 := fun k hk => (own2.lt k hk).2
        clear own2
        rcases own2'.2 with ⟨_, e0⟩ | ⟨gx, _, curx, ex, hgx, hkx, hcx, hmx, hszx, htx⟩
        · omega
        cases ex
        rcases own3.2 with ⟨_, e0⟩ | ⟨gy, _, cury, ey, hgy, hky, hcy, hmy, hszy, hty⟩
        · omega
        cases ey
        have hgxl : gx < w2.heap.size := hlt2 gx rfl
        have hgyl : gy < w3.heap.size := (own3.lt gy rfl).2
        clear hkx hszx htx hky hszy hty hlt2
        have ownX := Lib.hid own2'
        have ownY := Lib.hid own3
        clear own2' own3
        obtain ⟨x, hxx⟩ : ∃ x, way h a = x := ⟨_, rfl⟩
        obtain ⟨y, hyy⟩ : ∃ y, way h b = y := ⟨_, rfl⟩
        rw [hxx] at HP hxa hpa ownX hcx ⊢
        rw [hyy] at HP hxb hpb ownY hcy ⊢
        have HX := Lib.hid hxx
        have HY := Lib.hid hyy
        clear hxx hyy
        go_wp2
        go_step3
        go_wp2
        go_loop [37, 8, 9] (fun iv xv yv => xv = .slice (some ⟨gx, 0, none⟩) x.length cx ∧ yv = .slice (some ⟨gy, 0, none⟩) y.length cy ∧ ∃ i : Nat, i ≤ x.length ∧ iv = .int .i64 i ∧ Hid (∀ i' (hi : i' < i) (hx : i' < x.length) k' (hk : k' < y.length), x[i'] ≠ y[k'])) (fun iv _ _ => x.length - (intOf iv).toNat)
        case atStart => exact ⟨rfl, rfl, 0, by omega, rfl, fun i' hi => by omega⟩
        case round =>
          obtain ⟨rfl, rfl, i, hi, rfl, hno⟩ := hrel
          by_cases hlt : i < x.length
          · have c0 := own_int ownX.out i hlt
            have HXI : Hid (∀ xi, x[i] = xi → (∀ k' (hk : k' < y.length), xi ≠ y[k']) → ∀ i' (hi : i' < i + 1) (hx : i' < x.length) k' (hk : k' < y.length), x[i'] ≠ y[k']) := by
              intro xi hxi hall i' hi' hx k' hk
              by_cases e : i' = i
              · subst e; rw [hxi]; exact hall k' hk
              · exact hno.out i' (by omega) hx k' hk
            obtain ⟨xi, hxi⟩ : ∃ xi, x[i] = xi := ⟨_, rfl⟩
            rw [hxi] at c0
            have Hxi := Lib.hid hxi
            clear hxi
            go_wp2
            go_loop [44, 8, 9] (fun iv xv yv => xv = .slice (some ⟨gx, 0, none⟩) x.length cx ∧ yv = .slice (some ⟨gy, 0, none⟩) y.length cy ∧ ∃ k : Nat, k ≤ y.length ∧ iv = .int .i64 k ∧ Hid (∀ k' (hk : k' < k) (hy : k' < y.length), xi ≠ y[k'])) (fun iv _ _ => y.length - (intOf iv).toNat)
            case atStart => exact ⟨rfl, rfl, 0, by omega, rfl, fun i' hi => by omega⟩
            case round =>
              obtain ⟨rfl, rfl, k, hk, rfl, hnok⟩ := hrel
              by_cases hltk : k < y.length
              · have c1 := own_int ownY.out k hltk
                obtain ⟨yk, hyk⟩ : ∃ yk, y[k] = yk := ⟨_, rfl⟩
                rw [hyk] at c1
                have Hyk := Lib.hid hyk
                clear hyk
                by_cases hxy : xi = yk
                · have hxy2 : (xi != yk) = false := by rw [hxy]; simp
                  have HM : Hid (Meet x y i k) := ⟨hlt, hltk, by rw [Hxi.out, hxy, ← Hyk.out], fun i' hi' k' hk' => hno.out i' hi' (by omega) k' hk', fun k' hk' e => hnok.out k' hk' (by omega) (by rw [← Hxi.out, e])⟩
                  have HR := Lib.hid (HP.out.trans (pathL_meet HM.out))
                  have hs1 : ∀ W, (Instr.slice 22 (.slice (some ⟨gx, 0, none⟩) x.length cx) none (some (.int .i64 ((i : Int) + 1))) none).run Tryd.prog W = .ok (.slice (some ⟨gx, 0, none⟩) (i + 1) cx) W := fun W => slice_to (P := Tryd.prog) 22 3 i0 Tryd.underlying22 hi0 (some ⟨gx, 0, none⟩) x.length cx (i + 1) (by omega) W
                  have hs2 : ∀ W, (Instr.slice 22 (.slice (some ⟨gy, 0, none⟩) y.length cy) none (some (.int .i64 (k : Int))) none).run Tryd.prog W = .ok (.slice (some ⟨gy, 0, none⟩) k cy) W := fun W => slice_to (P := Tryd.prog) 22 3 i0 Tryd.underlying22 hi0 (some ⟨gy, 0, none⟩) y.length cy k (by omega) W
                  have hwi : IntKind.i64.wrap ((i : Int) + 1) = (i : Int) + 1 := IntWalk.i64_in _ (by omega)
                  clear hxy
                  go_wp2
                  go_quiet (fail)
                  clear hs1 hs2 hwi
                  have ownc := own_cut ownX.out (show i + 1 ≤ x.length by omega)
                  rw [Nat.mul_one, ← ints_take] at ownc
                  have OWNC := Lib.hid ownc
                  clear ownc
                  have hreg : (k = 0) ∨ (0 < k) := by omega
                  have HZ : Hid (∀ h0 : 0 < k, ∃ z : Nat, ∃ hz : z < h.length, y[k - 1]'(by omega) = (z : Nat) ∧ h[z] = xi) := fun h0 => by
                    have hw := way_at HG.out HB1.out (k := k - 1) (by rw [HY.out]; omega)
                    have hnx := way_next HG.out HB1.out (k := k - 1) (by rw [HY.out]; omega)
                    simp only [HY.out, show k - 1 + 1 = k by omega] at hw hnx
                    refine ⟨(y[k - 1]'(by omega)).toNat, by omega, by omega, ?_⟩
                    rw [← nx_at, show (((y[k - 1]'(by omega)).toNat : Nat) : Int) = y[k - 1]'(by omega) by omega, hnx, ← HM.out.eq, Hxi.out]
                  rcases hreg with h0 | h0
                  · subst h0
                    go_wp2
                    go_quiet (fail)
                    go_wp2
                    go_loopw [14, 8] (fun iv uv wr => ∃ (m : Nat) (q : Int), m ≤ 0 ∧ iv = .int .i64 q ∧ q = (m : Int) - 1 ∧ wr.ownsRow w.heap.size 3 1 uv (i + 1 + (0 - m)) (ints (x.take (i + 1) ++ ((y.take 0).drop m).reverse)) ∧ Below w.heap.size w wr ∧ Hid (wr.heap[gy]? = w3.heap[gy]?) ∧ (∀ b, uv.ownBlock = some b → b ≠ gy) ∧ gy < wr.heap.size) (fun iv _ _ => (intOf iv + 1).toNat)
                    case atStart =>
                      refine ⟨0, _, Nat.le_refl _, rfl, by omega, ?_, by first | exact below_drewN hB3 _ | exact below_drewN (below_drewN hB3 _) _, rfl, fun b hb => by simp [Value.ownBlock] at hb; omega, hgyl⟩
                      rw [List.drop_of_length_le (by rw [List.length_take]; omega), List.reverse_nil, List.append_nil, Nat.sub_self, Nat.add_zero]
                      exact own_base OWNC.out (by omega)
                    case round =>
                      obtain ⟨m, q, hm, rfl, hq, hown, hB, hy2, hob, hgyw⟩ := hrel
                      have ownY2 := own_same ownY.out (w' := wr) (fun g hg => by simp [Value.ownBlock] at hg; subst hg; exact hy2.out)
                      cases m with
                      | zero =>
                        have hq0 : q < 0 := by omega
                        have HF : Hid ((path h a b).1 = x.take (i + 1) ++ ((y.take 0).drop 0).reverse ∧ (path h a b).2 = 0 ∧ i + 1 + (0 - 0) = (x.take (i + 1) ++ ((y.take 0).drop 0).reverse).length) := by
                          refine ⟨by rw [HR.out]; simp, by rw [HR.out], ?_⟩
                          simp; omega
                        clear hq
                        go_wp2
                        try rw [Exit.noGoto_ret]
                        go_ret2
                        exact listedI_own (k := 0) HF.out.1 HF.out.2.1 HF.out.2.2 hown hB rfl
                      | succ m => omega
                  · obtain ⟨z, hz, hyz, hzx⟩ := HZ.out h0
                    obtain ⟨g, o, hz', rfl, hgl, cH⟩ := (hsl.under hB3).int (show z < n by omega)
                    rw [hzx] at cH
                    have cY := own_int ownY.out (k - 1) (by omega)
                    rw [hyz] at cY
                    have hne : (xi != xi) = false := by simp
                    have hk1 : (k : Int) - 1 = ((k - 1 : Nat) : Int) := by omega
                    have hi1 : (i : Int) + 1 - 1 = (i : Nat) := by omega
                    have Hyz := Lib.hid hyz
                    have Hzx := Lib.hid hzx
                    clear hyz hzx
                    go_wp2
                    go_quiet (fail)
                    go_wp2
                    go_loopw [14, 8] (fun iv uv wr => ∃ (m : Nat) (q : Int), m ≤ k ∧ iv = .int .i64 q ∧ q = (m : Int) - 1 ∧ wr.ownsRow w.heap.size 3 1 uv (i + 1 + (k - m)) (ints (x.take (i + 1) ++ ((y.take k).drop m).reverse)) ∧ Below w.heap.size w wr ∧ Hid (wr.heap[gy]? = w3.heap[gy]?) ∧ (∀ b, uv.ownBlock = some b → b ≠ gy) ∧ gy < wr.heap.size) (fun iv _ _ => (intOf iv + 1).toNat)
                    case atStart =>
                      refine ⟨k, _, Nat.le_refl _, rfl, by omega, ?_, by first | exact below_drewN hB3 _ | exact below_drewN (below_drewN hB3 _) _, rfl, fun b hb => by simp [Value.ownBlock] at hb; omega, hgyl⟩
                      rw [List.drop_of_length_le (by rw [List.length_take]; omega), List.reverse_nil, List.append_nil, Nat.sub_self, Nat.add_zero]
                      exact own_base OWNC.out (by omega)
                    case round =>
                      obtain ⟨m, q, hm, rfl, hq, hown, hB, hy2, hob, hgyw⟩ := hrel
                      have ownY2 := own_same ownY.out (w' := wr) (fun g hg => by simp [Value.ownBlock] at hg; subst hg; exact hy2.out)
                      cases m with
                      | zero =>
                        have hq0 : q < 0 := by omega
                        have HF : Hid ((path h a b).1 = x.take (i + 1) ++ ((y.take k).drop 0).reverse ∧ (path h a b).2 = 0 ∧ i + 1 + (k - 0) = (x.take (i + 1) ++ ((y.take k).drop 0).reverse).length) := by
                          refine ⟨by rw [HR.out]; simp, by rw [HR.out], ?_⟩
                          simp; omega
                        clear hq
                        go_wp2
                        try rw [Exit.noGoto_ret]
                        go_ret2
                        exact listedI_own (k := 0) HF.out.1 HF.out.2.1 HF.out.2.2 hown hB rfl
                      | succ m =>
                        obtain rfl : q = (m : Int) := by omega
                        have hmy : m < y.length := by omega
                        have cy0 := own_int ownY2 m hmy
                        have HE : Hid (x.take (i + 1) ++ ((y.take k).drop m).reverse = (x.take (i + 1) ++ ((y.take k).drop (m + 1)).reverse) ++ [y[m]]) := by
                          show _ = _
                          rw [List.drop_eq_getElem_cons (show m < (y.take k).length by rw [List.length_take]; omega), List.getElem_take]
                          simp
                        obtain ⟨ym, hym⟩ : ∃ ym, y[m] = ym := ⟨_, rfl⟩
                        rw [hym] at cy0 HE
                        have hoa := hown.alloc (.cells #[.int .i64 ym] 3)
                        have hBa := hB.alloc hB.size (.cells #[.int .i64 ym] 3)
                        clear hym hq ownY2
                        go_wp2_with (at_builtin; refine wpList_append_own_at _ rfl (.tmp 89) (.tmp 94) _ rfl w.heap.size 3 i0 _ 1 8 Tryd.underlying22 hi0 hz0 hz1 hz2 rfl (by decide) _ _ _ rfl hoa ⟨wr.heap.size, 0, none⟩ 1 1 [.int .i64 ym] rfl rfl ?c1 ?c2 ?c3 ?c4 hBa.size ?_)
                        case c1 => exact news_new _ _ [_]
                        case c2 => intro u hu; simp at hu; subst hu; rfl
                        case c3 => simp [maxLen]; omega
                        case c4 => omega
                        intro v2 w4 own4 gr4 _ hob4
                        have hB4 : Below w.heap.size w w4 := hBa.grown gr4 hBa.size (fun k hk => (hown.lt k hk).1)
                        have hy4 : Hid (w4.heap[gy]? = w3.heap[gy]?) := ((gr4.block gy (by simp; omega) (fun e => hob gy e.symm rfl)).trans (Below.heap_alloc _ _ _ hgyw)).trans hy2.out
                        have hob5 : ∀ b, v2.ownBlock = some b → b ≠ gy := by
                          intro b hb
                          rcases hob4 with e | e
                          · rw [e] at hb; exact hob b hb
                          · rw [e] at hb
                            have := Option.some.inj hb
                            try simp at this
                            omega
                        have hgy4 : gy < w4.heap.size := by have := gr4.size; simp at this; omega
                        have e1 : ints (x.take (i + 1) ++ ((y.take k).drop (m + 1)).reverse) ++ [.int .i64 ym] = ints (x.take (i + 1) ++ ((y.take k).drop m).reverse) := by rw [HE.out]; simp [ints]
                        rw [e1, show i + 1 + (k - (m + 1)) + 1 = i + 1 + (k - m) by omega] at own4
                        clear e1 hoa hBa gr4 hown cy0
                        go_wp2
                        go_roundw
                        case rel => exact ⟨m, _, by omega, rfl, by omega, own4, hB4, hy4, hob5, hgy4⟩
                        case measure => simp [intOf]
                · have hxy2 : (xi != yk) = true := by rw [bne_iff_ne]; exact hxy
                  have HN : Hid (∀ k' (hk : k' < k + 1) (hy : k' < y.length), xi ≠ y[k']) := by
                    intro k' hk' hy'
                    by_cases e : k' = k
                    · subst e; rw [Hyk.out]; exact hxy
                    · exact hnok.out k' (by omega) hy'
                  clear hxy
                  go_wp2
                  go_round
                  case rel => exact ⟨rfl, rfl, k + 1, by omega, by go_num, HN⟩
                  case measure => simp [intOf]; omega
              · have HN := Lib.hid (HXI.out xi Hxi.out (fun k' hk' => hnok.out k' (by omega) hk'))
                go_wp2
                go_round
                case rel => exact ⟨rfl, rfl, i + 1, by omega, by go_num, HN⟩
                case measure => simp [intOf]; omega
          · have HR := Lib.hid (HP.out.trans (pathL_none (fun i hi k hk => hno.out i (by omega) hi k hk)))
            have hzl : ∃ z : Nat, ∃ hz : z < h.length, y[y.length - 1]'(by omega) = (z : Nat) ∧ h[z] = -1 := by
              have hw := way_at HG.out HB1.out (k := y.length - 1) (by rw [HY.out]; omega)
              have hnx := way_last HG.out HB1.out (k := y.length - 1) (by rw [HY.out]; omega)
              simp only [HY.out] at hw hnx
              refine ⟨(y[y.length - 1]'(by omega)).toNat, by omega, by omega, ?_⟩
              rw [← nx_at, show (((y[y.length - 1]'(by omega)).toNat : Nat) : Int) = y[y.length - 1]'(by omega) by omega, hnx]
            have hxl : 0 ≤ x[x.length - 1]'(by omega) := by
              have hw := way_at HG.out HA1.out (k := x.length - 1) (by rw [HX.out]; omega)
              simp only [HX.out] at hw
              exact hw.1 ▸ hw.2.1
            obtain ⟨z, hz, hyz, hzx⟩ := hzl
            obtain ⟨g, o, hz', rfl, hgl, cH⟩ := (hsl.under hB3).int (show z < n by omega)
            rw [hzx] at cH
            have cY := own_int ownY.out (y.length - 1) (by omega)
            rw [hyz] at cY
            have cX := own_int ownX.out (x.length - 1) (by omega)
            obtain ⟨xl, hxe⟩ : ∃ xl, x[x.length - 1]'(by omega) = xl := ⟨_, rfl⟩
            rw [hxe] at cX hxl
            have hne : ((-1 : Int) != xl) = true := by rw [bne_iff_ne]; omega
            have hk1 : (y.length : Int) - 1 = ((y.length - 1 : Nat) : Int) := by omega
            have hi1 : (x.length : Int) - 1 = ((x.length - 1 : Nat) : Int) := by omega
            have hy0 : decide ((0 : Int) < (y.length : Int)) = true := by simp; omega
            clear hyz hzx hxe
            go_wp2
            go_quiet (fail)
            go_wp2
            try rw [Exit.noGoto_ret]
            go_ret2
            exact listedI_nil HR.out rfl rfl (below_drewN hB3 _)
end Go.Proofs.YtnbnmomichegaaaDoor
