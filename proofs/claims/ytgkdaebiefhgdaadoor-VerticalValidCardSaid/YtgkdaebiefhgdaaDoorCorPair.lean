/-
  The contracts of the checks of pairs and values, of the program's corpus and the reference's. Conditions: none but that a list reads as it does.
-/
import Derived.Test.YtgkdaebiefhgdaaDoorCorFind
import Derived.Test.YtgkdaebiefhgdaaDoorBase6
namespace Go.Proofs.YtgkdaebiefhgdaaDoor
open Go.RowKit Utf
open Feat (Bs)
open Tagp (KV okName)
open Cor (prF prErr first)

theorem prF_at {l : List KV} {k : Nat} (hk : k < l.length) : prF l k = if okName l[k].1 = false then 4 else if 0 < k ∧ (!Feat.lt (l[k - 1]'(by omega)).1 l[k].1) = true then 6 else vErr l[k].2 := by
  unfold prF
  rw [List.getElem?_eq_getElem hk, List.getElem?_eq_getElem (show k - 1 < l.length by omega)]
  rfl
theorem prErr_at {l : List KV} {k : Nat} (h8 : ¬ 8 < l.length) (hk : k < l.length) (h : ∀ j, j < k → prF l j = 0) (hf : prF l k ≠ 0) : prErr l = prF l k := by
  unfold prErr; rw [if_neg h8, Cor.first_at 0 l.length k (Nat.zero_le _) (by omega) (fun j _ hj => h j hj) hf]
theorem prErr_zero {l : List KV} (h8 : ¬ 8 < l.length) (h : ∀ j, j < l.length → prF l j = 0) : prErr l = 0 := by
  unfold prErr; rw [if_neg h8, Cor.first_none 0 l.length (fun j _ hj => h j (by omega))]
theorem upto_step {f : Nat → Nat} {k : Nat} (h : ∀ j, j < k → f j = 0) (e : f k = 0) : ∀ j, j < k + 1 → f j = 0 := by
  intro j hj
  by_cases e2 : j = k
  · subst e2; exact e
  · exact h j (by omega)

set_option maxRecDepth 100000 in
set_option maxHeartbeats 2000000 in
theorem pairs_any (A : Option Addr) (n c : Nat) (l : List KV) (w : World) (hx : Keys w w.heap.size ⟨A, n, c⟩ l) :
    Calls Tryd.prog 35 #[.slice A n c] w (Kept (.int .i64 (prErr l : Nat)) w) := by
  have HL := Lib.hid hx.len
  have f1 : n ≤ 9223372036854775807 := hx.1.2
  by_cases h8 : 8 < n
  · have HF : Hid (prErr l = 2) := by show _ = _; unfold prErr; rw [if_pos (by have : l.length = n := HL.out; omega)]
    go_enter Tryd.func35, Tryd.ntmps35
    go_wp2
    go_ret
    exact ⟨ret_int (by rw [HF.out]; rfl), Below.refl _ _⟩
  · go_enter Tryd.func35, Tryd.ntmps35
    go_wp2
    go_loopw [11] (fun iv wr => ∃ k : Nat, k ≤ n ∧ iv = .int .i64 k ∧ Below w.heap.size w wr ∧ Hid (∀ j, j < k → prF l j = 0)) (fun iv _ => n - (intOf iv).toNat)
    case atStart => exact ⟨0, by omega, rfl, Below.refl _ _, fun j hj => by omega⟩
    case round =>
      obtain ⟨k, hk, rfl, hB, hinv⟩ := hrel
      by_cases hlt : k < n
      · obtain ⟨g, o, hk', e0, hg, ⟨z0, z1⟩, c0, c1⟩ := (hx.under hB).at_ hlt
        have e0 : A = some ⟨g, o, none⟩ := e0
        subst e0
        have HF := Lib.hid (prF_at hk')
        have HA := fun h => prErr_at (l := l) (k := k) (by have : l.length = n := HL.out; omega) hk' hinv.out h
        have HA := Lib.hid HA
        have hm := (hx.under (hB.alloc hB.size (.cells #[str l[k].1, str l[k].2] 88))).at_ (k := k - 1) (show k - 1 < n by omega)
        obtain ⟨g', o', hk1, e0, hg', dz, d0, dx⟩ := hm
        clear dx dz
        cases e0
        obtain ⟨⟨x, v⟩, hx'⟩ : ∃ p, l[k] = p := ⟨_, rfl⟩
        obtain ⟨y, hy'⟩ : ∃ p, l[k - 1].1 = p := ⟨_, rfl⟩
        rw [hx', hy'] at HF
        rw [hx'] at c0 c1 z0 z1
        rw [hy', hx'] at d0
        have z0 : x.length ≤ 9223372036854775807 := z0
        have z1 : v.length ≤ 9223372036854775807 := z1
        clear hx' hy' hk'
        have hBa := hB.alloc hB.size (.cells #[str x, str v] 88)
        go_wp2_with fail
        refine (validName_any x z0 _).mono ?_
        rintro e w1 ⟨rfl, rfl⟩
        cases hok : okName x with
        | false =>
          have HF2 := Lib.hid (HF.out.trans (if_pos hok))
          have HF3 := Lib.hid ((HA.out (by rw [HF2.out]; simp)).trans HF2.out)
          clear hok HF HA HF2
          go_wp2
          go_ret
          exact ⟨ret_int (by rw [HF3.out]; rfl), hBa⟩
        | true =>
          have HF2 := Lib.hid (HF.out.trans (if_neg (by rw [hok]; simp)))
          clear hok HF
          have fin : ∀ W : World, Below w.heap.size w W → True := fun _ _ => trivial
          clear fin
          by_cases h0 : 0 < k
          · have i1 : IntKind.i64.wrap ((k : Int) - 1) = ((k - 1 : Nat) : Int) := by rw [IntWalk.i64_in _ (by omega)]; omega
            have h1 : decide (0 < k) = true := by simpa using h0
            have h2 : 0 ≤ (k : Int) - 1 := by omega
            have h3 : (k : Int) - 1 < n := by omega
            have h4 : ((k : Int) - 1).toNat = k - 1 := by omega
            cases hlt2 : Feat.lt y x with
            | false =>
              have HF3 := Lib.hid (HF2.out.trans (if_pos ⟨h0, by rw [hlt2]; rfl⟩))
              have HF4 := Lib.hid ((HA.out (by rw [HF3.out]; simp)).trans HF3.out)
              clear HF2 HF3 HA hinv
              unfold Feat.lt at hlt2
              go_wp2
              go_big_quiet (fail)
              go_wp2
              go_ret
              exact ⟨ret_int (by rw [HF4.out]; rfl), below_drewN hBa _⟩
            | true =>
              have HF3 := Lib.hid (HF2.out.trans (if_neg (fun h => by rw [hlt2] at h; simp at h)))
              clear HF2
              unfold Feat.lt at hlt2
              go_wp2
              go_big_quiet (fail)
              clear i1 h1 h2 h3 h4 hlt2
              go_wp2_with fail
              refine (value_any v z1 _).mono ?_
              rintro e w2 ⟨rfl, hb2⟩
              have hB2 := (below_drewN hBa _).trans (hb2.mono (below_drewN hBa _).size)
              by_cases hv : vErr v = 0
              · have E : ((vErr v : Int) != 0) = false := by rw [hv]; rfl
                have HI : Hid (∀ j, j < k + 1 → prF l j = 0) := upto_step hinv.out (by rw [HF3.out, hv])
                clear hv HF3 HA hinv
                go_wp2
                go_roundw
                case rel => exact ⟨k + 1, by omega, by go_num, hB2, HI⟩
                case measure => simp [intOf]; omega
              · have E : ((vErr v : Int) != 0) = true := by rw [bne_iff_ne]; omega
                have HF4 := Lib.hid ((HA.out (by rw [HF3.out]; exact hv)).trans HF3.out)
                clear hv HF3 HA hinv
                go_wp2
                go_ret
                exact ⟨ret_int (by rw [HF4.out]), hB2⟩
          · obtain rfl : k = 0 := by omega
            have HF3 := Lib.hid (HF2.out.trans (if_neg (fun h => h0 h.1)))
            clear HF2 h0
            go_wp2
            go_big_quiet (fail)
            go_wp2_with fail
            refine (value_any v z1 _).mono ?_
            rintro e w2 ⟨rfl, hb2⟩
            have hB2 := (below_drewN hBa _).trans (hb2.mono (below_drewN hBa _).size)
            by_cases hv : vErr v = 0
            · have E : ((vErr v : Int) != 0) = false := by rw [hv]; rfl
              have HI : Hid (∀ j, j < 0 + 1 → prF l j = 0) := upto_step hinv.out (by rw [HF3.out, hv])
              clear hv HF3 HA hinv
              go_wp2
              go_roundw
              case rel => exact ⟨0 + 1, by omega, by go_num, hB2, HI⟩
              case measure => simp [intOf]; omega
            · have E : ((vErr v : Int) != 0) = true := by rw [bne_iff_ne]; omega
              have HF4 := Lib.hid ((HA.out (by rw [HF3.out]; exact hv)).trans HF3.out)
              clear hv HF3 HA hinv
              go_wp2
              go_ret
              exact ⟨ret_int (by rw [HF4.out]), hB2⟩
      · have HF : Hid (prErr l = 0) := prErr_zero (by have : l.length = n := HL.out; omega) (fun j hj => hinv.out j (by have : l.length = n := HL.out; omega))
        clear hinv
        go_wp2
        go_ret
        exact ⟨ret_int (by rw [HF.out]; rfl), hB⟩

end Go.Proofs.YtgkdaebiefhgdaaDoor
