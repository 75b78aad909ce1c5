/-
  The contracts of noHeads, bare and cyclic. Conditions: none but that the lists read as they do.
-/
import Derived.Test.YtgkdaebiefhgdaaDoorCorAtt
import Derived.Test.YtgkdaebiefhgdaaDoorCorCyc
namespace Go.Proofs.YtgkdaebiefhgdaaDoor
open Go.RowKit Utf
open Feat (Bs)
open Cor (bare cyc nrm At_)

theorem bare_no {h : List Int} {r : List Bs} {k : Nat} (hk : k < h.length) (e : h[k] ≠ -1) : bare h r = false := by
  unfold bare
  have : h.all (fun x => x == -1) = false := List.all_eq_false.2 ⟨h[k], List.getElem_mem hk, by simpa using e⟩
  rw [this]; rfl
theorem bare_no2 {h : List Int} {r : List Bs} {k : Nat} (hk : k < r.length) (e : r[k] ≠ []) : bare h r = false := by
  unfold bare
  have : r.all (fun s => s.isEmpty) = false := List.all_eq_false.2 ⟨r[k], List.getElem_mem hk, by simpa using e⟩
  rw [this, Bool.and_false]
theorem bare_yes {h : List Int} {r : List Bs} (h1 : ∀ k (hk : k < h.length), h[k] = -1) (h2 : ∀ k (hk : k < r.length), r[k] = []) : bare h r = true := by
  unfold bare
  rw [Bool.and_eq_true, List.all_eq_true, List.all_eq_true]
  refine ⟨fun x hx => ?_, fun x hx => ?_⟩
  · obtain ⟨i, hi, rfl⟩ := List.getElem_of_mem hx; rw [h1 i hi]; rfl
  · obtain ⟨i, hi, rfl⟩ := List.getElem_of_mem hx; rw [h2 i hi]; rfl

set_option maxRecDepth 100000 in
set_option maxHeartbeats 1600000 in
theorem noHeads_any (A : Option Addr) (n c : Nat) (A2 : Option Addr) (c2 : Nat) (h : List Int) (r : List Bs) (w : World) (hh : Nums w w.heap.size ⟨A, n, c⟩ h) (hr : Words w w.heap.size ⟨A2, n, c2⟩ r) :
    Calls Tryd.prog 39 #[.slice A n c, .slice A2 n c2] w (SameW (.bool (bare h r)) w) := by
  have HL := Lib.hid hh.len
  have HR := Lib.hid hr.len
  have f1 : n ≤ 9223372036854775807 := hh.1.2
  go_enter Tryd.func39, Tryd.ntmps39
  go_wp2
  go_loop [9] (fun iv => ∃ k : Nat, k ≤ n ∧ iv = .int .i64 k ∧ Hid (∀ j, j < k → (∀ hj : j < h.length, h[j] = -1) ∧ ∀ hj : j < r.length, r[j] = [])) (fun iv => n - (intOf iv).toNat)
  case atStart => exact ⟨0, by omega, rfl, fun j hj => by omega⟩
  case round =>
    obtain ⟨k, hk, rfl, hinv⟩ := hrel
    by_cases hlt : k < n
    · obtain ⟨g, o, hk1, e0, hg, z0, c0⟩ := hh.at_ hlt
      have e0 : A = some ⟨g, o, none⟩ := e0
      subst e0
      obtain ⟨g2, o2, hk2, e0, hg2, z2, d0⟩ := hr.at_ hlt
      have e0 : A2 = some ⟨g2, o2, none⟩ := e0
      subst e0
      have HN1 := fun e => bare_no (r := r) hk1 e
      have HN2 := fun e => bare_no2 (h := h) hk2 e
      obtain ⟨x, hx⟩ : ∃ x, h[k] = x := ⟨_, rfl⟩
      obtain ⟨s, hs⟩ : ∃ s, r[k] = s := ⟨_, rfl⟩
      rw [hx] at c0 HN1 z0
      rw [hs] at d0 HN2 z2
      have HX := Lib.hid hx
      have HS := Lib.hid hs
      have HN1 := Lib.hid HN1
      have HN2 := Lib.hid HN2
      clear hx hs z0 z2
      by_cases e : x = -1
      · subst e
        by_cases e2 : s = []
        · subst e2
          have HI : Hid (∀ j, j < k + 1 → (∀ hj : j < h.length, h[j] = -1) ∧ ∀ hj : j < r.length, r[j] = []) := by
            intro j hj
            by_cases ej : j = k
            · subst ej; exact ⟨fun _ => HX.out, fun _ => HS.out⟩
            · exact hinv.out j (by omega)
          clear hinv HN1 HN2
          go_wp2
          go_round
          case rel => exact ⟨k + 1, by omega, by go_num, HI⟩
          case measure => simp [intOf]; omega
        · have HF := Lib.hid (HN2.out e2)
          have E2 : s.isEmpty = false := by simpa using e2
          have E3 : (s == []) = false := by simpa using e2
          clear hinv HN1 HN2 e2
          go_wp2
          go_ret
          exact ⟨ret_bool HF.out.symm, rfl⟩
      · have HF := Lib.hid (HN1.out e)
        have E := bne_t e
        clear hinv HN1 HN2 e
        go_wp2
        go_ret
        exact ⟨ret_bool HF.out.symm, rfl⟩
    · have HF : Hid (bare h r = true) := bare_yes (fun j hj => (hinv.out j (by have : h.length = n := HL.out; omega)).1 hj) (fun j hj => (hinv.out j (by have : r.length = n := HR.out; omega)).2 hj)
      clear hinv
      go_wp2
      go_ret
      exact ⟨ret_bool HF.out.symm, rfl⟩
theorem cyc_at {h : List Int} {i k : Nat} (hi : i < h.length) (e : Dep.up (nrm h) (k + 1) (i : Nat) = (i : Nat)) : cyc h i = true := by
  unfold cyc
  rw [Dep.cyc_iff (Cor.nrm_ok h) (by rw [Cor.nrm_len]; exact hi)]
  exact ⟨by omega, k, e⟩
theorem cyc_ends {h : List Int} {i k : Nat} (hi : i < h.length) (e : Dep.up (nrm h) k (i : Nat) < 0) : cyc h i = false := by
  cases hc : cyc h i with
  | false => rfl
  | true =>
    unfold cyc at hc
    rw [Dep.cyc_iff (Cor.nrm_ok h) (by rw [Cor.nrm_len]; exact hi)] at hc
    have := (Dep.cyc_step hc k).1
    omega
theorem cyc_no {h : List Int} {i : Nat} (hn : ∀ k, k < h.length → Dep.up (nrm h) (k + 1) (i : Nat) ≠ (i : Nat)) : cyc h i = false := by
  cases hc : cyc h i with
  | false => rfl
  | true =>
    unfold cyc Dep.cyc at hc
    rw [List.any_eq_true] at hc
    obtain ⟨k, hk, e⟩ := hc
    rw [List.mem_range, Cor.nrm_len] at hk
    exact absurd (by simpa using e) (hn k hk)

end Go.Proofs.YtgkdaebiefhgdaaDoor
