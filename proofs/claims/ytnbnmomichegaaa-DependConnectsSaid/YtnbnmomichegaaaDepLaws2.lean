/-
  The law DependConnects: it returns true for every heads and every two words. Conditions: the length is an int.
-/
import Derived.Test.YtnbnmomichegaaaDepLaws
import Derived.BigQuiet
namespace Go.Proofs.Ytnbnmomichegaaa
open Go.RowKit Dep

theorem Sl.ints_all {w : World} {B n : Nat} {A : Option Addr} {l : List Int} (h : Sl w B 1 A n (ints l)) (hn : 0 < n) :
    ∃ g o, A = some ⟨g, o, none⟩ ∧ g < B ∧ ∀ j (hj : j < l.length), w.cell? ⟨g, o + j, none⟩ = some (.int .i64 l[j]) := by
  have hl := h.ilen
  obtain ⟨h1, h2⟩ := h
  obtain ⟨g, o, e, hb, hc⟩ := h2 (by simp [ints]; omega)
  exact ⟨g, o, e, hb, fun j hj => hc j _ (by simp [ints, hj])⟩

set_option maxRecDepth 100000 in
set_option maxHeartbeats 4000000 in
theorem law_connects (A : Option Addr) (n c : Nat) (h : Hs) (a b : Int) (w : World) (hn : n ≤ 9223372036854775807) (hsl : Sl w w.heap.size 1 A n (ints h)) :
    Calls Try.prog 6 #[.slice A n c, .int .i64 a, .int .i64 b] w (Gave (.bool true) w) := by
  by_cases hl : 60 < n
  · go_enter Try.func6, Try.ntmps6
    go_wp2
    go_ret
    exact ⟨rfl, Below.refl _ _⟩
  · have hln := hsl.ilen
    have hp1 := fun W hW => path_any A n c h a b W hn hW
    have hp2 := fun W hW => path_any A n c h b a W hn hW
    have hpl := path_len h a b
    have hpe := path_err h a b
    have hpc := path_conn (h := h) (a := a) (b := b)
    have hpn1 := path_nil (h := h) (a := a) (b := b)
    have hpn2 := path_nil (h := h) (a := b) (b := a)
    unfold Listed at hp1 hp2
    obtain ⟨L, e, hL⟩ : ∃ L e, path h a b = (L, e) := ⟨_, _, rfl⟩
    obtain ⟨M, e', hM⟩ : ∃ L e, path h b a = (L, e) := ⟨_, _, rfl⟩
    rw [hL] at hp1 hpe hpc hpn1 hpl
    rw [hM] at hp2 hpe hpc hpn2
    dsimp only at hp1 hp2 hpe hpc hpn1 hpn2 hpl
    subst hpe
    have HP1 := Lib.hid hp1
    have HP2 := Lib.hid hp2
    have HPC := Lib.hid hpc
    have HPN1 := Lib.hid hpn1
    have HPN2 := Lib.hid hpn2
    have HLN := Lib.hid hln
    clear hp1 hp2 hpc hpn1 hpn2 hL hM hln
    go_enter Try.func6, Try.ntmps6
    go_wp2_with fail
    refine (HP1.out _ hsl).mono ?_
    rintro en w1 ⟨v, rfl, own1, hb1⟩
    obtain ⟨A1, c1, rfl, -, -⟩ := own_slc own1
    go_wp2_with fail
    refine (HP2.out _ ((hsl.under hb1).up hb1.size)).mono ?_
    rintro en w2 ⟨v, rfl, own2, hb2⟩
    obtain ⟨A2, c2, rfl, -, -⟩ := own_slc own2
    have hB2 := hb1.trans (hb2.mono hb1.size)
    have s1 := Lib.hid (own_sl (own_below own1 hb2))
    have s2 := Lib.hid (own_sl own2)
    have s0 := Lib.hid (hsl.under hB2)
    clear own1 own2 hb1 hb2 hsl
    by_cases he : e = 0
    · subst he
      have HC := Lib.hid (HPC.out rfl).1
      clear HPC HPN1 HPN2 HP1 HP2
      have hLM := HC.out.len
      obtain ⟨m, hm⟩ : ∃ m, L.length = m + 1 := ⟨L.length - 1, by have := HC.out.pos; omega⟩
      have hm2 : M.length = m + 1 := by omega
      obtain ⟨g1, o1, rfl, hg1, hc1⟩ := s1.out.ints_all (by omega)
      obtain ⟨g2, o2, rfl, hg2, hc2⟩ := s2.out.ints_all (by omega)
      have HC1 := Lib.hid hc1
      have HC2 := Lib.hid hc2
      have HM := Lib.hid hm
      have HM2 := Lib.hid hm2
      rw [hm] at hpl
      have hm60 : m + 1 ≤ 120 := by have := HLN.out; omega
      have ew2 : IntKind.i64.wrap (m : Int) = (m : Int) := IntWalk.i64_in _ (by omega)
      have ew3 : IntKind.i64.wrap ((m : Int) + 1 - 1) = (m : Int) := (by rw [Int.add_sub_cancel]; exact ew2)
      have ew : wrap64 (m : Int) = (m : Int) := IntWalk.wrap64_in _ (by omega)
      clear hpl
      simp only [hm, hm2]
      have hh0 : 0 < n := by
        have h0 := (HC.out.rng 0 (by omega))
        have := HLN.out
        omega
      obtain ⟨g0, o0, rfl, hg0, hc0⟩ := s0.out.ints_all hh0
      have HC0 := Lib.hid hc0
      have q1 : w2.cell? ⟨g1, o1, none⟩ = some (.int .i64 a) := by
        have := hc1 0 (by omega)
        rw [HC.out.beg (by omega)] at this
        exact this
      have q2 : w2.cell? ⟨g1, o1 + m, none⟩ = some (.int .i64 b) := by
        have := hc1 m (by omega)
        have e2 := HC.out.fin (by omega)
        have e3 : L[m]'(by omega) = b := by rw [← e2]; congr 1; omega
        rw [e3] at this
        exact this
      clear hc1 hc2 hc0 hm hm2 hLM s1 s2 s0
      go_wp2
      go_loopw [70] (fun iv wr => ∃ k q : Nat, k ≤ m + 1 ∧ iv = .int .i64 k ∧ wr = w2.drewN q) (fun iv _ => m + 1 - (intOf iv).toNat)
      case atStart => exact ⟨0, 0, by omega, rfl, rfl⟩
      case round =>
        obtain ⟨k, q, hk, rfl, rfl⟩ := hrel
        by_cases hlt : k < m + 1
        · have hr := HC.out.rng k (by have := HM.out; omega)
          have ck := HC1.out k (by have := HM.out; omega)
          have hrv := HC.out.rev k (by have := HM.out; omega) (by have := HM2.out; omega)
          have cm := HC2.out (M.length - 1 - k) (by have := HM2.out; omega)
          rw [hrv] at cm
          have harc := HC.out.arc k (by have := HM.out; omega)
          obtain ⟨x, hx⟩ : ∃ x, L[k]'(by have := HM.out; omega) = x := ⟨_, rfl⟩
          have hdis : ∀ j (hj : j < k), L[j]'(by have := HM.out; omega) ≠ x := fun j hj e => HC.out.dis j k hj (by have := HM.out; omega) (e.trans hx.symm)
          rw [hx] at hr ck cm harc
          obtain ⟨X, rfl⟩ : ∃ X : Nat, x = X := ⟨x.toNat, by omega⟩
          have hXn : X < n := by have := HLN.out; omega
          have cm2 : w2.cell? ⟨g2, o2 + ((m : Int) - (k : Int)).toNat, none⟩ = some (.int .i64 (X : Nat)) := by
            rw [← cm]; congr 3; have := HM2.out; omega
          have w1_ : wrap64 ((m : Int) - (k : Int)) = (m : Int) - (k : Int) := IntWalk.wrap64_in _ (by omega)
          have w3_ : IntKind.i64.wrap ((m : Int) - (k : Int)) = (m : Int) - (k : Int) := IntWalk.i64_in _ (by omega)
          have i0 : (0 : Int) ≤ (m : Int) - (k : Int) := by omega
          have i1 : (m : Int) - (k : Int) < (m : Int) + 1 := by omega
          have hkm : k ≤ m := by omega
          have cm3 : w2.cell? ⟨g2, o2 + (m - k), none⟩ = some (.int .i64 (X : Nat)) := by
            rw [← cm]; congr 3; have := HM2.out; omega
          have j0 : (0 : Int) ≤ (k : Int) := by omega
          have j1 : (k : Int) < (m : Int) + 1 := by omega
          have d1 : decide ((X : Int) < 0) = false := by simp
          have d2 : decide ((n : Int) ≤ (X : Int)) = false := by simp; omega
          have d2n : decide (n ≤ X) = false := by simp; omega
          have HDIS := Lib.hid hdis
          have HR := Lib.hid harc
          have HX := Lib.hid hx
          have cX := HC0.out X (by have := HLN.out; omega)
          have hnX : nx h (X : Nat) = h[X]'(by have := HLN.out; omega) := nx_at _
          rw [← hnX] at cX
          obtain ⟨u, hu⟩ : ∃ u, nx h (X : Nat) = u := ⟨_, rfl⟩
          rw [hu] at cX
          have HU := Lib.hid hu
          clear hr cm harc hdis hx hnX hu
          have k0 : (0 : Int) ≤ (X : Int) := by omega
          have k1 : (X : Int) < (n : Int) := by omega
          by_cases hk0 : k = 0
          · subst hk0
            have ck' : w2.cell? ⟨g1, o1, none⟩ = some (.int .i64 (X : Nat)) := ck
            have cm' : w2.cell? ⟨g2, o2 + m, none⟩ = some (.int .i64 (X : Nat)) := cm3
            clear ck cm2 cm3 w1_ w3_ i0 i1 hkm j0 j1 HDIS HR HX
            have ea : a = (X : Int) := by rw [q1] at ck'; cases ck'; rfl
            clear ck'
            subst ea
            have ji : (0 : Int) < (m : Int) + 1 := by omega
            go_wp2
            go_big_quiet (fail)
            go_wp2
            go_loopw [12] (fun jv wr => jv = .int .i64 0 ∧ ∃ q2 : Nat, wr = w2.drewN q2) (fun _ _ => 0)
            case atStart => exact ⟨rfl, q + nq, World.drewN_drewN _ _ _⟩
            case round =>
              obtain ⟨rfl, q2, rfl⟩ := hrel
              go_wp2
              go_roundw
              case rel => exact ⟨1, q2, by omega, by go_num, rfl⟩
              case measure => simp [intOf]
          · have d3 : decide ((0 : Int) < (k : Int)) = true := by simp; omega
            have d4 : decide (0 < k) = true := by simp; omega
            have d5 : 0 < k := by omega
            have hr2 := HC.out.rng (k - 1) (by have := HM.out; omega)
            have ck2 := HC1.out (k - 1) (by have := HM.out; omega)
            have ha := HR.out (by omega)
            obtain ⟨y, hy⟩ : ∃ y, L[k - 1]'(by have := HM.out; omega) = y := ⟨_, rfl⟩
            rw [hy] at hr2 ck2 ha
            obtain ⟨Y, rfl⟩ : ∃ Y : Nat, y = Y := ⟨y.toNat, by omega⟩
            have hYn : Y < n := by have := HLN.out; omega
            have cY2 : w2.cell? ⟨g1, o1 + ((k : Int) - 1).toNat, none⟩ = some (.int .i64 (Y : Nat)) := by
              rw [← ck2]; congr 3; omega
            have cY3 : w2.cell? ⟨g1, o1 + (k - 1), none⟩ = some (.int .i64 (Y : Nat)) := ck2
            have hk1 : 1 ≤ k := by omega
            have w2_ : wrap64 ((k : Int) - 1) = (k : Int) - 1 := IntWalk.wrap64_in _ (by omega)
            have w4_ : IntKind.i64.wrap ((k : Int) - 1) = (k : Int) - 1 := IntWalk.i64_in _ (by omega)
            have l0 : (0 : Int) ≤ (k : Int) - 1 := by omega
            have l1 : (k : Int) - 1 < (m : Int) + 1 := by omega
            have m0 : (0 : Int) ≤ (Y : Int) := by omega
            have m1 : (Y : Int) < (n : Int) := by omega
            have cY := HC0.out Y (by have := HLN.out; omega)
            have hnY : nx h (Y : Nat) = h[Y]'(by have := HLN.out; omega) := nx_at _
            rw [← hnY] at cY
            obtain ⟨v, hv⟩ : ∃ v, nx h (Y : Nat) = v := ⟨_, rfl⟩
            rw [HU.out, hv] at ha
            rw [hv] at cY
            have hor : (u != (Y : Int)) = false ∨ ((u != (Y : Int)) = true ∧ (v != (X : Int)) = false) := by
              by_cases e1 : u = Y
              · left; rw [e1]; simp
              · right
                refine ⟨by rw [bne_iff_ne]; exact e1, ?_⟩
                rcases ha with e2 | e2
                · exact absurd e2 e1
                · rw [e2]; simp
            clear hr2 ck2 ha hy hnY hv hk0
            rcases hor with b1 | ⟨b1, b2⟩
            · go_wp2
              go_big_quiet (fail)
              go_wp2
              clear d1 d2 d2n d3 d4 d5 w1_ w2_ w3_ w4_ i0 i1 j0 j1 k0 k1 l0 l1 m0 m1 cm2 cm3 cY2 cY3 cX cY b1
              go_loopw [12] (fun jv wr => ∃ j q2 : Nat, j ≤ k ∧ jv = .int .i64 j ∧ wr = w2.drewN q2) (fun jv _ => k - (intOf jv).toNat)
              case atStart => exact ⟨0, q + nq, by omega, rfl, World.drewN_drewN _ _ _⟩
              case round =>
                obtain ⟨j, q2, hj, rfl, rfl⟩ := hrel
                by_cases hjk : j < k
                · have cj := HC1.out j (by have := HM.out; omega)
                  have hne := HDIS.out j hjk
                  obtain ⟨z, hz⟩ : ∃ z, L[j]'(by have := HM.out; omega) = z := ⟨_, rfl⟩
                  rw [hz] at cj hne
                  have e1 : (z == (X : Int)) = false := by rw [beq_eq_false_iff_ne]; exact hne
                  have hjm : j < m + 1 := by omega
                  have hji : (j : Int) < (m : Int) + 1 := by omega
                  clear hz
                  go_wp2
                  go_big_quiet (fail)
                  go_wp2
                  go_roundw
                  case rel => exact ⟨j + 1, _, by omega, by go_num, rfl⟩
                  case measure => simp [intOf]; omega
                · go_wp2
                  go_roundw
                  case rel =>
                    (repeat apply Exists.intro)
                    exact ⟨⟨k + 1, q2, by omega, by go_num, rfl⟩, rfl⟩
                  case measure => simp [intOf]; omega
            · go_wp2
              go_big_quiet (fail)
              go_wp2
              clear d1 d2 d2n d3 d4 d5 w1_ w2_ w3_ w4_ i0 i1 j0 j1 k0 k1 l0 l1 m0 m1 cm2 cm3 cY2 cY3 cX cY b1 b2
              go_loopw [12] (fun jv wr => ∃ j q2 : Nat, j ≤ k ∧ jv = .int .i64 j ∧ wr = w2.drewN q2) (fun jv _ => k - (intOf jv).toNat)
              case atStart => exact ⟨0, q + nq, by omega, rfl, World.drewN_drewN _ _ _⟩
              case round =>
                obtain ⟨j, q2, hj, rfl, rfl⟩ := hrel
                by_cases hjk : j < k
                · have cj := HC1.out j (by have := HM.out; omega)
                  have hne := HDIS.out j hjk
                  obtain ⟨z, hz⟩ : ∃ z, L[j]'(by have := HM.out; omega) = z := ⟨_, rfl⟩
                  rw [hz] at cj hne
                  have e1 : (z == (X : Int)) = false := by rw [beq_eq_false_iff_ne]; exact hne
                  have hjm : j < m + 1 := by omega
                  have hji : (j : Int) < (m : Int) + 1 := by omega
                  clear hz
                  go_wp2
                  go_big_quiet (fail)
                  go_wp2
                  go_roundw
                  case rel => exact ⟨j + 1, _, by omega, by go_num, rfl⟩
                  case measure => simp [intOf]; omega
                · go_wp2
                  go_roundw
                  case rel =>
                    (repeat apply Exists.intro)
                    exact ⟨⟨k + 1, q2, by omega, by go_num, rfl⟩, rfl⟩
                  case measure => simp [intOf]; omega
        · go_wp2_with fail
          refine (awake_any _).mono ?_
          rintro en w3 ⟨rfl, hb3⟩
          go_wp2
          go_ret
          exact ⟨ret_bool rfl, (below_drewN hB2 q).trans (hb3.mono (below_drewN hB2 q).size)⟩
    · have E1 : ((e : Int) != (e : Int)) = false := by simp
      have E2 : ((e : Int) != 0) = true := by rw [bne_iff_ne]; omega
      have h1 := HPN1.out he
      have h2 := HPN2.out he
      subst h1 h2
      clear HPC HPN1 HPN2 HP1 HP2 s1 s2 s0 he
      go_wp2_with fail
      refine (awake_any _).mono ?_
      rintro en w3 ⟨rfl, hb3⟩
      go_wp2
      go_ret
      exact ⟨ret_bool rfl, hB2.trans (hb3.mono hB2.size)⟩
end Go.Proofs.Ytnbnmomichegaaa
