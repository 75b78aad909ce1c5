/-
  The contract of depend.line: the head and the relation of a line, or the error. Conditions: the line has at most 2097152 bytes; at most 4096 tokens.
-/
import Derived.Test.YtnbnmomichegaaaDoorBase6
namespace Go.Proofs.YtnbnmomichegaaaDoor
open Go.RowKit Utf
open Feat (Bs)

namespace Dep
def dg (c : UInt8) : Bool := decide (48 ≤ (c.toNat : Int)) && decide ((c.toNat : Int) ≤ 57)
def digs (s : Bs) : Bs := s.takeWhile dg
def vl (l : Bs) : Nat := l.foldl (fun n c => 10 * n + (c.toNat - 48)) 0
theorem vl_snoc (l : Bs) (c : UInt8) : vl (l ++ [c]) = 10 * vl l + (c.toNat - 48) := by unfold vl; rw [List.foldl_append]; rfl
/-- What a line comes to: head, relation, offset of the error, error. -/
def lineP (s : Bs) (T : Nat) : Int × Bs × Nat × Nat :=
  if (digs s).length = 0 then (0, [], 0, 3)
  else if s[0]? = some 48 ∧ 1 < (digs s).length then (0, [], 1, 3)
  else if s[(digs s).length]? ≠ some 9 then (0, [], (digs s).length, 3)
  else if T < vl (digs s) then (0, [], 0, 8)
  else if s.drop ((digs s).length + 1) ≠ [] ∧ Tagp.okName (s.drop ((digs s).length + 1)) = false then (0, [], (digs s).length + 1, 4)
  else ((vl (digs s) : Int) - 1, s.drop ((digs s).length + 1), 0, 0)
theorem digs_stop {s : Bs} {e : Nat} (he : e ≤ s.length) (h1 : ∀ k (hk : k < s.length), k < e → dg s[k] = true) (h2 : e = s.length ∨ ∃ hk : e < s.length, dg s[e] = false) : digs s = s.take e := by
  unfold digs
  induction s generalizing e with
  | nil => simp
  | cons c t ih =>
    cases e with
    | zero =>
      rcases h2 with h2 | ⟨_, h2⟩
      · simp at h2
      · simp at h2; simp [h2]
    | succ e =>
      have hc := h1 0 (by simp) (by omega)
      simp at hc
      rw [List.takeWhile_cons, hc, if_pos rfl, List.take_succ_cons, ih (e := e) (by simpa using he) (fun k hk hke => h1 (k + 1) (by simpa using hk) (by omega)) ?_]
      rcases h2 with h2 | ⟨hk, h2⟩
      · left; simpa using h2
      · right; exact ⟨by simpa using hk, by simpa using h2⟩
theorem line_zero {s : Bs} {T : Nat} (h : digs s = []) : lineP s T = (0, [], 0, 3) := by unfold lineP; rw [h]; rfl
theorem line_two {s : Bs} {T : Nat} (h : 1 < (digs s).length) (h0 : s[0]? = some 48) : lineP s T = (0, [], 1, 3) := by
  unfold lineP; rw [if_neg (by omega), if_pos ⟨h0, h⟩]
theorem line_tab {s : Bs} {T : Nat} (h : (digs s).length ≠ 0) (h0 : ¬ (s[0]? = some 48 ∧ 1 < (digs s).length)) (h1 : s[(digs s).length]? ≠ some 9) : lineP s T = (0, [], (digs s).length, 3) := by
  unfold lineP; rw [if_neg h, if_neg h0, if_pos h1]
theorem line_big {s : Bs} {T : Nat} (h : (digs s).length ≠ 0) (h0 : ¬ (s[0]? = some 48 ∧ 1 < (digs s).length)) (h1 : s[(digs s).length]? = some 9) (h2 : T < vl (digs s)) : lineP s T = (0, [], 0, 8) := by
  unfold lineP; rw [if_neg h, if_neg h0, if_neg (by simpa using h1), if_pos h2]
theorem line_name {s : Bs} {T : Nat} (h : (digs s).length ≠ 0) (h0 : ¬ (s[0]? = some 48 ∧ 1 < (digs s).length)) (h1 : s[(digs s).length]? = some 9) (h2 : ¬ T < vl (digs s))
    (h3 : s.drop ((digs s).length + 1) ≠ [] ∧ Tagp.okName (s.drop ((digs s).length + 1)) = false) : lineP s T = (0, [], (digs s).length + 1, 4) := by
  unfold lineP; rw [if_neg h, if_neg h0, if_neg (by simpa using h1), if_neg h2, if_pos h3]
theorem line_ok {s : Bs} {T : Nat} (h : (digs s).length ≠ 0) (h0 : ¬ (s[0]? = some 48 ∧ 1 < (digs s).length)) (h1 : s[(digs s).length]? = some 9) (h2 : ¬ T < vl (digs s))
    (h3 : ¬ (s.drop ((digs s).length + 1) ≠ [] ∧ Tagp.okName (s.drop ((digs s).length + 1)) = false)) : lineP s T = ((vl (digs s) : Int) - 1, s.drop ((digs s).length + 1), 0, 0) := by
  unfold lineP; rw [if_neg h, if_neg h0, if_neg (by simpa using h1), if_neg h2, if_neg h3]
theorem min_step (v d T : Nat) : min (10 * min v (T + 1) + d) (T + 1) = min (10 * v + d) (T + 1) := by omega
theorem line_ge {s : Bs} {T : Nat} (h : (lineP s T).2.2.2 = 0) : -1 ≤ (lineP s T).1 ∧ (lineP s T).1 < T := by
  unfold lineP at h ⊢
  split at h
  · cases h
  · rename_i h1
    rw [if_neg h1]
    split at h
    · cases h
    · rename_i h2
      rw [if_neg h2]
      split at h
      · cases h
      · rename_i h3
        rw [if_neg h3]
        split at h
        · cases h
        · rename_i h4
          rw [if_neg h4]
          split at h
          · cases h
          · rename_i h5
            rw [if_neg h5]
            show -1 ≤ (vl (digs s) : Int) - 1 ∧ (vl (digs s) : Int) - 1 < T
            omega
end Dep
open Dep

/-- What line hands back. -/
def Lined (p : Int × Bs × Nat × Nat) (w : World) (e : Ending) (w' : World) : Prop := e = .returned (.tuple #[.int .i64 p.1, str p.2.1, .agg #[.int .i64 (p.2.2.1 : Nat), .int .i64 (p.2.2.2 : Nat)]]) ∧ Below w.heap.size w w'
theorem lined_ret {p q : Int × Bs × Nat × Nat} {w w' : World} (h : p = q) (hb : Below w.heap.size w w') {en : Ending} (he : en = .returned (.tuple #[.int .i64 q.1, str q.2.1, .agg #[.int .i64 (q.2.2.1 : Nat), .int .i64 (q.2.2.2 : Nat)]])) : Lined p w en w' := by subst h; exact ⟨he, hb⟩
theorem size_fault : (Tryd.prog.info? 63).map (·.size) = some (#[Value.int .i64 0, .int .i64 0] : Array Value).size := by kernel_rfl
theorem results_line {w : World} {g : Nat} {x y : Value} (tmps : Array Value) (h6 : tmps.getD 6 undef = .pointer (some ⟨g, 0, none⟩)) (hg : Blk w g 63 #[x, y]) :
    (results Tryd.f24 tmps).run Tryd.prog w = .ok (.tuple #[tmps.getD 4 undef, tmps.getD 5 undef, .agg #[x, y]]) w := by
  have hp' : tmps[6]?.getD undef = .pointer (some ⟨g, 0, none⟩) := by simpa using h6
  have c0 := hg.cell 0
  have c1 := hg.cell 1
  simp only [List.getElem?_toArray, List.getElem?_cons_zero, List.getElem?_cons_succ] at c0 c1
  simp [results, Tryd.f24, hp', asAddr, c0, c1, go_sem]
attribute [local go_sem] byte_mk ByteArray.extract_mk

set_option maxRecDepth 100000 in
set_option maxHeartbeats 2000000 in
theorem line_any (s : Bs) (T : Nat) (hs : s.length ≤ 2097152) (hT : T ≤ 4096) (w : World) :
    Calls Tryd.prog 24 #[str s, .int .i64 (T : Nat)] w (Lined (lineP s T) w) := by
  have hB1 : ∀ a b, Below w.heap.size w (w.alloc (.cells #[a, b] 63)) := fun a b => (Below.refl w.heap.size w).alloc (Nat.le_refl _) _
  have hb1 : ∀ a b, Blk (w.alloc (.cells #[a, b] 63)) w.heap.size 63 #[a, b] := fun a b => Blk.new w _ _
  have HB1 := Lib.hid hB1
  have HB2 := Lib.hid hb1
  clear hB1 hb1
  go_enter Tryd.func24, Tryd.ntmps24
  go_wp2
  go_loop [8, 7] (fun ev nv => ∃ (e m : Nat), e ≤ s.length ∧ ev = .int .i64 e ∧ nv = .int .i64 m ∧ m ≤ T + 1 ∧ Hid (m = min (vl (s.take e)) (T + 1)) ∧ Hid (∀ k (hk : k < s.length), k < e → dg s[k] = true)) (fun ev _ => s.length - (intOf ev).toNat)
  case atStart => exact ⟨0, 0, by omega, rfl, rfl, by omega, by show _ = _; simp [vl], fun k hk h => by omega⟩
  case round =>
    obtain ⟨e, m, he, rfl, rfl, hm, hmv, hall⟩ := hrel
    by_cases hk : e < s.length
    · have hts : Hid (s.take (e + 1) = s.take e ++ [s[e]]) := List.take_succ_eq_append_getElem hk
      have hall2 : Hid (dg s[e] = true → ∀ k (hk : k < s.length), k < e + 1 → dg s[k] = true) := fun hd k hk2 hke => by
        by_cases e2 : k = e
        · subst e2; exact hd
        · exact hall.out k hk2 (by omega)
      have hstop : Hid (dg s[e] = false → digs s = s.take e) := fun hd => digs_stop he hall.out (.inr ⟨hk, hd⟩)
      have hse : Hid (s[e]? = some s[e]) := List.getElem?_eq_getElem hk
      have hc8 := s[e].toNat_lt
      by_cases hge : 48 ≤ (s[e].toNat : Int)
      · by_cases hle : (s[e].toNat : Int) ≤ 57
        · have hd1 : dg s[e] = true := by unfold dg; simp; omega
          have HA := Lib.hid (hall2.out hd1)
          obtain ⟨d, hd⟩ : ∃ d : Nat, d = s[e].toNat - 48 := ⟨_, rfl⟩
          have hdi : (s[e].toNat : Int) - 48 = (d : Int) := by omega
          have hd9 : d ≤ 9 := by omega
          have HM : Hid (min (10 * m + d) (T + 1) = min (vl (s.take (e + 1))) (T + 1)) := by
            show _ = _
            rw [hts.out, vl_snoc, ← hd, hmv.out, min_step]
          clear hd1 hd hc8
          by_cases hov : (T : Int) + 1 < 10 * (m : Int) + d
          · have HM2 : Hid (T + 1 = min (vl (s.take (e + 1))) (T + 1)) := by show _ = _; rw [← HM.out]; omega
            go_wp2
            go_round
            case rel => exact ⟨e + 1, T + 1, by omega, by go_num, by go_num, by omega, HM2, HA⟩
            case measure => simp [intOf]; omega
          · have HM2 : Hid (10 * m + d = min (vl (s.take (e + 1))) (T + 1)) := by show _ = _; rw [← HM.out]; omega
            go_wp2
            go_round
            case rel => exact ⟨e + 1, 10 * m + d, by omega, by go_num, by go_num, by omega, HM2, HA⟩
            case measure => simp [intOf]; omega
        · have HD := Lib.hid (hstop.out (by unfold dg; simp; omega))
          have HDL : Hid ((digs s).length = e) := by show _ = _; rw [HD.out, List.length_take]; omega
          have HMV : Hid (m = min (vl (digs s)) (T + 1)) := by show _ = _; rw [HD.out]; exact hmv.out
          clear hmv hall
          rcases Nat.eq_zero_or_pos e with h0 | h0
          · subst h0
            have HF := Lib.hid (line_zero (s := s) (T := T) (by rw [HD.out]; rfl))
            go_wp2
            refine bodyPost_ret (results_line _ rfl (HB2.out _ _)) rfl ?_
            exact lined_ret HF.out (HB1.out _ _) rfl
          · have he0 : ((e : Int) == 0) = false := by rw [beq_eq_false_iff_ne]; omega
            have hs0 : 0 < s.length := by omega
            have hz0 : Hid (s[0]? = some s[0]) := List.getElem?_eq_getElem hs0
            by_cases h48 : s[0] = 48 ∧ 1 < e
            · obtain ⟨h48, h1e⟩ := h48
              have e48 : ((s[0].toNat : Int) == 48) = true := by rw [h48]; rfl
              have HF := Lib.hid (line_two (s := s) (T := T) (by rw [HDL.out]; exact h1e) (by rw [hz0.out, h48]))
              have h1d : decide (1 < (e : Int)) = true := by simp; omega
              clear h48
              go_wp2
              refine bodyPost_ret (results_line _ rfl (HB2.out _ _)) rfl ?_
              exact lined_ret HF.out (HB1.out _ _) rfl
            · have HN0 : Hid (¬ (s[0]? = some 48 ∧ 1 < (digs s).length)) := by
                rintro ⟨h2, h3⟩
                rw [hz0.out] at h2
                rw [HDL.out] at h3
                exact h48 ⟨Option.some.inj h2, h3⟩
              have HNE : Hid ((digs s).length ≠ 0) := by show _ ≠ _; rw [HDL.out]; omega
              have hfirst : (((s[0].toNat : Int) == 48) = true ∧ ¬ 1 < e) ∨ ((s[0].toNat : Int) == 48) = false := by
                by_cases h1 : s[0] = 48
                · exact .inl ⟨by rw [h1]; rfl, fun h2 => h48 ⟨h1, h2⟩⟩
                · right; rw [beq_eq_false_iff_ne]; intro h2; exact h1 (UInt8.toNat_inj.1 (by show _ = 48; omega))
              clear h48
              rcases hfirst with ⟨e48, h1e⟩ | e48
              · have h1d : decide (1 < (e : Int)) = false := by simp; omega
                have hel : ((e : Int) == (s.length : Int)) = false := by rw [beq_eq_false_iff_ne]; omega
                by_cases h9 : s[e] = 9
                · have e9 : ((s[e].toNat : Int) != 9) = false := by rw [h9]; rfl
                  have H9 : Hid (s[(digs s).length]? = some 9) := by show _ = _; rw [HDL.out, hse.out, h9]
                  clear h9 hts hall2 hstop
                  by_cases hTm : T < m
                  · have HF := Lib.hid (line_big (s := s) (T := T) HNE.out HN0.out H9.out (by have := HMV.out; omega))
                    go_wp2
                    refine bodyPost_ret (results_line _ rfl (HB2.out _ _)) rfl ?_
                    exact lined_ret HF.out (HB1.out _ _) rfl
                  · have HV : Hid (vl (digs s) = m) := by show _ = _; have := HMV.out; omega
                    have HT2 : Hid (¬ T < vl (digs s)) := by have := HMV.out; show ¬ _; omega
                    obtain ⟨r, hr⟩ : ∃ r, r = s.drop (e + 1) := ⟨_, rfl⟩
                    have hs1 : ∀ W, (Instr.slice 9 (str s) (some (.int .i64 ((e : Int) + 1))) none none).run Tryd.prog W = .ok (str r) W := fun W => by rw [hr]; exact str_from 9 Tryd.underlying9 s (e + 1) (by omega) W
                    have hrl : r.length ≤ 2097152 := by rw [hr]; simp; omega
                    have HR : Hid (s.drop ((digs s).length + 1) = r) := by show _ = _; rw [HDL.out, hr]
                    clear hr
                    by_cases hre : r = []
                    · subst hre
                      have HF := Lib.hid (line_ok (s := s) (T := T) HNE.out HN0.out H9.out HT2.out (by rw [HR.out]; simp))
                      rw [HV.out, HR.out] at HF
                      go_wp2
                      refine bodyPost_ret (results_line _ rfl (HB2.out _ _)) rfl ?_
                      exact lined_ret HF.out (HB1.out _ _) rfl
                    · have hrb : (r != []) = true := by simpa using hre
                      have hrb3 : (r == []) = false := by simpa using hre
                      go_wp2_with fail
                      refine (validName_any r (by omega) _).mono ?_
                      rintro en w' ⟨rfl, rfl⟩
                      cases hok : Tagp.okName r with
                      | false =>
                        have HF := Lib.hid (line_name (s := s) (T := T) HNE.out HN0.out H9.out HT2.out (by rw [HR.out]; exact ⟨hre, hok⟩))
                        rw [HDL.out] at HF
                        clear hok hre
                        go_wp2
                        refine bodyPost_ret (results_line _ rfl (HB2.out _ _)) rfl ?_
                        exact lined_ret HF.out (HB1.out _ _) rfl
                      | true =>
                        have HF := Lib.hid (line_ok (s := s) (T := T) HNE.out HN0.out H9.out HT2.out (by rw [HR.out, hok]; simp))
                        rw [HV.out, HR.out] at HF
                        clear hok hre
                        go_wp2
                        refine bodyPost_ret (results_line _ rfl (HB2.out _ _)) rfl ?_
                        exact lined_ret HF.out (HB1.out _ _) rfl
                · have e9 : ((s[e].toNat : Int) != 9) = true := by rw [bne_iff_ne]; intro h2; exact h9 (UInt8.toNat_inj.1 (by show _ = 9; omega))
                  have HF := Lib.hid (line_tab (s := s) (T := T) HNE.out HN0.out (by rw [HDL.out, hse.out]; simpa using h9))
                  rw [HDL.out] at HF
                  clear h9 hts hall2 hstop
                  go_wp2
                  refine bodyPost_ret (results_line _ rfl (HB2.out _ _)) rfl ?_
                  exact lined_ret HF.out (HB1.out _ _) rfl
              · have hel : ((e : Int) == (s.length : Int)) = false := by rw [beq_eq_false_iff_ne]; omega
                by_cases h9 : s[e] = 9
                · have e9 : ((s[e].toNat : Int) != 9) = false := by rw [h9]; rfl
                  have H9 : Hid (s[(digs s).length]? = some 9) := by show _ = _; rw [HDL.out, hse.out, h9]
                  clear h9 hts hall2 hstop
                  by_cases hTm : T < m
                  · have HF := Lib.hid (line_big (s := s) (T := T) HNE.out HN0.out H9.out (by have := HMV.out; omega))
                    go_wp2
                    refine bodyPost_ret (results_line _ rfl (HB2.out _ _)) rfl ?_
                    exact lined_ret HF.out (HB1.out _ _) rfl
                  · have HV : Hid (vl (digs s) = m) := by show _ = _; have := HMV.out; omega
                    have HT2 : Hid (¬ T < vl (digs s)) := by have := HMV.out; show ¬ _; omega
                    obtain ⟨r, hr⟩ : ∃ r, r = s.drop (e + 1) := ⟨_, rfl⟩
                    have hs1 : ∀ W, (Instr.slice 9 (str s) (some (.int .i64 ((e : Int) + 1))) none none).run Tryd.prog W = .ok (str r) W := fun W => by rw [hr]; exact str_from 9 Tryd.underlying9 s (e + 1) (by omega) W
                    have hrl : r.length ≤ 2097152 := by rw [hr]; simp; omega
                    have HR : Hid (s.drop ((digs s).length + 1) = r) := by show _ = _; rw [HDL.out, hr]
                    clear hr
                    by_cases hre : r = []
                    · subst hre
                      have HF := Lib.hid (line_ok (s := s) (T := T) HNE.out HN0.out H9.out HT2.out (by rw [HR.out]; simp))
                      rw [HV.out, HR.out] at HF
                      go_wp2
                      refine bodyPost_ret (results_line _ rfl (HB2.out _ _)) rfl ?_
                      exact lined_ret HF.out (HB1.out _ _) rfl
                    · have hrb : (r != []) = true := by simpa using hre
                      have hrb3 : (r == []) = false := by simpa using hre
                      go_wp2_with fail
                      refine (validName_any r (by omega) _).mono ?_
                      rintro en w' ⟨rfl, rfl⟩
                      cases hok : Tagp.okName r with
                      | false =>
                        have HF := Lib.hid (line_name (s := s) (T := T) HNE.out HN0.out H9.out HT2.out (by rw [HR.out]; exact ⟨hre, hok⟩))
                        rw [HDL.out] at HF
                        clear hok hre
                        go_wp2
                        refine bodyPost_ret (results_line _ rfl (HB2.out _ _)) rfl ?_
                        exact lined_ret HF.out (HB1.out _ _) rfl
                      | true =>
                        have HF := Lib.hid (line_ok (s := s) (T := T) HNE.out HN0.out H9.out HT2.out (by rw [HR.out, hok]; simp))
                        rw [HV.out, HR.out] at HF
                        clear hok hre
                        go_wp2
                        refine bodyPost_ret (results_line _ rfl (HB2.out _ _)) rfl ?_
                        exact lined_ret HF.out (HB1.out _ _) rfl
                · have e9 : ((s[e].toNat : Int) != 9) = true := by rw [bne_iff_ne]; intro h2; exact h9 (UInt8.toNat_inj.1 (by show _ = 9; omega))
                  have HF := Lib.hid (line_tab (s := s) (T := T) HNE.out HN0.out (by rw [HDL.out, hse.out]; simpa using h9))
                  rw [HDL.out] at HF
                  clear h9 hts hall2 hstop
                  go_wp2
                  refine bodyPost_ret (results_line _ rfl (HB2.out _ _)) rfl ?_
                  exact lined_ret HF.out (HB1.out _ _) rfl
      · have HD := Lib.hid (hstop.out (by unfold dg; simp; omega))
        have HDL : Hid ((digs s).length = e) := by show _ = _; rw [HD.out, List.length_take]; omega
        have HMV : Hid (m = min (vl (digs s)) (T + 1)) := by show _ = _; rw [HD.out]; exact hmv.out
        clear hmv hall
        rcases Nat.eq_zero_or_pos e with h0 | h0
        · subst h0
          have HF := Lib.hid (line_zero (s := s) (T := T) (by rw [HD.out]; rfl))
          go_wp2
          refine bodyPost_ret (results_line _ rfl (HB2.out _ _)) rfl ?_
          exact lined_ret HF.out (HB1.out _ _) rfl
        · have he0 : ((e : Int) == 0) = false := by rw [beq_eq_false_iff_ne]; omega
          have hs0 : 0 < s.length := by omega
          have hz0 : Hid (s[0]? = some s[0]) := List.getElem?_eq_getElem hs0
          by_cases h48 : s[0] = 48 ∧ 1 < e
          · obtain ⟨h48, h1e⟩ := h48
            have e48 : ((s[0].toNat : Int) == 48) = true := by rw [h48]; rfl
            have HF := Lib.hid (line_two (s := s) (T := T) (by rw [HDL.out]; exact h1e) (by rw [hz0.out, h48]))
            have h1d : decide (1 < (e : Int)) = true := by simp; omega
            clear h48
            go_wp2
            refine bodyPost_ret (results_line _ rfl (HB2.out _ _)) rfl ?_
            exact lined_ret HF.out (HB1.out _ _) rfl
          · have HN0 : Hid (¬ (s[0]? = some 48 ∧ 1 < (digs s).length)) := by
              rintro ⟨h2, h3⟩
              rw [hz0.out] at h2
              rw [HDL.out] at h3
              exact h48 ⟨Option.some.inj h2, h3⟩
            have HNE : Hid ((digs s).length ≠ 0) := by show _ ≠ _; rw [HDL.out]; omega
            have hfirst : (((s[0].toNat : Int) == 48) = true ∧ ¬ 1 < e) ∨ ((s[0].toNat : Int) == 48) = false := by
              by_cases h1 : s[0] = 48
              · exact .inl ⟨by rw [h1]; rfl, fun h2 => h48 ⟨h1, h2⟩⟩
              · right; rw [beq_eq_false_iff_ne]; intro h2; exact h1 (UInt8.toNat_inj.1 (by show _ = 48; omega))
            clear h48
            rcases hfirst with ⟨e48, h1e⟩ | e48
            · have h1d : decide (1 < (e : Int)) = false := by simp; omega
              have hel : ((e : Int) == (s.length : Int)) = false := by rw [beq_eq_false_iff_ne]; omega
              by_cases h9 : s[e] = 9
              · have e9 : ((s[e].toNat : Int) != 9) = false := by rw [h9]; rfl
                have H9 : Hid (s[(digs s).length]? = some 9) := by show _ = _; rw [HDL.out, hse.out, h9]
                clear h9 hts hall2 hstop
                by_cases hTm : T < m
                · have HF := Lib.hid (line_big (s := s) (T := T) HNE.out HN0.out H9.out (by have := HMV.out; omega))
                  go_wp2
                  refine bodyPost_ret (results_line _ rfl (HB2.out _ _)) rfl ?_
                  exact lined_ret HF.out (HB1.out _ _) rfl
                · have HV : Hid (vl (digs s) = m) := by show _ = _; have := HMV.out; omega
                  have HT2 : Hid (¬ T < vl (digs s)) := by have := HMV.out; show ¬ _; omega
                  obtain ⟨r, hr⟩ : ∃ r, r = s.drop (e + 1) := ⟨_, rfl⟩
                  have hs1 : ∀ W, (Instr.slice 9 (str s) (some (.int .i64 ((e : Int) + 1))) none none).run Tryd.prog W = .ok (str r) W := fun W => by rw [hr]; exact str_from 9 Tryd.underlying9 s (e + 1) (by omega) W
                  have hrl : r.length ≤ 2097152 := by rw [hr]; simp; omega
                  have HR : Hid (s.drop ((digs s).length + 1) = r) := by show _ = _; rw [HDL.out, hr]
                  clear hr
                  by_cases hre : r = []
                  · subst hre
                    have HF := Lib.hid (line_ok (s := s) (T := T) HNE.out HN0.out H9.out HT2.out (by rw [HR.out]; simp))
                    rw [HV.out, HR.out] at HF
                    go_wp2
                    refine bodyPost_ret (results_line _ rfl (HB2.out _ _)) rfl ?_
                    exact lined_ret HF.out (HB1.out _ _) rfl
                  · have hrb : (r != []) = true := by simpa using hre
                    have hrb3 : (r == []) = false := by simpa using hre
                    go_wp2_with fail
                    refine (validName_any r (by omega) _).mono ?_
                    rintro en w' ⟨rfl, rfl⟩
                    cases hok : Tagp.okName r with
                    | false =>
                      have HF := Lib.hid (line_name (s := s) (T := T) HNE.out HN0.out H9.out HT2.out (by rw [HR.out]; exact ⟨hre, hok⟩))
                      rw [HDL.out] at HF
                      clear hok hre
                      go_wp2
                      refine bodyPost_ret (results_line _ rfl (HB2.out _ _)) rfl ?_
                      exact lined_ret HF.out (HB1.out _ _) rfl
                    | true =>
                      have HF := Lib.hid (line_ok (s := s) (T := T) HNE.out HN0.out H9.out HT2.out (by rw [HR.out, hok]; simp))
                      rw [HV.out, HR.out] at HF
                      clear hok hre
                      go_wp2
                      refine bodyPost_ret (results_line _ rfl (HB2.out _ _)) rfl ?_
                      exact lined_ret HF.out (HB1.out _ _) rfl
              · have e9 : ((s[e].toNat : Int) != 9) = true := by rw [bne_iff_ne]; intro h2; exact h9 (UInt8.toNat_inj.1 (by show _ = 9; omega))
                have HF := Lib.hid (line_tab (s := s) (T := T) HNE.out HN0.out (by rw [HDL.out, hse.out]; simpa using h9))
                rw [HDL.out] at HF
                clear h9 hts hall2 hstop
                go_wp2
                refine bodyPost_ret (results_line _ rfl (HB2.out _ _)) rfl ?_
                exact lined_ret HF.out (HB1.out _ _) rfl
            · have hel : ((e : Int) == (s.length : Int)) = false := by rw [beq_eq_false_iff_ne]; omega
              by_cases h9 : s[e] = 9
              · have e9 : ((s[e].toNat : Int) != 9) = false := by rw [h9]; rfl
                have H9 : Hid (s[(digs s).length]? = some 9) := by show _ = _; rw [HDL.out, hse.out, h9]
                clear h9 hts hall2 hstop
                by_cases hTm : T < m
                · have HF := Lib.hid (line_big (s := s) (T := T) HNE.out HN0.out H9.out (by have := HMV.out; omega))
                  go_wp2
                  refine bodyPost_ret (results_line _ rfl (HB2.out _ _)) rfl ?_
                  exact lined_ret HF.out (HB1.out _ _) rfl
                · have HV : Hid (vl (digs s) = m) := by show _ = _; have := HMV.out; omega
                  have HT2 : Hid (¬ T < vl (digs s)) := by have := HMV.out; show ¬ _; omega
                  obtain ⟨r, hr⟩ : ∃ r, r = s.drop (e + 1) := ⟨_, rfl⟩
                  have hs1 : ∀ W, (Instr.slice 9 (str s) (some (.int .i64 ((e : Int) + 1))) none none).run Tryd.prog W = .ok (str r) W := fun W => by rw [hr]; exact str_from 9 Tryd.underlying9 s (e + 1) (by omega) W
                  have hrl : r.length ≤ 2097152 := by rw [hr]; simp; omega
                  have HR : Hid (s.drop ((digs s).length + 1) = r) := by show _ = _; rw [HDL.out, hr]
                  clear hr
                  by_cases hre : r = []
                  · subst hre
                    have HF := Lib.hid (line_ok (s := s) (T := T) HNE.out HN0.out H9.out HT2.out (by rw [HR.out]; simp))
                    rw [HV.out, HR.out] at HF
                    go_wp2
                    refine bodyPost_ret (results_line _ rfl (HB2.out _ _)) rfl ?_
                    exact lined_ret HF.out (HB1.out _ _) rfl
                  · have hrb : (r != []) = true := by simpa using hre
                    have hrb3 : (r == []) = false := by simpa using hre
                    go_wp2_with fail
                    refine (validName_any r (by omega) _).mono ?_
                    rintro en w' ⟨rfl, rfl⟩
                    cases hok : Tagp.okName r with
                    | false =>
                      have HF := Lib.hid (line_name (s := s) (T := T) HNE.out HN0.out H9.out HT2.out (by rw [HR.out]; exact ⟨hre, hok⟩))
                      rw [HDL.out] at HF
                      clear hok hre
                      go_wp2
                      refine bodyPost_ret (results_line _ rfl (HB2.out _ _)) rfl ?_
                      exact lined_ret HF.out (HB1.out _ _) rfl
                    | true =>
                      have HF := Lib.hid (line_ok (s := s) (T := T) HNE.out HN0.out H9.out HT2.out (by rw [HR.out, hok]; simp))
                      rw [HV.out, HR.out] at HF
                      clear hok hre
                      go_wp2
                      refine bodyPost_ret (results_line _ rfl (HB2.out _ _)) rfl ?_
                      exact lined_ret HF.out (HB1.out _ _) rfl
              · have e9 : ((s[e].toNat : Int) != 9) = true := by rw [bne_iff_ne]; intro h2; exact h9 (UInt8.toNat_inj.1 (by show _ = 9; omega))
                have HF := Lib.hid (line_tab (s := s) (T := T) HNE.out HN0.out (by rw [HDL.out, hse.out]; simpa using h9))
                rw [HDL.out] at HF
                clear h9 hts hall2 hstop
                go_wp2
                refine bodyPost_ret (results_line _ rfl (HB2.out _ _)) rfl ?_
                exact lined_ret HF.out (HB1.out _ _) rfl
    · have HD := Lib.hid (digs_stop he hall.out (.inl (by omega)))
      have HDL : Hid ((digs s).length = e) := by show _ = _; rw [HD.out, List.length_take]; omega
      have HMV : Hid (m = min (vl (digs s)) (T + 1)) := by show _ = _; rw [HD.out]; exact hmv.out
      clear hmv hall
      rcases Nat.eq_zero_or_pos e with h0 | h0
      · subst h0
        have HF := Lib.hid (line_zero (s := s) (T := T) (by rw [HD.out]; rfl))
        go_wp2
        refine bodyPost_ret (results_line _ rfl (HB2.out _ _)) rfl ?_
        exact lined_ret HF.out (HB1.out _ _) rfl
      · have he0 : ((e : Int) == 0) = false := by rw [beq_eq_false_iff_ne]; omega
        have hs0 : 0 < s.length := by omega
        have hz0 : Hid (s[0]? = some s[0]) := List.getElem?_eq_getElem hs0
        by_cases h48 : s[0] = 48 ∧ 1 < e
        · obtain ⟨h48, h1e⟩ := h48
          have e48 : ((s[0].toNat : Int) == 48) = true := by rw [h48]; rfl
          have HF := Lib.hid (line_two (s := s) (T := T) (by rw [HDL.out]; exact h1e) (by rw [hz0.out, h48]))
          have h1d : decide (1 < (e : Int)) = true := by simp; omega
          clear h48
          go_wp2
          refine bodyPost_ret (results_line _ rfl (HB2.out _ _)) rfl ?_
          exact lined_ret HF.out (HB1.out _ _) rfl
        · have HN0 : Hid (¬ (s[0]? = some 48 ∧ 1 < (digs s).length)) := by
            rintro ⟨h2, h3⟩
            rw [hz0.out] at h2
            rw [HDL.out] at h3
            exact h48 ⟨Option.some.inj h2, h3⟩
          have HNE : Hid ((digs s).length ≠ 0) := by show _ ≠ _; rw [HDL.out]; omega
          have hfirst : (((s[0].toNat : Int) == 48) = true ∧ ¬ 1 < e) ∨ ((s[0].toNat : Int) == 48) = false := by
            by_cases h1 : s[0] = 48
            · exact .inl ⟨by rw [h1]; rfl, fun h2 => h48 ⟨h1, h2⟩⟩
            · right; rw [beq_eq_false_iff_ne]; intro h2; exact h1 (UInt8.toNat_inj.1 (by show _ = 48; omega))
          clear h48
          rcases hfirst with ⟨e48, h1e⟩ | e48
          · have h1d : decide (1 < (e : Int)) = false := by simp; omega
            have HF := Lib.hid (line_tab (s := s) (T := T) HNE.out HN0.out (by rw [HDL.out, List.getElem?_eq_none (by omega)]; simp))
            rw [HDL.out] at HF
            have hel : ((e : Int) == (s.length : Int)) = true := by rw [beq_iff_eq]; omega
            go_wp2
            refine bodyPost_ret (results_line _ rfl (HB2.out _ _)) rfl ?_
            exact lined_ret HF.out (HB1.out _ _) rfl
          · have HF := Lib.hid (line_tab (s := s) (T := T) HNE.out HN0.out (by rw [HDL.out, List.getElem?_eq_none (by omega)]; simp))
            rw [HDL.out] at HF
            have hel : ((e : Int) == (s.length : Int)) = true := by rw [beq_iff_eq]; omega
            go_wp2
            refine bodyPost_ret (results_line _ rfl (HB2.out _ _)) rfl ?_
            exact lined_ret HF.out (HB1.out _ _) rfl
end Go.Proofs.YtnbnmomichegaaaDoor
