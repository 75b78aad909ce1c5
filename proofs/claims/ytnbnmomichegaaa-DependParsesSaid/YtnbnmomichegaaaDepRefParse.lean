/-
  The contracts of the reference's parse and Parse: the same heads and relations, or the same error. Condition: the text's length is an int.
-/
import Derived.Test.YtnbnmomichegaaaDepParse
namespace Go.Proofs.Ytnbnmomichegaaa
open Go.RowKit Utf Dep
open Feat (Bs)

namespace Dep
def parseR (d : Bs) (T : Nat) : List Int × List Bs × Nat × Nat :=
  match parseD d T with
  | .error (a, e) => ([], [], a, e)
  | .ok (H, R, O) =>
    if H.length < T then ([], [], d.length, 15)
    else if (chk H).2 ≠ 0 then ([], [], O.getD (chk H).1 0, (chk H).2)
    else (H, R, 0, 0)
theorem parseR_err {d : Bs} {T a e : Nat} (h : parseD d T = .error (a, e)) : parseR d T = ([], [], a, e) := by unfold parseR; rw [h]
theorem parseR_few {d : Bs} {T : Nat} {H : List Int} {R : List Bs} {O : List Nat} (h : parseD d T = .ok (H, R, O)) (h2 : H.length < T) : parseR d T = ([], [], d.length, 15) := by unfold parseR; rw [h]; exact if_pos h2
theorem parseR_chk {d : Bs} {T : Nat} {H : List Int} {R : List Bs} {O : List Nat} (h : parseD d T = .ok (H, R, O)) (h2 : ¬ H.length < T) (h3 : (chk H).2 ≠ 0) : parseR d T = ([], [], O.getD (chk H).1 0, (chk H).2) := by
  unfold parseR; rw [h]; simp only []; rw [if_neg h2, if_pos h3]
theorem parseR_ok {d : Bs} {T : Nat} {H : List Int} {R : List Bs} {O : List Nat} (h : parseD d T = .ok (H, R, O)) (h2 : ¬ H.length < T) (h3 : (chk H).2 = 0) : parseR d T = (H, R, 0, 0) := by
  unfold parseR; rw [h]; simp only []; rw [if_neg h2, if_neg (by simpa using h3)]
theorem digs_ge {s : Bs} {e : Nat} (he : e ≤ s.length) (h1 : ∀ k (hk : k < s.length), k < e → dg s[k] = true) : e ≤ (digs s).length := by
  unfold digs
  induction s generalizing e with
  | nil => simp at he; omega
  | cons c t ih =>
    cases e with
    | zero => omega
    | succ e =>
      have hc := h1 0 (by simp) (by omega)
      simp at hc
      rw [List.takeWhile_cons, hc, if_pos rfl]
      have := ih (e := e) (by simpa using he) (fun k hk hke => h1 (k + 1) (by simpa using hk) (by omega))
      simp; exact this
theorem ln_stop {l : Bs} {j : Nat} (_hj : j ≤ l.length) (h1 : ∀ k (hk : k < l.length), k < j → l[k] ≠ 10) (h2 : j = l.length ∨ ∃ hk : j < l.length, l[j] = 10) : ln l = l.take j := by
  rcases h2 with h2 | ⟨hk, h2⟩
  · rw [ln_none, List.take_of_length_le (by omega)]
    intro k e
    obtain ⟨hk, e2⟩ := List.getElem?_eq_some_iff.1 e
    exact h1 k hk (by omega) e2
  · exact ln_some (by rw [List.getElem?_eq_getElem hk, h2]) fun k hk e => by
      obtain ⟨hk2, e2⟩ := List.getElem?_eq_some_iff.1 e
      exact h1 k hk2 hk e2
end Dep
/-- What the reference's parse hands back. -/
def Rparsd (p : List Int × List Bs × Nat × Nat) (w : World) (e : Ending) (w' : World) : Prop :=
  ∃ v1 v2, e = .returned (.tuple #[v1, v2, .int .i64 (p.2.2.1 : Nat), .int .i64 (p.2.2.2 : Nat)]) ∧ w'.ownsRow w.heap.size 3 1 v1 p.1.length (ints p.1) ∧ w'.ownsRow w.heap.size 9 1 v2 p.2.1.length (strs p.2.1) ∧ Below w.heap.size w w'
theorem rparsd_nil {p : List Int × List Bs × Nat × Nat} {a k : Nat} {w w' : World} (h : p = ([], [], a, k)) (hb : Below w.heap.size w w') {en : Ending} (he : en = .returned (.tuple #[.slice none 0 0, .slice none 0 0, .int .i64 (a : Nat), .int .i64 (k : Nat)])) : Rparsd p w en w' := by
  subst h; exact ⟨_, _, he, World.ownsRow_nil _ _ _ _, World.ownsRow_nil _ _ _ _, hb⟩
theorem results_rparse {w : World} (tmps : Array Value) :
    (results Try.f33 tmps).run Try.prog w = .ok (.tuple #[tmps.getD 4 undef, tmps.getD 5 undef, tmps.getD 6 undef, tmps.getD 7 undef]) w := by
  simp [results, Try.f33, go_sem]
attribute [local go_sem] byte_mk ByteArray.extract_mk

set_option maxRecDepth 100000 in
set_option maxHeartbeats 4000000 in
theorem refparse_any (d : Bs) (T : Nat) (hd2 : d.length ≤ 1048576) (hT : T ≤ 4096) (w : World) :
    Calls Try.prog 33 #[str d, .int .i64 (T : Nat)] w (Rparsd (parseR d T) w) := by
  obtain ⟨i0, hi0, hz0, hz1, hz2⟩ := info_parts info_int
  obtain ⟨j0, hj0, hy0, hy1, hy2⟩ := info_parts info_string
  go_enter Try.func33, Try.ntmps33
  go_wp2
  go_loopw [11, 8, 10, 9] (fun av hv rv ov wr => ∃ (f a : Nat) (H : List Int) (R : List Bs) (O : List Nat) (Ah Ar Ao : Option Addr) (ch cr co : Nat),
      av = .int .i64 a ∧ a ≤ d.length + 1 ∧ hv = .slice Ah H.length ch ∧ rv = .slice Ar R.length cr ∧ ov = .slice Ao O.length co ∧ H.length ≤ T ∧ Hid (R.length = H.length ∧ O.length = H.length ∧ ∀ o ∈ O, o ≤ d.length) ∧ Hid (d.length - a < f) ∧
      Hid (wr.ownsRow w.heap.size 3 1 (.slice Ah H.length ch) H.length (ints H)) ∧ Hid (wr.ownsRow w.heap.size 9 1 (.slice Ar R.length cr) R.length (strs R)) ∧ Hid (wr.ownsRow w.heap.size 3 1 (.slice Ao O.length co) O.length (nats O)) ∧
      Hid (∀ b, (Value.slice Ah H.length ch).ownBlock = some b → (Value.slice Ao O.length co).ownBlock ≠ some b) ∧ Below w.heap.size w wr ∧ Hid (parseD d T = parseF T f a (d.drop a) H R O)) (fun av _ _ _ _ => d.length + 1 - (intOf av).toNat)
  case atStart => exact ⟨d.length + 1, 0, [], [], [], none, none, none, 0, 0, 0, rfl, by omega, rfl, rfl, rfl, by simp, ⟨rfl, rfl, fun o ho => by simp at ho⟩, by show _ < _; omega, World.ownsRow_nil _ _ _ _, World.ownsRow_nil _ _ _ _, World.ownsRow_nil _ _ _ _, fun b hb => by simp [Value.ownBlock] at hb, Below.refl _ _, rfl⟩
  case round =>
    obtain ⟨f, a, H, R, O, Ah, Ar, Ao, ch, cr, co, rfl, ha, rfl, rfl, rfl, hHT, hlens, hf, ownH, ownR, ownO, hdis, hB, hpar⟩ := hrel
    obtain ⟨wo, rfl⟩ : ∃ wo : World, wo = wr := ⟨_, rfl⟩
    by_cases hal : a < d.length
    · obtain ⟨f, rfl⟩ : ∃ k, f = k + 1 := ⟨f - 1, by have := hf.out; omega⟩
      obtain ⟨rest, hrest⟩ : ∃ rest, d.drop a = rest := ⟨_, rfl⟩
      have hrl : rest.length = d.length - a := by rw [← hrest]; simp
      have hrne : Hid (rest ≠ []) := by intro e; rw [e] at hrl; simp at hrl; omega
      have hget : Hid (∀ k (hk : k < d.length) (hak : a ≤ k), rest[k - a]? = some d[k]) := fun k hk hak => by
        rw [← hrest, List.getElem?_drop, show a + (k - a) = k by omega, List.getElem?_eq_getElem hk]
      rw [hrest] at hpar
      have HRE := Lib.hid hrest
      have HRL := Lib.hid hrl
      clear hrest hrl
      go_wp2
      go_loop [12] (fun tv => ∃ j : Nat, a ≤ j ∧ j ≤ d.length ∧ tv = .int .i64 j ∧ Hid (∀ k (hk : k < d.length), a ≤ k → k < j → d[k] ≠ 10)) (fun tv => d.length - (intOf tv).toNat)
      case atStart => exact ⟨a, Nat.le_refl _, by omega, rfl, fun k hk h1 h2 => by omega⟩
      case round =>
        obtain ⟨j, haj, hjd, rfl, hno⟩ := hrel
        by_cases hjl : j < d.length
        · by_cases h10 : d[j] = 10
          · have e10 : ((d[j].toNat : Int) != 10) = false := by rw [h10]; rfl
            have HLN : Hid (ln rest = rest.take (j - a)) := by
              refine ln_stop (by rw [HRL.out]; omega) (fun k hk hkj => ?_) (.inr ⟨by rw [HRL.out]; omega, ?_⟩)
              · have := hget.out (k + a) (by rw [HRL.out] at hk; omega) (by omega)
                rw [show k + a - a = k by omega, List.getElem?_eq_getElem hk] at this
                rw [Option.some.inj this]
                exact hno.out (k + a) _ (by omega) (by omega)
              · have := hget.out j hjl haj
                rw [List.getElem?_eq_getElem (by rw [HRL.out]; omega)] at this
                rw [Option.some.inj this, h10]
            clear h10
            have HLL : Hid ((ln rest).length = j - a) := by show _ = _; rw [HLN.out, List.length_take, HRL.out]; omega
            have hgl : Hid (∀ k (hk : k < d.length), a ≤ k → k < j → (ln rest)[k - a]? = some d[k]) := fun k hk h1 h2 => by
              rw [HLN.out, List.getElem?_take, if_pos (by omega)]
              exact hget.out k hk h1
            have hnoj := hno
            clear hno
            by_cases hmany : H.length = T
            · have HF := Lib.hid (parseR_err (hpar.out.trans (parseF_many hrne.out hmany)))
              have hm1 : T ≤ H.length := by omega
              clear hmany
              go_wp2
              refine bodyPost_ret (results_rparse _) rfl ?_
              exact rparsd_nil (a := a) (k := 15) HF.out hB rfl
            · have HM := Lib.hid hmany
              have hm1 : ¬ T ≤ H.length := by omega
              clear hmany
              go_wp2
              go_loop [13, 14] (fun nv iv => ∃ i m : Nat, a ≤ i ∧ i ≤ j ∧ iv = .int .i64 i ∧ nv = .int .i64 m ∧ m ≤ 1099511627776 ∧ Hid (m = min (vl ((ln rest).take (i - a))) 1099511627776) ∧ Hid (∀ k (hk : k < (ln rest).length), k < i - a → dg (ln rest)[k] = true) ∧ Hid (a + 2 ≤ i → d[a] ≠ 48)) (fun _ iv => j - (intOf iv).toNat)
              case atStart => exact ⟨a, 0, Nat.le_refl _, by omega, rfl, rfl, by omega, by show _ = _; simp [vl], fun k hk h => by omega, fun h => by omega⟩
              case round =>
                obtain ⟨i, m, hai, hij, rfl, rfl, hm, hmv, hall, hz48⟩ := hrel
                by_cases hilt : i < j
                · have hid : i < d.length := by omega
                  have hsi : Hid (∃ hk : i - a < (ln rest).length, (ln rest)[i - a] = d[i]) := by
                    have := hgl.out i hid hai hilt
                    obtain ⟨h1, h2⟩ := List.getElem?_eq_some_iff.1 this
                    exact ⟨h1, h2⟩
                  have hstop : Hid (dg d[i] = false → digs (ln rest) = (ln rest).take (i - a)) := fun hd => by
                    obtain ⟨h1, h2⟩ := hsi.out
                    exact digs_stop (by omega) hall.out (.inr ⟨h1, by rw [h2]; exact hd⟩)
                  have hc8 := d[i].toNat_lt
                  by_cases hge : 48 ≤ (d[i].toNat : Int)
                  · by_cases hle : (d[i].toNat : Int) ≤ 57
                    · have hd1 : dg d[i] = true := by unfold dg; simp; omega
                      have HA : Hid (∀ k (hk : k < (ln rest).length), k < i - a + 1 → dg (ln rest)[k] = true) := fun k hk hki => by
                        by_cases e : k = i - a
                        · subst e; obtain ⟨h1, h2⟩ := hsi.out; rw [h2]; exact hd1
                        · exact hall.out k hk (by omega)
                      obtain ⟨dd, hd⟩ : ∃ dd : Nat, dd = d[i].toNat - 48 := ⟨_, rfl⟩
                      have hdi : (d[i].toNat : Int) - 48 = (dd : Int) := by omega
                      have hd9 : dd ≤ 9 := by omega
                      have HMM : Hid (min (10 * m + dd) 1099511627776 = min (vl ((ln rest).take (i - a + 1))) 1099511627776) := by
                        show _ = _
                        obtain ⟨h1, h2⟩ := hsi.out
                        rw [List.take_succ_eq_append_getElem h1, vl_snoc, h2, ← hd, hmv.out]
                        omega
                      have hsplit : (i = a + 1 ∧ d[a] = 48) ∨ (¬ i = a + 1 ∧ Hid (a + 2 ≤ i + 1 → d[a] ≠ 48)) ∨ (i = a + 1 ∧ d[a] ≠ 48) := by
                        by_cases h1 : i = a + 1
                        · by_cases h2 : d[a] = 48
                          · exact .inl ⟨h1, h2⟩
                          · exact .inr (.inr ⟨h1, h2⟩)
                        · refine .inr (.inl ⟨h1, fun h3 => hz48.out (by omega)⟩)
                      rcases hsplit with ⟨h1, h2⟩ | hsplit
                      · have e1 : ((i : Int) == (a : Int) + 1) = true := by rw [beq_iff_eq]; omega
                        have e2 : ((d[a].toNat : Int) == 48) = true := by rw [h2]; rfl
                        have HLT := Lib.hid (line_two (s := ln rest) (T := T) (by
                          have h5 := digs_ge (s := ln rest) (e := i - a + 1) (by have := HLL.out; omega) HA.out
                          omega) (by have := hgl.out a hal (Nat.le_refl _) (by omega); rw [Nat.sub_self] at this; rw [this, h2]))
                        have HI : Hid (a + 1 = i) := h1.symm
                        clear h1 h2 hd hd1 hdi
                        have HF := Lib.hid (parseR_err (hpar.out.trans (parseF_bad hrne.out HM.out (by rw [HLT.out]; simp))))
                        rw [HLT.out] at HF
                        dsimp only at HF
                        go_wp2
                        refine bodyPost_ret (results_rparse _) rfl ?_
                        exact rparsd_nil (a := i) (k := 3) (by rw [HF.out, HI.out]) hB rfl
                      · have HZ : Hid (a + 2 ≤ i + 1 → d[a] ≠ 48) := by
                          rcases hsplit with ⟨_, h⟩ | ⟨_, h⟩
                          · exact h.out
                          · exact fun _ => h
                        have e12 : ((i : Int) == (a : Int) + 1) = false ∨ (((i : Int) == (a : Int) + 1) = true ∧ ((d[a].toNat : Int) == 48) = false) := by
                          rcases hsplit with ⟨h1, _⟩ | ⟨h1, h2⟩
                          · left; rw [beq_eq_false_iff_ne]; omega
                          · right; exact ⟨by rw [beq_iff_eq]; omega, by rw [beq_eq_false_iff_ne]; intro h3; exact h2 (UInt8.toNat_inj.1 (by show _ = 48; omega))⟩
                        clear hsplit hd hd1 hc8
                        by_cases hov : (1099511627776 : Int) < 10 * (m : Int) + dd
                        · have HM2 : Hid (1099511627776 = min (vl ((ln rest).take (i - a + 1))) 1099511627776) := by show _ = _; rw [← HMM.out]; omega
                          rcases e12 with e1 | ⟨e1, e2⟩
                          all_goals
                            go_wp2
                            go_round
                            case rel => exact ⟨i + 1, 1099511627776, by omega, by omega, by go_num, (by first | rfl | (congr 1; omega)), by omega, by rw [show i + 1 - a = i - a + 1 by omega]; exact HM2, by rw [show i + 1 - a = i - a + 1 by omega]; exact HA, HZ⟩
                            case measure => simp [intOf]; omega
                        · have HM2 : Hid (10 * m + dd = min (vl ((ln rest).take (i - a + 1))) 1099511627776) := by show _ = _; rw [← HMM.out]; omega
                          rcases e12 with e1 | ⟨e1, e2⟩
                          all_goals
                            go_wp2
                            go_round
                            case rel => exact ⟨i + 1, 10 * m + dd, by omega, by omega, by go_num, by go_num, by omega, by rw [show i + 1 - a = i - a + 1 by omega]; exact HM2, by rw [show i + 1 - a = i - a + 1 by omega]; exact HA, HZ⟩
                            case measure => simp [intOf]; omega
                    · have HD := Lib.hid (hstop.out (by unfold dg; simp; omega))
                      have HDL : Hid ((digs (ln rest)).length = i - a) := by show _ = _; rw [HD.out, List.length_take]; have := HLL.out; omega
                      have HMV : Hid (m = min (vl (digs (ln rest))) 1099511627776) := by show _ = _; rw [HD.out]; exact hmv.out
                      have HN0 : Hid (¬ ((ln rest)[0]? = some 48 ∧ 1 < (digs (ln rest)).length)) := by
                        rintro ⟨h2, h3⟩
                        rw [HDL.out] at h3
                        have h4 := hgl.out a hal (Nat.le_refl _) (by omega)
                        rw [Nat.sub_self, h2] at h4
                        exact hz48.out (by omega) (Option.some.inj h4).symm
                      clear hmv hall
                      rcases Nat.lt_or_ge a i with h0 | h0
                      · have HNE : Hid ((digs (ln rest)).length ≠ 0) := by show _ ≠ _; rw [HDL.out]; omega
                        have hia : ((i : Int) == (a : Int)) = false := by rw [beq_eq_false_iff_ne]; omega
                        by_cases h9 : d[i] = 9
                        · have e9 : ((d[i].toNat : Int) != 9) = false := by rw [h9]; rfl
                          have H9 : Hid ((ln rest)[(digs (ln rest)).length]? = some 9) := by show _ = _; rw [HDL.out, hgl.out i hid (by omega) (by omega), h9]
                          clear h9
                          by_cases hTm : T < m
                          · have HLT := Lib.hid (line_big (s := ln rest) (T := T) HNE.out HN0.out H9.out (by have := HMV.out; omega))
                            have HF := Lib.hid (parseR_err (hpar.out.trans (parseF_bad hrne.out HM.out (by rw [HLT.out]; simp))))
                            rw [HLT.out] at HF
                            dsimp only at HF
                            go_wp2
                            refine bodyPost_ret (results_rparse _) rfl ?_
                            exact rparsd_nil (a := a) (k := 8) (by rw [HF.out]; rfl) hB rfl
                          · have HV : Hid (vl (digs (ln rest)) = m) := by show _ = _; have := HMV.out; omega
                            have HT2 : Hid (¬ T < vl (digs (ln rest))) := by have := HMV.out; show ¬ _; omega
                            obtain ⟨pr, hpr⟩ : ∃ pr, pr = (ln rest).drop (i - a + 1) := ⟨_, rfl⟩
                            have hs1 : ∀ W, (Instr.slice 9 (str d) (some (.int .i64 ((i : Int) + 1))) (some (.int .i64 (j : Int))) none).run Try.prog W = .ok (str pr) W := fun W => by
                              have e : pr = (d.drop (i + 1)).take (j - (i + 1)) := by
                                rw [hpr, HLN.out, ← HRE.out, List.drop_take, List.drop_drop]
                                congr 1
                                · omega
                                · congr 1; omega
                              rw [e]
                              exact str_mid 9 Try.underlying9 d (i + 1) j (by omega) hjd W
                            have hprl : pr.length ≤ 2097152 := by rw [hpr, List.length_drop]; have := HLL.out; omega
                            have HR : Hid ((ln rest).drop ((digs (ln rest)).length + 1) = pr) := by show _ = _; rw [HDL.out, hpr]
                            clear hpr
                            by_cases hre : pr = []
                            · subst hre
                              obtain ⟨pr, hpr⟩ : ∃ pr : Bs, pr = [] := ⟨_, rfl⟩
                              have HLO := Lib.hid (line_ok (s := ln rest) (T := T) HNE.out HN0.out H9.out HT2.out (by rw [HR.out]; simp))
                              rw [HR.out] at HLO
                              rw [← hpr] at HLO
                              subst hpr
                              have hHT2 : H.length < T := by omega
                              obtain ⟨hRl, hOl, hOd⟩ := hlens.out
                              have hRl2 : R.length ≤ 4096 := by omega
                              have hOl2 : O.length ≤ 4096 := by omega
                              have HOD := Lib.hid hOd
                              clear hRl hOl hOd
                              obtain ⟨ph, hph⟩ : ∃ ph : Int, (m : Int) - 1 = ph := ⟨_, rfl⟩
                              have Hp : Hid (lineP (ln rest) T = (ph, ([] : Bs), 0, 0)) := by show _ = _; rw [HLO.out, HV.out, hph]
                              have hstepE := Lib.hid (hpar.out.trans (parseF_step hrne.out HM.out (by rw [Hp.out])))
                              have hrd : Hid (rest.drop ((ln rest).length + 1) = d.drop (a + (ln rest).length + 1)) := by show _ = _; rw [← HRE.out, List.drop_drop]; rfl
                              have oH1 := ownH.out
                              have oR1 := ownR.out
                              have oO1 := ownO.out
                              have B1 := hB
                              have hzz1 := hB.size
                              have hoa := oH1.alloc (.cells #[.int .i64 ph] 3)
                              have OH1 := Lib.hid oH1
                              have OR1 := Lib.hid oR1
                              have OO1 := Lib.hid oO1
                              clear oH1 oR1 oO1 ownH ownR ownO hB
                              go_wp2_with (at_builtin; refine wpList_append_own_at _ rfl (.tmp 111) (.tmp 114) _ rfl w.heap.size 3 i0 _ 1 8 Try.underlying22 hi0 hz0 hz1 hz2 rfl (by decide) _ _ _ rfl hoa ⟨_, 0, none⟩ 1 1 [.int .i64 ph] rfl rfl ?a1x1 ?a2x1 ?a3x1 ?a4x1 ?a5x1 ?_)
                              try (case a1x1 => exact news_one (by simp))
                              case a2x1 => first | rfl | (intro u hu; simp only [List.mem_singleton] at hu; subst hu; rfl)
                              case a3x1 => simp [maxLen]; omega
                              case a4x1 => omega
                              try (case a5x1 => first | omega | (simp; omega))
                              intro v6 w6 own6 gr6 _ hob6
                              obtain ⟨A6, c6, rfl, -, -⟩ := own_slc own6
                              have OR6 := Lib.hid (own_grown OR1.out _ gr6 (own_ne OR1.out OH1.out (by decide)))
                              have OO6 := Lib.hid (own_grown OO1.out _ gr6 (dis_symm hdis.out))
                              have B6 := Below.push B1 _ gr6 (fun g hg => by have := (OH1.out.lt g hg).1; omega)
                              have DIS6 : Hid (∀ b, (Value.slice A6 (H.length + 1) c6).ownBlock = some b → (Value.slice Ao O.length co).ownBlock ≠ some b) := dis_push hdis.out (fun b hb => (OO1.out.lt b hb).2) hob6 (by simp)
                              have OH6 := Lib.hid own6
                              have hz6 := B6.size
                              clear own6 gr6 hob6 hoa B1
                              have hob := OR6.out.alloc (.cells #[str []] 9)
                              go_wp2_with (at_builtin; refine wpList_append_own_at _ rfl (.tmp 116) (.tmp 118) _ rfl w.heap.size 9 j0 _ 1 16 Try.underlying34 hj0 hy0 hy1 hy2 rfl (by decide) _ _ _ rfl hob ⟨_, 0, none⟩ 1 1 [str []] rfl rfl ?b1x2 ?b2x2 ?b3x2 ?b4x2 ?b5x2 ?_)
                              case b1x2 => exact news_one (by simp)
                              case b2x2 => first | rfl | (intro u hu; simp only [List.mem_singleton] at hu; subst hu; rfl)
                              case b3x2 => simp [maxLen]; omega
                              case b4x2 => omega
                              try (case b5x2 => first | omega | (simp; omega))
                              intro v7 w7 own7 gr7 _ hob7
                              obtain ⟨A7, c7, rfl, -, -⟩ := own_slc own7
                              have OH7 := Lib.hid (own_grown OH6.out _ gr7 (own_ne OH6.out OR6.out (by decide)))
                              have OO7 := Lib.hid (own_grown OO6.out _ gr7 (own_ne OO6.out OR6.out (by decide)))
                              have B7 := Below.push B6 _ gr7 (fun g hg => by have := (OR6.out.lt g hg).1; omega)
                              have OR7 := Lib.hid own7
                              have hz7 := B7.size
                              clear own7 gr7 hob7 hob B6
                              have hoc := OO7.out.alloc (.cells #[.int .i64 (a : Nat)] 3)
                              go_wp2_with (at_builtin; refine wpList_append_own_at _ rfl (.tmp 120) (.tmp 122) _ rfl w.heap.size 3 i0 _ 1 8 Try.underlying22 hi0 hz0 hz1 hz2 rfl (by decide) _ _ _ rfl hoc ⟨_, 0, none⟩ 1 1 [.int .i64 (a : Nat)] rfl rfl ?c1x3 ?c2x3 ?c3x3 ?c4x3 ?c5x3 ?_)
                              case c1x3 => exact news_one (by simp)
                              case c2x3 => first | rfl | (intro u hu; simp only [List.mem_singleton] at hu; subst hu; rfl)
                              case c3x3 => simp [maxLen]; omega
                              case c4x3 => omega
                              try (case c5x3 => first | omega | (simp; omega))
                              intro v8 w8 own8 gr8 _ hob8
                              obtain ⟨A8, c8, rfl, -, -⟩ := own_slc own8
                              have OH8 := Lib.hid (own_grown OH7.out _ gr8 DIS6.out)
                              have OR8 := Lib.hid (own_grown OR7.out _ gr8 (own_ne OR7.out OO7.out (by decide)))
                              have B8 := Below.push B7 _ gr8 (fun g hg => by have := (OO7.out.lt g hg).1; omega)
                              have DIS8 : Hid (∀ b, (Value.slice A6 (H.length + 1) c6).ownBlock = some b → (Value.slice A8 (O.length + 1) c8).ownBlock ≠ some b) := dis_symm (dis_push (dis_symm DIS6.out) (fun b hb => (OH7.out.lt b hb).2) hob8 (by simp))
                              have OO8 := Lib.hid own8
                              clear own8 gr8 hob8 hoc B7
                              go_wp2
                              go_roundw
                              case rel =>
                                refine ⟨f, a + (ln rest).length + 1, H ++ [ph], R ++ [[]], O ++ [a], A6, A7, A8, c6, c7, c8, by have := HLL.out; go_num, by have := HLL.out; omega, by simp, by simp, by simp, by simp; omega, ?_, ?_, ?_, ?_, ?_, ?_, B8, ?_⟩
                                · obtain ⟨h1, h2, _⟩ := hlens.out
                                  refine ⟨by simp [h1], by simp [h2], fun o ho => ?_⟩
                                  rcases List.mem_append.1 ho with h | h
                                  · exact HOD.out o h
                                  · simp at h; omega
                                · have := hf.out; show _ < _; omega
                                · have := OH8.out
                                  rw [show ints H ++ [Value.int .i64 ph] = ints (H ++ [ph]) by simp [ints]] at this
                                  exact Lib.hid (by simpa using this)
                                · have := OR8.out
                                  rw [← strs_snoc] at this
                                  exact Lib.hid (by simpa using this)
                                · have := OO8.out
                                  rw [show nats O ++ [Value.int .i64 (a : Nat)] = nats (O ++ [a]) by simp [nats]] at this
                                  exact Lib.hid (by simpa using this)
                                · have := DIS8.out
                                  exact Lib.hid (by simpa using this)
                                · show _ = _
                                  rw [hstepE.out, Hp.out, hrd.out]
                              case measure => simp [intOf]; omega
                            · have hrb3 : (pr == []) = false := by simpa using hre
                              go_wp2_with fail
                              refine (refValidName_any pr (by omega) _).mono ?_
                              rintro en w' ⟨rfl, rfl⟩
                              cases hok : Tagp.okName pr with
                              | false =>
                                have HLT := Lib.hid (line_name (s := ln rest) (T := T) HNE.out HN0.out H9.out HT2.out (by rw [HR.out]; exact ⟨hre, hok⟩))
                                rw [HDL.out] at HLT
                                clear hok hre
                                have HF := Lib.hid (parseR_err (hpar.out.trans (parseF_bad hrne.out HM.out (by rw [HLT.out]; simp))))
                                rw [HLT.out] at HF
                                dsimp only at HF
                                go_wp2
                                refine bodyPost_ret (results_rparse _) rfl ?_
                                exact rparsd_nil (a := i + 1) (k := 4) (by rw [HF.out, show a + (i - a + 1) = i + 1 by omega]) hB rfl
                              | true =>
                                have HLO := Lib.hid (line_ok (s := ln rest) (T := T) HNE.out HN0.out H9.out HT2.out (by rw [HR.out, hok]; simp))
                                rw [HR.out] at HLO
                                clear hok hre
                                have hHT2 : H.length < T := by omega
                                obtain ⟨hRl, hOl, hOd⟩ := hlens.out
                                have hRl2 : R.length ≤ 4096 := by omega
                                have hOl2 : O.length ≤ 4096 := by omega
                                have HOD := Lib.hid hOd
                                clear hRl hOl hOd
                                obtain ⟨ph, hph⟩ : ∃ ph : Int, (m : Int) - 1 = ph := ⟨_, rfl⟩
                                have Hp : Hid (lineP (ln rest) T = (ph, pr, 0, 0)) := by show _ = _; rw [HLO.out, HV.out, hph]
                                have hstepE := Lib.hid (hpar.out.trans (parseF_step hrne.out HM.out (by rw [Hp.out])))
                                have hrd : Hid (rest.drop ((ln rest).length + 1) = d.drop (a + (ln rest).length + 1)) := by show _ = _; rw [← HRE.out, List.drop_drop]; rfl
                                have oH1 := ownH.out
                                have oR1 := ownR.out
                                have oO1 := ownO.out
                                have B1 := hB
                                have hzz1 := hB.size
                                have hoa := oH1.alloc (.cells #[.int .i64 ph] 3)
                                have OH1 := Lib.hid oH1
                                have OR1 := Lib.hid oR1
                                have OO1 := Lib.hid oO1
                                clear oH1 oR1 oO1 ownH ownR ownO hB
                                go_wp2_with (at_builtin; refine wpList_append_own_at _ rfl (.tmp 111) (.tmp 114) _ rfl w.heap.size 3 i0 _ 1 8 Try.underlying22 hi0 hz0 hz1 hz2 rfl (by decide) _ _ _ rfl hoa ⟨_, 0, none⟩ 1 1 [.int .i64 ph] rfl rfl ?a1x4 ?a2x4 ?a3x4 ?a4x4 ?a5x4 ?_)
                                try (case a1x4 => exact news_one (by simp))
                                case a2x4 => first | rfl | (intro u hu; simp only [List.mem_singleton] at hu; subst hu; rfl)
                                case a3x4 => simp [maxLen]; omega
                                case a4x4 => omega
                                try (case a5x4 => first | omega | (simp; omega))
                                intro v6 w6 own6 gr6 _ hob6
                                obtain ⟨A6, c6, rfl, -, -⟩ := own_slc own6
                                have OR6 := Lib.hid (own_grown OR1.out _ gr6 (own_ne OR1.out OH1.out (by decide)))
                                have OO6 := Lib.hid (own_grown OO1.out _ gr6 (dis_symm hdis.out))
                                have B6 := Below.push B1 _ gr6 (fun g hg => by have := (OH1.out.lt g hg).1; omega)
                                have DIS6 : Hid (∀ b, (Value.slice A6 (H.length + 1) c6).ownBlock = some b → (Value.slice Ao O.length co).ownBlock ≠ some b) := dis_push hdis.out (fun b hb => (OO1.out.lt b hb).2) hob6 (by simp)
                                have OH6 := Lib.hid own6
                                have hz6 := B6.size
                                clear own6 gr6 hob6 hoa B1
                                have hob := OR6.out.alloc (.cells #[str pr] 9)
                                go_wp2_with (at_builtin; refine wpList_append_own_at _ rfl (.tmp 116) (.tmp 118) _ rfl w.heap.size 9 j0 _ 1 16 Try.underlying34 hj0 hy0 hy1 hy2 rfl (by decide) _ _ _ rfl hob ⟨_, 0, none⟩ 1 1 [str pr] rfl rfl ?b1x5 ?b2x5 ?b3x5 ?b4x5 ?b5x5 ?_)
                                case b1x5 => exact news_one (by simp)
                                case b2x5 => first | rfl | (intro u hu; simp only [List.mem_singleton] at hu; subst hu; rfl)
                                case b3x5 => simp [maxLen]; omega
                                case b4x5 => omega
                                try (case b5x5 => first | omega | (simp; omega))
                                intro v7 w7 own7 gr7 _ hob7
                                obtain ⟨A7, c7, rfl, -, -⟩ := own_slc own7
                                have OH7 := Lib.hid (own_grown OH6.out _ gr7 (own_ne OH6.out OR6.out (by decide)))
                                have OO7 := Lib.hid (own_grown OO6.out _ gr7 (own_ne OO6.out OR6.out (by decide)))
                                have B7 := Below.push B6 _ gr7 (fun g hg => by have := (OR6.out.lt g hg).1; omega)
                                have OR7 := Lib.hid own7
                                have hz7 := B7.size
                                clear own7 gr7 hob7 hob B6
                                have hoc := OO7.out.alloc (.cells #[.int .i64 (a : Nat)] 3)
                                go_wp2_with (at_builtin; refine wpList_append_own_at _ rfl (.tmp 120) (.tmp 122) _ rfl w.heap.size 3 i0 _ 1 8 Try.underlying22 hi0 hz0 hz1 hz2 rfl (by decide) _ _ _ rfl hoc ⟨_, 0, none⟩ 1 1 [.int .i64 (a : Nat)] rfl rfl ?c1x6 ?c2x6 ?c3x6 ?c4x6 ?c5x6 ?_)
                                case c1x6 => exact news_one (by simp)
                                case c2x6 => first | rfl | (intro u hu; simp only [List.mem_singleton] at hu; subst hu; rfl)
                                case c3x6 => simp [maxLen]; omega
                                case c4x6 => omega
                                try (case c5x6 => first | omega | (simp; omega))
                                intro v8 w8 own8 gr8 _ hob8
                                obtain ⟨A8, c8, rfl, -, -⟩ := own_slc own8
                                have OH8 := Lib.hid (own_grown OH7.out _ gr8 DIS6.out)
                                have OR8 := Lib.hid (own_grown OR7.out _ gr8 (own_ne OR7.out OO7.out (by decide)))
                                have B8 := Below.push B7 _ gr8 (fun g hg => by have := (OO7.out.lt g hg).1; omega)
                                have DIS8 : Hid (∀ b, (Value.slice A6 (H.length + 1) c6).ownBlock = some b → (Value.slice A8 (O.length + 1) c8).ownBlock ≠ some b) := dis_symm (dis_push (dis_symm DIS6.out) (fun b hb => (OH7.out.lt b hb).2) hob8 (by simp))
                                have OO8 := Lib.hid own8
                                clear own8 gr8 hob8 hoc B7
                                go_wp2
                                go_roundw
                                case rel =>
                                  refine ⟨f, a + (ln rest).length + 1, H ++ [ph], R ++ [pr], O ++ [a], A6, A7, A8, c6, c7, c8, by have := HLL.out; go_num, by have := HLL.out; omega, by simp, by simp, by simp, by simp; omega, ?_, ?_, ?_, ?_, ?_, ?_, B8, ?_⟩
                                  · obtain ⟨h1, h2, _⟩ := hlens.out
                                    refine ⟨by simp [h1], by simp [h2], fun o ho => ?_⟩
                                    rcases List.mem_append.1 ho with h | h
                                    · exact HOD.out o h
                                    · simp at h; omega
                                  · have := hf.out; show _ < _; omega
                                  · have := OH8.out
                                    rw [show ints H ++ [Value.int .i64 ph] = ints (H ++ [ph]) by simp [ints]] at this
                                    exact Lib.hid (by simpa using this)
                                  · have := OR8.out
                                    rw [← strs_snoc] at this
                                    exact Lib.hid (by simpa using this)
                                  · have := OO8.out
                                    rw [show nats O ++ [Value.int .i64 (a : Nat)] = nats (O ++ [a]) by simp [nats]] at this
                                    exact Lib.hid (by simpa using this)
                                  · have := DIS8.out
                                    exact Lib.hid (by simpa using this)
                                  · show _ = _
                                    rw [hstepE.out, Hp.out, hrd.out]
                                case measure => simp [intOf]; omega
                        · have e9 : ((d[i].toNat : Int) != 9) = true := by rw [bne_iff_ne]; intro h2; exact h9 (UInt8.toNat_inj.1 (by show _ = 9; omega))
                          have HLT := Lib.hid (line_tab (s := ln rest) (T := T) HNE.out HN0.out (by rw [HDL.out, hgl.out i hid (by omega) (by omega)]; simpa using h9))
                          rw [HDL.out] at HLT
                          clear h9
                          have HF := Lib.hid (parseR_err (hpar.out.trans (parseF_bad hrne.out HM.out (by rw [HLT.out]; simp))))
                          rw [HLT.out] at HF
                          dsimp only at HF
                          go_wp2
                          refine bodyPost_ret (results_rparse _) rfl ?_
                          exact rparsd_nil (a := i) (k := 3) (by rw [HF.out, show a + (i - a) = i by omega]) hB rfl
                      · obtain rfl : i = a := by omega
                        have hia : ((i : Int) == (i : Int)) = true := by simp
                        have HLT := Lib.hid (line_zero (s := ln rest) (T := T) (by rw [HD.out]; simp))
                        have HF := Lib.hid (parseR_err (hpar.out.trans (parseF_bad hrne.out HM.out (by rw [HLT.out]; simp))))
                        rw [HLT.out] at HF
                        dsimp only at HF
                        go_wp2
                        refine bodyPost_ret (results_rparse _) rfl ?_
                        exact rparsd_nil (a := i) (k := 3) (by rw [HF.out]; rfl) hB rfl
                  · have HD := Lib.hid (hstop.out (by unfold dg; simp; omega))
                    have HDL : Hid ((digs (ln rest)).length = i - a) := by show _ = _; rw [HD.out, List.length_take]; have := HLL.out; omega
                    have HMV : Hid (m = min (vl (digs (ln rest))) 1099511627776) := by show _ = _; rw [HD.out]; exact hmv.out
                    have HN0 : Hid (¬ ((ln rest)[0]? = some 48 ∧ 1 < (digs (ln rest)).length)) := by
                      rintro ⟨h2, h3⟩
                      rw [HDL.out] at h3
                      have h4 := hgl.out a hal (Nat.le_refl _) (by omega)
                      rw [Nat.sub_self, h2] at h4
                      exact hz48.out (by omega) (Option.some.inj h4).symm
                    clear hmv hall
                    rcases Nat.lt_or_ge a i with h0 | h0
                    · have HNE : Hid ((digs (ln rest)).length ≠ 0) := by show _ ≠ _; rw [HDL.out]; omega
                      have hia : ((i : Int) == (a : Int)) = false := by rw [beq_eq_false_iff_ne]; omega
                      by_cases h9 : d[i] = 9
                      · have e9 : ((d[i].toNat : Int) != 9) = false := by rw [h9]; rfl
                        have H9 : Hid ((ln rest)[(digs (ln rest)).length]? = some 9) := by show _ = _; rw [HDL.out, hgl.out i hid (by omega) (by omega), h9]
                        clear h9
                        by_cases hTm : T < m
                        · have HLT := Lib.hid (line_big (s := ln rest) (T := T) HNE.out HN0.out H9.out (by have := HMV.out; omega))
                          have HF := Lib.hid (parseR_err (hpar.out.trans (parseF_bad hrne.out HM.out (by rw [HLT.out]; simp))))
                          rw [HLT.out] at HF
                          dsimp only at HF
                          go_wp2
                          refine bodyPost_ret (results_rparse _) rfl ?_
                          exact rparsd_nil (a := a) (k := 8) (by rw [HF.out]; rfl) hB rfl
                        · have HV : Hid (vl (digs (ln rest)) = m) := by show _ = _; have := HMV.out; omega
                          have HT2 : Hid (¬ T < vl (digs (ln rest))) := by have := HMV.out; show ¬ _; omega
                          obtain ⟨pr, hpr⟩ : ∃ pr, pr = (ln rest).drop (i - a + 1) := ⟨_, rfl⟩
                          have hs1 : ∀ W, (Instr.slice 9 (str d) (some (.int .i64 ((i : Int) + 1))) (some (.int .i64 (j : Int))) none).run Try.prog W = .ok (str pr) W := fun W => by
                            have e : pr = (d.drop (i + 1)).take (j - (i + 1)) := by
                              rw [hpr, HLN.out, ← HRE.out, List.drop_take, List.drop_drop]
                              congr 1
                              · omega
                              · congr 1; omega
                            rw [e]
                            exact str_mid 9 Try.underlying9 d (i + 1) j (by omega) hjd W
                          have hprl : pr.length ≤ 2097152 := by rw [hpr, List.length_drop]; have := HLL.out; omega
                          have HR : Hid ((ln rest).drop ((digs (ln rest)).length + 1) = pr) := by show _ = _; rw [HDL.out, hpr]
                          clear hpr
                          by_cases hre : pr = []
                          · subst hre
                            obtain ⟨pr, hpr⟩ : ∃ pr : Bs, pr = [] := ⟨_, rfl⟩
                            have HLO := Lib.hid (line_ok (s := ln rest) (T := T) HNE.out HN0.out H9.out HT2.out (by rw [HR.out]; simp))
                            rw [HR.out] at HLO
                            rw [← hpr] at HLO
                            subst hpr
                            have hHT2 : H.length < T := by omega
                            obtain ⟨hRl, hOl, hOd⟩ := hlens.out
                            have hRl2 : R.length ≤ 4096 := by omega
                            have hOl2 : O.length ≤ 4096 := by omega
                            have HOD := Lib.hid hOd
                            clear hRl hOl hOd
                            obtain ⟨ph, hph⟩ : ∃ ph : Int, (m : Int) - 1 = ph := ⟨_, rfl⟩
                            have Hp : Hid (lineP (ln rest) T = (ph, ([] : Bs), 0, 0)) := by show _ = _; rw [HLO.out, HV.out, hph]
                            have hstepE := Lib.hid (hpar.out.trans (parseF_step hrne.out HM.out (by rw [Hp.out])))
                            have hrd : Hid (rest.drop ((ln rest).length + 1) = d.drop (a + (ln rest).length + 1)) := by show _ = _; rw [← HRE.out, List.drop_drop]; rfl
                            have oH1 := ownH.out
                            have oR1 := ownR.out
                            have oO1 := ownO.out
                            have B1 := hB
                            have hzz1 := hB.size
                            have hoa := oH1.alloc (.cells #[.int .i64 ph] 3)
                            have OH1 := Lib.hid oH1
                            have OR1 := Lib.hid oR1
                            have OO1 := Lib.hid oO1
                            clear oH1 oR1 oO1 ownH ownR ownO hB
                            go_wp2_with (at_builtin; refine wpList_append_own_at _ rfl (.tmp 111) (.tmp 114) _ rfl w.heap.size 3 i0 _ 1 8 Try.underlying22 hi0 hz0 hz1 hz2 rfl (by decide) _ _ _ rfl hoa ⟨_, 0, none⟩ 1 1 [.int .i64 ph] rfl rfl ?a1x7 ?a2x7 ?a3x7 ?a4x7 ?a5x7 ?_)
                            try (case a1x7 => exact news_one (by simp))
                            case a2x7 => first | rfl | (intro u hu; simp only [List.mem_singleton] at hu; subst hu; rfl)
                            case a3x7 => simp [maxLen]; omega
                            case a4x7 => omega
                            try (case a5x7 => first | omega | (simp; omega))
                            intro v6 w6 own6 gr6 _ hob6
                            obtain ⟨A6, c6, rfl, -, -⟩ := own_slc own6
                            have OR6 := Lib.hid (own_grown OR1.out _ gr6 (own_ne OR1.out OH1.out (by decide)))
                            have OO6 := Lib.hid (own_grown OO1.out _ gr6 (dis_symm hdis.out))
                            have B6 := Below.push B1 _ gr6 (fun g hg => by have := (OH1.out.lt g hg).1; omega)
                            have DIS6 : Hid (∀ b, (Value.slice A6 (H.length + 1) c6).ownBlock = some b → (Value.slice Ao O.length co).ownBlock ≠ some b) := dis_push hdis.out (fun b hb => (OO1.out.lt b hb).2) hob6 (by simp)
                            have OH6 := Lib.hid own6
                            have hz6 := B6.size
                            clear own6 gr6 hob6 hoa B1
                            have hob := OR6.out.alloc (.cells #[str []] 9)
                            go_wp2_with (at_builtin; refine wpList_append_own_at _ rfl (.tmp 116) (.tmp 118) _ rfl w.heap.size 9 j0 _ 1 16 Try.underlying34 hj0 hy0 hy1 hy2 rfl (by decide) _ _ _ rfl hob ⟨_, 0, none⟩ 1 1 [str []] rfl rfl ?b1x8 ?b2x8 ?b3x8 ?b4x8 ?b5x8 ?_)
                            case b1x8 => exact news_one (by simp)
                            case b2x8 => first | rfl | (intro u hu; simp only [List.mem_singleton] at hu; subst hu; rfl)
                            case b3x8 => simp [maxLen]; omega
                            case b4x8 => omega
                            try (case b5x8 => first | omega | (simp; omega))
                            intro v7 w7 own7 gr7 _ hob7
                            obtain ⟨A7, c7, rfl, -, -⟩ := own_slc own7
                            have OH7 := Lib.hid (own_grown OH6.out _ gr7 (own_ne OH6.out OR6.out (by decide)))
                            have OO7 := Lib.hid (own_grown OO6.out _ gr7 (own_ne OO6.out OR6.out (by decide)))
                            have B7 := Below.push B6 _ gr7 (fun g hg => by have := (OR6.out.lt g hg).1; omega)
                            have OR7 := Lib.hid own7
                            have hz7 := B7.size
                            clear own7 gr7 hob7 hob B6
                            have hoc := OO7.out.alloc (.cells #[.int .i64 (a : Nat)] 3)
                            go_wp2_with (at_builtin; refine wpList_append_own_at _ rfl (.tmp 120) (.tmp 122) _ rfl w.heap.size 3 i0 _ 1 8 Try.underlying22 hi0 hz0 hz1 hz2 rfl (by decide) _ _ _ rfl hoc ⟨_, 0, none⟩ 1 1 [.int .i64 (a : Nat)] rfl rfl ?c1x9 ?c2x9 ?c3x9 ?c4x9 ?c5x9 ?_)
                            case c1x9 => exact news_one (by simp)
                            case c2x9 => first | rfl | (intro u hu; simp only [List.mem_singleton] at hu; subst hu; rfl)
                            case c3x9 => simp [maxLen]; omega
                            case c4x9 => omega
                            try (case c5x9 => first | omega | (simp; omega))
                            intro v8 w8 own8 gr8 _ hob8
                            obtain ⟨A8, c8, rfl, -, -⟩ := own_slc own8
                            have OH8 := Lib.hid (own_grown OH7.out _ gr8 DIS6.out)
                            have OR8 := Lib.hid (own_grown OR7.out _ gr8 (own_ne OR7.out OO7.out (by decide)))
                            have B8 := Below.push B7 _ gr8 (fun g hg => by have := (OO7.out.lt g hg).1; omega)
                            have DIS8 : Hid (∀ b, (Value.slice A6 (H.length + 1) c6).ownBlock = some b → (Value.slice A8 (O.length + 1) c8).ownBlock ≠ some b) := dis_symm (dis_push (dis_symm DIS6.out) (fun b hb => (OH7.out.lt b hb).2) hob8 (by simp))
                            have OO8 := Lib.hid own8
                            clear own8 gr8 hob8 hoc B7
                            go_wp2
                            go_roundw
                            case rel =>
                              refine ⟨f, a + (ln rest).length + 1, H ++ [ph], R ++ [[]], O ++ [a], A6, A7, A8, c6, c7, c8, by have := HLL.out; go_num, by have := HLL.out; omega, by simp, by simp, by simp, by simp; omega, ?_, ?_, ?_, ?_, ?_, ?_, B8, ?_⟩
                              · obtain ⟨h1, h2, _⟩ := hlens.out
                                refine ⟨by simp [h1], by simp [h2], fun o ho => ?_⟩
                                rcases List.mem_append.1 ho with h | h
                                · exact HOD.out o h
                                · simp at h; omega
                              · have := hf.out; show _ < _; omega
                              · have := OH8.out
                                rw [show ints H ++ [Value.int .i64 ph] = ints (H ++ [ph]) by simp [ints]] at this
                                exact Lib.hid (by simpa using this)
                              · have := OR8.out
                                rw [← strs_snoc] at this
                                exact Lib.hid (by simpa using this)
                              · have := OO8.out
                                rw [show nats O ++ [Value.int .i64 (a : Nat)] = nats (O ++ [a]) by simp [nats]] at this
                                exact Lib.hid (by simpa using this)
                              · have := DIS8.out
                                exact Lib.hid (by simpa using this)
                              · show _ = _
                                rw [hstepE.out, Hp.out, hrd.out]
                            case measure => simp [intOf]; omega
                          · have hrb3 : (pr == []) = false := by simpa using hre
                            go_wp2_with fail
                            refine (refValidName_any pr (by omega) _).mono ?_
                            rintro en w' ⟨rfl, rfl⟩
                            cases hok : Tagp.okName pr with
                            | false =>
                              have HLT := Lib.hid (line_name (s := ln rest) (T := T) HNE.out HN0.out H9.out HT2.out (by rw [HR.out]; exact ⟨hre, hok⟩))
                              rw [HDL.out] at HLT
                              clear hok hre
                              have HF := Lib.hid (parseR_err (hpar.out.trans (parseF_bad hrne.out HM.out (by rw [HLT.out]; simp))))
                              rw [HLT.out] at HF
                              dsimp only at HF
                              go_wp2
                              refine bodyPost_ret (results_rparse _) rfl ?_
                              exact rparsd_nil (a := i + 1) (k := 4) (by rw [HF.out, show a + (i - a + 1) = i + 1 by omega]) hB rfl
                            | true =>
                              have HLO := Lib.hid (line_ok (s := ln rest) (T := T) HNE.out HN0.out H9.out HT2.out (by rw [HR.out, hok]; simp))
                              rw [HR.out] at HLO
                              clear hok hre
                              have hHT2 : H.length < T := by omega
                              obtain ⟨hRl, hOl, hOd⟩ := hlens.out
                              have hRl2 : R.length ≤ 4096 := by omega
                              have hOl2 : O.length ≤ 4096 := by omega
                              have HOD := Lib.hid hOd
                              clear hRl hOl hOd
                              obtain ⟨ph, hph⟩ : ∃ ph : Int, (m : Int) - 1 = ph := ⟨_, rfl⟩
                              have Hp : Hid (lineP (ln rest) T = (ph, pr, 0, 0)) := by show _ = _; rw [HLO.out, HV.out, hph]
                              have hstepE := Lib.hid (hpar.out.trans (parseF_step hrne.out HM.out (by rw [Hp.out])))
                              have hrd : Hid (rest.drop ((ln rest).length + 1) = d.drop (a + (ln rest).length + 1)) := by show _ = _; rw [← HRE.out, List.drop_drop]; rfl
                              have oH1 := ownH.out
                              have oR1 := ownR.out
                              have oO1 := ownO.out
                              have B1 := hB
                              have hzz1 := hB.size
                              have hoa := oH1.alloc (.cells #[.int .i64 ph] 3)
                              have OH1 := Lib.hid oH1
                              have OR1 := Lib.hid oR1
                              have OO1 := Lib.hid oO1
                              clear oH1 oR1 oO1 ownH ownR ownO hB
                              go_wp2_with (at_builtin; refine wpList_append_own_at _ rfl (.tmp 111) (.tmp 114) _ rfl w.heap.size 3 i0 _ 1 8 Try.underlying22 hi0 hz0 hz1 hz2 rfl (by decide) _ _ _ rfl hoa ⟨_, 0, none⟩ 1 1 [.int .i64 ph] rfl rfl ?a1x10 ?a2x10 ?a3x10 ?a4x10 ?a5x10 ?_)
                              try (case a1x10 => exact news_one (by simp))
                              case a2x10 => first | rfl | (intro u hu; simp only [List.mem_singleton] at hu; subst hu; rfl)
                              case a3x10 => simp [maxLen]; omega
                              case a4x10 => omega
                              try (case a5x10 => first | omega | (simp; omega))
                              intro v6 w6 own6 gr6 _ hob6
                              obtain ⟨A6, c6, rfl, -, -⟩ := own_slc own6
                              have OR6 := Lib.hid (own_grown OR1.out _ gr6 (own_ne OR1.out OH1.out (by decide)))
                              have OO6 := Lib.hid (own_grown OO1.out _ gr6 (dis_symm hdis.out))
                              have B6 := Below.push B1 _ gr6 (fun g hg => by have := (OH1.out.lt g hg).1; omega)
                              have DIS6 : Hid (∀ b, (Value.slice A6 (H.length + 1) c6).ownBlock = some b → (Value.slice Ao O.length co).ownBlock ≠ some b) := dis_push hdis.out (fun b hb => (OO1.out.lt b hb).2) hob6 (by simp)
                              have OH6 := Lib.hid own6
                              have hz6 := B6.size
                              clear own6 gr6 hob6 hoa B1
                              have hob := OR6.out.alloc (.cells #[str pr] 9)
                              go_wp2_with (at_builtin; refine wpList_append_own_at _ rfl (.tmp 116) (.tmp 118) _ rfl w.heap.size 9 j0 _ 1 16 Try.underlying34 hj0 hy0 hy1 hy2 rfl (by decide) _ _ _ rfl hob ⟨_, 0, none⟩ 1 1 [str pr] rfl rfl ?b1x11 ?b2x11 ?b3x11 ?b4x11 ?b5x11 ?_)
                              case b1x11 => exact news_one (by simp)
                              case b2x11 => first | rfl | (intro u hu; simp only [List.mem_singleton] at hu; subst hu; rfl)
                              case b3x11 => simp [maxLen]; omega
                              case b4x11 => omega
                              try (case b5x11 => first | omega | (simp; omega))
                              intro v7 w7 own7 gr7 _ hob7
                              obtain ⟨A7, c7, rfl, -, -⟩ := own_slc own7
                              have OH7 := Lib.hid (own_grown OH6.out _ gr7 (own_ne OH6.out OR6.out (by decide)))
                              have OO7 := Lib.hid (own_grown OO6.out _ gr7 (own_ne OO6.out OR6.out (by decide)))
                              have B7 := Below.push B6 _ gr7 (fun g hg => by have := (OR6.out.lt g hg).1; omega)
                              have OR7 := Lib.hid own7
                              have hz7 := B7.size
                              clear own7 gr7 hob7 hob B6
                              have hoc := OO7.out.alloc (.cells #[.int .i64 (a : Nat)] 3)
                              go_wp2_with (at_builtin; refine wpList_append_own_at _ rfl (.tmp 120) (.tmp 122) _ rfl w.heap.size 3 i0 _ 1 8 Try.underlying22 hi0 hz0 hz1 hz2 rfl (by decide) _ _ _ rfl hoc ⟨_, 0, none⟩ 1 1 [.int .i64 (a : Nat)] rfl rfl ?c1x12 ?c2x12 ?c3x12 ?c4x12 ?c5x12 ?_)
                              case c1x12 => exact news_one (by simp)
                              case c2x12 => first | rfl | (intro u hu; simp only [List.mem_singleton] at hu; subst hu; rfl)
                              case c3x12 => simp [maxLen]; omega
                              case c4x12 => omega
                              try (case c5x12 => first | omega | (simp; omega))
                              intro v8 w8 own8 gr8 _ hob8
                              obtain ⟨A8, c8, rfl, -, -⟩ := own_slc own8
                              have OH8 := Lib.hid (own_grown OH7.out _ gr8 DIS6.out)
                              have OR8 := Lib.hid (own_grown OR7.out _ gr8 (own_ne OR7.out OO7.out (by decide)))
                              have B8 := Below.push B7 _ gr8 (fun g hg => by have := (OO7.out.lt g hg).1; omega)
                              have DIS8 : Hid (∀ b, (Value.slice A6 (H.length + 1) c6).ownBlock = some b → (Value.slice A8 (O.length + 1) c8).ownBlock ≠ some b) := dis_symm (dis_push (dis_symm DIS6.out) (fun b hb => (OH7.out.lt b hb).2) hob8 (by simp))
                              have OO8 := Lib.hid own8
                              clear own8 gr8 hob8 hoc B7
                              go_wp2
                              go_roundw
                              case rel =>
                                refine ⟨f, a + (ln rest).length + 1, H ++ [ph], R ++ [pr], O ++ [a], A6, A7, A8, c6, c7, c8, by have := HLL.out; go_num, by have := HLL.out; omega, by simp, by simp, by simp, by simp; omega, ?_, ?_, ?_, ?_, ?_, ?_, B8, ?_⟩
                                · obtain ⟨h1, h2, _⟩ := hlens.out
                                  refine ⟨by simp [h1], by simp [h2], fun o ho => ?_⟩
                                  rcases List.mem_append.1 ho with h | h
                                  · exact HOD.out o h
                                  · simp at h; omega
                                · have := hf.out; show _ < _; omega
                                · have := OH8.out
                                  rw [show ints H ++ [Value.int .i64 ph] = ints (H ++ [ph]) by simp [ints]] at this
                                  exact Lib.hid (by simpa using this)
                                · have := OR8.out
                                  rw [← strs_snoc] at this
                                  exact Lib.hid (by simpa using this)
                                · have := OO8.out
                                  rw [show nats O ++ [Value.int .i64 (a : Nat)] = nats (O ++ [a]) by simp [nats]] at this
                                  exact Lib.hid (by simpa using this)
                                · have := DIS8.out
                                  exact Lib.hid (by simpa using this)
                                · show _ = _
                                  rw [hstepE.out, Hp.out, hrd.out]
                              case measure => simp [intOf]; omega
                      · have e9 : ((d[i].toNat : Int) != 9) = true := by rw [bne_iff_ne]; intro h2; exact h9 (UInt8.toNat_inj.1 (by show _ = 9; omega))
                        have HLT := Lib.hid (line_tab (s := ln rest) (T := T) HNE.out HN0.out (by rw [HDL.out, hgl.out i hid (by omega) (by omega)]; simpa using h9))
                        rw [HDL.out] at HLT
                        clear h9
                        have HF := Lib.hid (parseR_err (hpar.out.trans (parseF_bad hrne.out HM.out (by rw [HLT.out]; simp))))
                        rw [HLT.out] at HF
                        dsimp only at HF
                        go_wp2
                        refine bodyPost_ret (results_rparse _) rfl ?_
                        exact rparsd_nil (a := i) (k := 3) (by rw [HF.out, show a + (i - a) = i by omega]) hB rfl
                    · obtain rfl : i = a := by omega
                      have hia : ((i : Int) == (i : Int)) = true := by simp
                      have HLT := Lib.hid (line_zero (s := ln rest) (T := T) (by rw [HD.out]; simp))
                      have HF := Lib.hid (parseR_err (hpar.out.trans (parseF_bad hrne.out HM.out (by rw [HLT.out]; simp))))
                      rw [HLT.out] at HF
                      dsimp only at HF
                      go_wp2
                      refine bodyPost_ret (results_rparse _) rfl ?_
                      exact rparsd_nil (a := i) (k := 3) (by rw [HF.out]; rfl) hB rfl
                · have HD : Hid (digs (ln rest) = (ln rest).take (i - a)) := digs_stop (by have := HLL.out; omega) hall.out (.inl (by have := HLL.out; omega))
                  have HDL : Hid ((digs (ln rest)).length = i - a) := by show _ = _; rw [HD.out, List.length_take]; have := HLL.out; omega
                  have HMV : Hid (m = min (vl (digs (ln rest))) 1099511627776) := by show _ = _; rw [HD.out]; exact hmv.out
                  have HN0 : Hid (¬ ((ln rest)[0]? = some 48 ∧ 1 < (digs (ln rest)).length)) := by
                    rintro ⟨h2, h3⟩
                    rw [HDL.out] at h3
                    have h4 := hgl.out a hal (Nat.le_refl _) (by omega)
                    rw [Nat.sub_self, h2] at h4
                    exact hz48.out (by omega) (Option.some.inj h4).symm
                  clear hmv hall
                  rcases Nat.lt_or_ge a i with h0 | h0
                  · have HNE : Hid ((digs (ln rest)).length ≠ 0) := by show _ ≠ _; rw [HDL.out]; omega
                    have hia : ((i : Int) == (a : Int)) = false := by rw [beq_eq_false_iff_ne]; omega
                    have HLT := Lib.hid (line_tab (s := ln rest) (T := T) HNE.out HN0.out (by rw [HDL.out, List.getElem?_eq_none (by have := HLL.out; omega)]; simp))
                    rw [HDL.out] at HLT
                    have HF := Lib.hid (parseR_err (hpar.out.trans (parseF_bad hrne.out HM.out (by rw [HLT.out]; simp))))
                    rw [HLT.out] at HF
                    dsimp only at HF
                    go_wp2
                    refine bodyPost_ret (results_rparse _) rfl ?_
                    exact rparsd_nil (a := i) (k := 3) (by rw [HF.out, show a + (i - a) = i by omega]) hB rfl
                  · obtain rfl : i = a := by omega
                    have hia : ((i : Int) == (i : Int)) = true := by simp
                    have HLT := Lib.hid (line_zero (s := ln rest) (T := T) (by rw [HD.out]; simp))
                    have HF := Lib.hid (parseR_err (hpar.out.trans (parseF_bad hrne.out HM.out (by rw [HLT.out]; simp))))
                    rw [HLT.out] at HF
                    dsimp only at HF
                    go_wp2
                    refine bodyPost_ret (results_rparse _) rfl ?_
                    exact rparsd_nil (a := i) (k := 3) (by rw [HF.out]; rfl) hB rfl
          · have e10 : ((d[j].toNat : Int) != 10) = true := by rw [bne_iff_ne]; intro h2; exact h10 (UInt8.toNat_inj.1 (by show _ = 10; omega))
            have HNO : Hid (∀ k (hk : k < d.length), a ≤ k → k < j + 1 → d[k] ≠ 10) := fun k hk h1 h2 => by
              by_cases e : k = j
              · subst e; exact h10
              · exact hno.out k hk h1 (by omega)
            clear h10
            go_wp2
            go_round
            case rel => exact ⟨j + 1, by omega, by omega, by go_num, HNO⟩
            case measure => simp [intOf]; omega
        · have HLN : Hid (ln rest = rest.take (j - a)) := by
            refine ln_stop (by rw [HRL.out]; omega) (fun k hk hkj => ?_) (.inl (by rw [HRL.out]; omega))
            have := hget.out (k + a) (by rw [HRL.out] at hk; omega) (by omega)
            rw [show k + a - a = k by omega, List.getElem?_eq_getElem hk] at this
            rw [Option.some.inj this]
            exact hno.out (k + a) _ (by omega) (by omega)
          have HLL : Hid ((ln rest).length = j - a) := by show _ = _; rw [HLN.out, List.length_take, HRL.out]; omega
          have hgl : Hid (∀ k (hk : k < d.length), a ≤ k → k < j → (ln rest)[k - a]? = some d[k]) := fun k hk h1 h2 => by
            rw [HLN.out, List.getElem?_take, if_pos (by omega)]
            exact hget.out k hk h1
          have hnoj := hno
          clear hno
          by_cases hmany : H.length = T
          · have HF := Lib.hid (parseR_err (hpar.out.trans (parseF_many hrne.out hmany)))
            have hm1 : T ≤ H.length := by omega
            clear hmany
            go_wp2
            refine bodyPost_ret (results_rparse _) rfl ?_
            exact rparsd_nil (a := a) (k := 15) HF.out hB rfl
          · have HM := Lib.hid hmany
            have hm1 : ¬ T ≤ H.length := by omega
            clear hmany
            go_wp2
            go_loop [13, 14] (fun nv iv => ∃ i m : Nat, a ≤ i ∧ i ≤ j ∧ iv = .int .i64 i ∧ nv = .int .i64 m ∧ m ≤ 1099511627776 ∧ Hid (m = min (vl ((ln rest).take (i - a))) 1099511627776) ∧ Hid (∀ k (hk : k < (ln rest).length), k < i - a → dg (ln rest)[k] = true) ∧ Hid (a + 2 ≤ i → d[a] ≠ 48)) (fun _ iv => j - (intOf iv).toNat)
            case atStart => exact ⟨a, 0, Nat.le_refl _, by omega, rfl, rfl, by omega, by show _ = _; simp [vl], fun k hk h => by omega, fun h => by omega⟩
            case round =>
              obtain ⟨i, m, hai, hij, rfl, rfl, hm, hmv, hall, hz48⟩ := hrel
              by_cases hilt : i < j
              · have hid : i < d.length := by omega
                have hsi : Hid (∃ hk : i - a < (ln rest).length, (ln rest)[i - a] = d[i]) := by
                  have := hgl.out i hid hai hilt
                  obtain ⟨h1, h2⟩ := List.getElem?_eq_some_iff.1 this
                  exact ⟨h1, h2⟩
                have hstop : Hid (dg d[i] = false → digs (ln rest) = (ln rest).take (i - a)) := fun hd => by
                  obtain ⟨h1, h2⟩ := hsi.out
                  exact digs_stop (by omega) hall.out (.inr ⟨h1, by rw [h2]; exact hd⟩)
                have hc8 := d[i].toNat_lt
                by_cases hge : 48 ≤ (d[i].toNat : Int)
                · by_cases hle : (d[i].toNat : Int) ≤ 57
                  · have hd1 : dg d[i] = true := by unfold dg; simp; omega
                    have HA : Hid (∀ k (hk : k < (ln rest).length), k < i - a + 1 → dg (ln rest)[k] = true) := fun k hk hki => by
                      by_cases e : k = i - a
                      · subst e; obtain ⟨h1, h2⟩ := hsi.out; rw [h2]; exact hd1
                      · exact hall.out k hk (by omega)
                    obtain ⟨dd, hd⟩ : ∃ dd : Nat, dd = d[i].toNat - 48 := ⟨_, rfl⟩
                    have hdi : (d[i].toNat : Int) - 48 = (dd : Int) := by omega
                    have hd9 : dd ≤ 9 := by omega
                    have HMM : Hid (min (10 * m + dd) 1099511627776 = min (vl ((ln rest).take (i - a + 1))) 1099511627776) := by
                      show _ = _
                      obtain ⟨h1, h2⟩ := hsi.out
                      rw [List.take_succ_eq_append_getElem h1, vl_snoc, h2, ← hd, hmv.out]
                      omega
                    have hsplit : (i = a + 1 ∧ d[a] = 48) ∨ (¬ i = a + 1 ∧ Hid (a + 2 ≤ i + 1 → d[a] ≠ 48)) ∨ (i = a + 1 ∧ d[a] ≠ 48) := by
                      by_cases h1 : i = a + 1
                      · by_cases h2 : d[a] = 48
                        · exact .inl ⟨h1, h2⟩
                        · exact .inr (.inr ⟨h1, h2⟩)
                      · refine .inr (.inl ⟨h1, fun h3 => hz48.out (by omega)⟩)
                    rcases hsplit with ⟨h1, h2⟩ | hsplit
                    · have e1 : ((i : Int) == (a : Int) + 1) = true := by rw [beq_iff_eq]; omega
                      have e2 : ((d[a].toNat : Int) == 48) = true := by rw [h2]; rfl
                      have HLT := Lib.hid (line_two (s := ln rest) (T := T) (by
                        have h5 := digs_ge (s := ln rest) (e := i - a + 1) (by have := HLL.out; omega) HA.out
                        omega) (by have := hgl.out a hal (Nat.le_refl _) (by omega); rw [Nat.sub_self] at this; rw [this, h2]))
                      have HI : Hid (a + 1 = i) := h1.symm
                      clear h1 h2 hd hd1 hdi
                      have HF := Lib.hid (parseR_err (hpar.out.trans (parseF_bad hrne.out HM.out (by rw [HLT.out]; simp))))
                      rw [HLT.out] at HF
                      dsimp only at HF
                      go_wp2
                      refine bodyPost_ret (results_rparse _) rfl ?_
                      exact rparsd_nil (a := i) (k := 3) (by rw [HF.out, HI.out]) hB rfl
                    · have HZ : Hid (a + 2 ≤ i + 1 → d[a] ≠ 48) := by
                        rcases hsplit with ⟨_, h⟩ | ⟨_, h⟩
                        · exact h.out
                        · exact fun _ => h
                      have e12 : ((i : Int) == (a : Int) + 1) = false ∨ (((i : Int) == (a : Int) + 1) = true ∧ ((d[a].toNat : Int) == 48) = false) := by
                        rcases hsplit with ⟨h1, _⟩ | ⟨h1, h2⟩
                        · left; rw [beq_eq_false_iff_ne]; omega
                        · right; exact ⟨by rw [beq_iff_eq]; omega, by rw [beq_eq_false_iff_ne]; intro h3; exact h2 (UInt8.toNat_inj.1 (by show _ = 48; omega))⟩
                      clear hsplit hd hd1 hc8
                      by_cases hov : (1099511627776 : Int) < 10 * (m : Int) + dd
                      · have HM2 : Hid (1099511627776 = min (vl ((ln rest).take (i - a + 1))) 1099511627776) := by show _ = _; rw [← HMM.out]; omega
                        rcases e12 with e1 | ⟨e1, e2⟩
                        all_goals
                          go_wp2
                          go_round
                          case rel => exact ⟨i + 1, 1099511627776, by omega, by omega, by go_num, (by first | rfl | (congr 1; omega)), by omega, by rw [show i + 1 - a = i - a + 1 by omega]; exact HM2, by rw [show i + 1 - a = i - a + 1 by omega]; exact HA, HZ⟩
                          case measure => simp [intOf]; omega
                      · have HM2 : Hid (10 * m + dd = min (vl ((ln rest).take (i - a + 1))) 1099511627776) := by show _ = _; rw [← HMM.out]; omega
                        rcases e12 with e1 | ⟨e1, e2⟩
                        all_goals
                          go_wp2
                          go_round
                          case rel => exact ⟨i + 1, 10 * m + dd, by omega, by omega, by go_num, by go_num, by omega, by rw [show i + 1 - a = i - a + 1 by omega]; exact HM2, by rw [show i + 1 - a = i - a + 1 by omega]; exact HA, HZ⟩
                          case measure => simp [intOf]; omega
                  · have HD := Lib.hid (hstop.out (by unfold dg; simp; omega))
                    have HDL : Hid ((digs (ln rest)).length = i - a) := by show _ = _; rw [HD.out, List.length_take]; have := HLL.out; omega
                    have HMV : Hid (m = min (vl (digs (ln rest))) 1099511627776) := by show _ = _; rw [HD.out]; exact hmv.out
                    have HN0 : Hid (¬ ((ln rest)[0]? = some 48 ∧ 1 < (digs (ln rest)).length)) := by
                      rintro ⟨h2, h3⟩
                      rw [HDL.out] at h3
                      have h4 := hgl.out a hal (Nat.le_refl _) (by omega)
                      rw [Nat.sub_self, h2] at h4
                      exact hz48.out (by omega) (Option.some.inj h4).symm
                    clear hmv hall
                    rcases Nat.lt_or_ge a i with h0 | h0
                    · have HNE : Hid ((digs (ln rest)).length ≠ 0) := by show _ ≠ _; rw [HDL.out]; omega
                      have hia : ((i : Int) == (a : Int)) = false := by rw [beq_eq_false_iff_ne]; omega
                      by_cases h9 : d[i] = 9
                      · have e9 : ((d[i].toNat : Int) != 9) = false := by rw [h9]; rfl
                        have H9 : Hid ((ln rest)[(digs (ln rest)).length]? = some 9) := by show _ = _; rw [HDL.out, hgl.out i hid (by omega) (by omega), h9]
                        clear h9
                        by_cases hTm : T < m
                        · have HLT := Lib.hid (line_big (s := ln rest) (T := T) HNE.out HN0.out H9.out (by have := HMV.out; omega))
                          have HF := Lib.hid (parseR_err (hpar.out.trans (parseF_bad hrne.out HM.out (by rw [HLT.out]; simp))))
                          rw [HLT.out] at HF
                          dsimp only at HF
                          go_wp2
                          refine bodyPost_ret (results_rparse _) rfl ?_
                          exact rparsd_nil (a := a) (k := 8) (by rw [HF.out]; rfl) hB rfl
                        · have HV : Hid (vl (digs (ln rest)) = m) := by show _ = _; have := HMV.out; omega
                          have HT2 : Hid (¬ T < vl (digs (ln rest))) := by have := HMV.out; show ¬ _; omega
                          obtain ⟨pr, hpr⟩ : ∃ pr, pr = (ln rest).drop (i - a + 1) := ⟨_, rfl⟩
                          have hs1 : ∀ W, (Instr.slice 9 (str d) (some (.int .i64 ((i : Int) + 1))) (some (.int .i64 (j : Int))) none).run Try.prog W = .ok (str pr) W := fun W => by
                            have e : pr = (d.drop (i + 1)).take (j - (i + 1)) := by
                              rw [hpr, HLN.out, ← HRE.out, List.drop_take, List.drop_drop]
                              congr 1
                              · omega
                              · congr 1; omega
                            rw [e]
                            exact str_mid 9 Try.underlying9 d (i + 1) j (by omega) hjd W
                          have hprl : pr.length ≤ 2097152 := by rw [hpr, List.length_drop]; have := HLL.out; omega
                          have HR : Hid ((ln rest).drop ((digs (ln rest)).length + 1) = pr) := by show _ = _; rw [HDL.out, hpr]
                          clear hpr
                          by_cases hre : pr = []
                          · subst hre
                            obtain ⟨pr, hpr⟩ : ∃ pr : Bs, pr = [] := ⟨_, rfl⟩
                            have HLO := Lib.hid (line_ok (s := ln rest) (T := T) HNE.out HN0.out H9.out HT2.out (by rw [HR.out]; simp))
                            rw [HR.out] at HLO
                            rw [← hpr] at HLO
                            subst hpr
                            have hHT2 : H.length < T := by omega
                            obtain ⟨hRl, hOl, hOd⟩ := hlens.out
                            have hRl2 : R.length ≤ 4096 := by omega
                            have hOl2 : O.length ≤ 4096 := by omega
                            have HOD := Lib.hid hOd
                            clear hRl hOl hOd
                            obtain ⟨ph, hph⟩ : ∃ ph : Int, (m : Int) - 1 = ph := ⟨_, rfl⟩
                            have Hp : Hid (lineP (ln rest) T = (ph, ([] : Bs), 0, 0)) := by show _ = _; rw [HLO.out, HV.out, hph]
                            have hstepE := Lib.hid (hpar.out.trans (parseF_step hrne.out HM.out (by rw [Hp.out])))
                            have hrd : Hid (rest.drop ((ln rest).length + 1) = d.drop (a + (ln rest).length + 1)) := by show _ = _; rw [← HRE.out, List.drop_drop]; rfl
                            have oH1 := ownH.out
                            have oR1 := ownR.out
                            have oO1 := ownO.out
                            have B1 := hB
                            have hzz1 := hB.size
                            have hoa := oH1.alloc (.cells #[.int .i64 ph] 3)
                            have OH1 := Lib.hid oH1
                            have OR1 := Lib.hid oR1
                            have OO1 := Lib.hid oO1
                            clear oH1 oR1 oO1 ownH ownR ownO hB
                            go_wp2_with (at_builtin; refine wpList_append_own_at _ rfl (.tmp 111) (.tmp 114) _ rfl w.heap.size 3 i0 _ 1 8 Try.underlying22 hi0 hz0 hz1 hz2 rfl (by decide) _ _ _ rfl hoa ⟨_, 0, none⟩ 1 1 [.int .i64 ph] rfl rfl ?a1x13 ?a2x13 ?a3x13 ?a4x13 ?a5x13 ?_)
                            try (case a1x13 => exact news_one (by simp))
                            case a2x13 => first | rfl | (intro u hu; simp only [List.mem_singleton] at hu; subst hu; rfl)
                            case a3x13 => simp [maxLen]; omega
                            case a4x13 => omega
                            try (case a5x13 => first | omega | (simp; omega))
                            intro v6 w6 own6 gr6 _ hob6
                            obtain ⟨A6, c6, rfl, -, -⟩ := own_slc own6
                            have OR6 := Lib.hid (own_grown OR1.out _ gr6 (own_ne OR1.out OH1.out (by decide)))
                            have OO6 := Lib.hid (own_grown OO1.out _ gr6 (dis_symm hdis.out))
                            have B6 := Below.push B1 _ gr6 (fun g hg => by have := (OH1.out.lt g hg).1; omega)
                            have DIS6 : Hid (∀ b, (Value.slice A6 (H.length + 1) c6).ownBlock = some b → (Value.slice Ao O.length co).ownBlock ≠ some b) := dis_push hdis.out (fun b hb => (OO1.out.lt b hb).2) hob6 (by simp)
                            have OH6 := Lib.hid own6
                            have hz6 := B6.size
                            clear own6 gr6 hob6 hoa B1
                            have hob := OR6.out.alloc (.cells #[str []] 9)
                            go_wp2_with (at_builtin; refine wpList_append_own_at _ rfl (.tmp 116) (.tmp 118) _ rfl w.heap.size 9 j0 _ 1 16 Try.underlying34 hj0 hy0 hy1 hy2 rfl (by decide) _ _ _ rfl hob ⟨_, 0, none⟩ 1 1 [str []] rfl rfl ?b1x14 ?b2x14 ?b3x14 ?b4x14 ?b5x14 ?_)
                            case b1x14 => exact news_one (by simp)
                            case b2x14 => first | rfl | (intro u hu; simp only [List.mem_singleton] at hu; subst hu; rfl)
                            case b3x14 => simp [maxLen]; omega
                            case b4x14 => omega
                            try (case b5x14 => first | omega | (simp; omega))
                            intro v7 w7 own7 gr7 _ hob7
                            obtain ⟨A7, c7, rfl, -, -⟩ := own_slc own7
                            have OH7 := Lib.hid (own_grown OH6.out _ gr7 (own_ne OH6.out OR6.out (by decide)))
                            have OO7 := Lib.hid (own_grown OO6.out _ gr7 (own_ne OO6.out OR6.out (by decide)))
                            have B7 := Below.push B6 _ gr7 (fun g hg => by have := (OR6.out.lt g hg).1; omega)
                            have OR7 := Lib.hid own7
                            have hz7 := B7.size
                            clear own7 gr7 hob7 hob B6
                            have hoc := OO7.out.alloc (.cells #[.int .i64 (a : Nat)] 3)
                            go_wp2_with (at_builtin; refine wpList_append_own_at _ rfl (.tmp 120) (.tmp 122) _ rfl w.heap.size 3 i0 _ 1 8 Try.underlying22 hi0 hz0 hz1 hz2 rfl (by decide) _ _ _ rfl hoc ⟨_, 0, none⟩ 1 1 [.int .i64 (a : Nat)] rfl rfl ?c1x15 ?c2x15 ?c3x15 ?c4x15 ?c5x15 ?_)
                            case c1x15 => exact news_one (by simp)
                            case c2x15 => first | rfl | (intro u hu; simp only [List.mem_singleton] at hu; subst hu; rfl)
                            case c3x15 => simp [maxLen]; omega
                            case c4x15 => omega
                            try (case c5x15 => first | omega | (simp; omega))
                            intro v8 w8 own8 gr8 _ hob8
                            obtain ⟨A8, c8, rfl, -, -⟩ := own_slc own8
                            have OH8 := Lib.hid (own_grown OH7.out _ gr8 DIS6.out)
                            have OR8 := Lib.hid (own_grown OR7.out _ gr8 (own_ne OR7.out OO7.out (by decide)))
                            have B8 := Below.push B7 _ gr8 (fun g hg => by have := (OO7.out.lt g hg).1; omega)
                            have DIS8 : Hid (∀ b, (Value.slice A6 (H.length + 1) c6).ownBlock = some b → (Value.slice A8 (O.length + 1) c8).ownBlock ≠ some b) := dis_symm (dis_push (dis_symm DIS6.out) (fun b hb => (OH7.out.lt b hb).2) hob8 (by simp))
                            have OO8 := Lib.hid own8
                            clear own8 gr8 hob8 hoc B7
                            go_wp2
                            go_roundw
                            case rel =>
                              refine ⟨f, a + (ln rest).length + 1, H ++ [ph], R ++ [[]], O ++ [a], A6, A7, A8, c6, c7, c8, by have := HLL.out; go_num, by have := HLL.out; omega, by simp, by simp, by simp, by simp; omega, ?_, ?_, ?_, ?_, ?_, ?_, B8, ?_⟩
                              · obtain ⟨h1, h2, _⟩ := hlens.out
                                refine ⟨by simp [h1], by simp [h2], fun o ho => ?_⟩
                                rcases List.mem_append.1 ho with h | h
                                · exact HOD.out o h
                                · simp at h; omega
                              · have := hf.out; show _ < _; omega
                              · have := OH8.out
                                rw [show ints H ++ [Value.int .i64 ph] = ints (H ++ [ph]) by simp [ints]] at this
                                exact Lib.hid (by simpa using this)
                              · have := OR8.out
                                rw [← strs_snoc] at this
                                exact Lib.hid (by simpa using this)
                              · have := OO8.out
                                rw [show nats O ++ [Value.int .i64 (a : Nat)] = nats (O ++ [a]) by simp [nats]] at this
                                exact Lib.hid (by simpa using this)
                              · have := DIS8.out
                                exact Lib.hid (by simpa using this)
                              · show _ = _
                                rw [hstepE.out, Hp.out, hrd.out]
                            case measure => simp [intOf]; omega
                          · have hrb3 : (pr == []) = false := by simpa using hre
                            go_wp2_with fail
                            refine (refValidName_any pr (by omega) _).mono ?_
                            rintro en w' ⟨rfl, rfl⟩
                            cases hok : Tagp.okName pr with
                            | false =>
                              have HLT := Lib.hid (line_name (s := ln rest) (T := T) HNE.out HN0.out H9.out HT2.out (by rw [HR.out]; exact ⟨hre, hok⟩))
                              rw [HDL.out] at HLT
                              clear hok hre
                              have HF := Lib.hid (parseR_err (hpar.out.trans (parseF_bad hrne.out HM.out (by rw [HLT.out]; simp))))
                              rw [HLT.out] at HF
                              dsimp only at HF
                              go_wp2
                              refine bodyPost_ret (results_rparse _) rfl ?_
                              exact rparsd_nil (a := i + 1) (k := 4) (by rw [HF.out, show a + (i - a + 1) = i + 1 by omega]) hB rfl
                            | true =>
                              have HLO := Lib.hid (line_ok (s := ln rest) (T := T) HNE.out HN0.out H9.out HT2.out (by rw [HR.out, hok]; simp))
                              rw [HR.out] at HLO
                              clear hok hre
                              have hHT2 : H.length < T := by omega
                              obtain ⟨hRl, hOl, hOd⟩ := hlens.out
                              have hRl2 : R.length ≤ 4096 := by omega
                              have hOl2 : O.length ≤ 4096 := by omega
                              have HOD := Lib.hid hOd
                              clear hRl hOl hOd
                              obtain ⟨ph, hph⟩ : ∃ ph : Int, (m : Int) - 1 = ph := ⟨_, rfl⟩
                              have Hp : Hid (lineP (ln rest) T = (ph, pr, 0, 0)) := by show _ = _; rw [HLO.out, HV.out, hph]
                              have hstepE := Lib.hid (hpar.out.trans (parseF_step hrne.out HM.out (by rw [Hp.out])))
                              have hrd : Hid (rest.drop ((ln rest).length + 1) = d.drop (a + (ln rest).length + 1)) := by show _ = _; rw [← HRE.out, List.drop_drop]; rfl
                              have oH1 := ownH.out
                              have oR1 := ownR.out
                              have oO1 := ownO.out
                              have B1 := hB
                              have hzz1 := hB.size
                              have hoa := oH1.alloc (.cells #[.int .i64 ph] 3)
                              have OH1 := Lib.hid oH1
                              have OR1 := Lib.hid oR1
                              have OO1 := Lib.hid oO1
                              clear oH1 oR1 oO1 ownH ownR ownO hB
                              go_wp2_with (at_builtin; refine wpList_append_own_at _ rfl (.tmp 111) (.tmp 114) _ rfl w.heap.size 3 i0 _ 1 8 Try.underlying22 hi0 hz0 hz1 hz2 rfl (by decide) _ _ _ rfl hoa ⟨_, 0, none⟩ 1 1 [.int .i64 ph] rfl rfl ?a1x16 ?a2x16 ?a3x16 ?a4x16 ?a5x16 ?_)
                              try (case a1x16 => exact news_one (by simp))
                              case a2x16 => first | rfl | (intro u hu; simp only [List.mem_singleton] at hu; subst hu; rfl)
                              case a3x16 => simp [maxLen]; omega
                              case a4x16 => omega
                              try (case a5x16 => first | omega | (simp; omega))
                              intro v6 w6 own6 gr6 _ hob6
                              obtain ⟨A6, c6, rfl, -, -⟩ := own_slc own6
                              have OR6 := Lib.hid (own_grown OR1.out _ gr6 (own_ne OR1.out OH1.out (by decide)))
                              have OO6 := Lib.hid (own_grown OO1.out _ gr6 (dis_symm hdis.out))
                              have B6 := Below.push B1 _ gr6 (fun g hg => by have := (OH1.out.lt g hg).1; omega)
                              have DIS6 : Hid (∀ b, (Value.slice A6 (H.length + 1) c6).ownBlock = some b → (Value.slice Ao O.length co).ownBlock ≠ some b) := dis_push hdis.out (fun b hb => (OO1.out.lt b hb).2) hob6 (by simp)
                              have OH6 := Lib.hid own6
                              have hz6 := B6.size
                              clear own6 gr6 hob6 hoa B1
                              have hob := OR6.out.alloc (.cells #[str pr] 9)
                              go_wp2_with (at_builtin; refine wpList_append_own_at _ rfl (.tmp 116) (.tmp 118) _ rfl w.heap.size 9 j0 _ 1 16 Try.underlying34 hj0 hy0 hy1 hy2 rfl (by decide) _ _ _ rfl hob ⟨_, 0, none⟩ 1 1 [str pr] rfl rfl ?b1x17 ?b2x17 ?b3x17 ?b4x17 ?b5x17 ?_)
                              case b1x17 => exact news_one (by simp)
                              case b2x17 => first | rfl | (intro u hu; simp only [List.mem_singleton] at hu; subst hu; rfl)
                              case b3x17 => simp [maxLen]; omega
                              case b4x17 => omega
                              try (case b5x17 => first | omega | (simp; omega))
                              intro v7 w7 own7 gr7 _ hob7
                              obtain ⟨A7, c7, rfl, -, -⟩ := own_slc own7
                              have OH7 := Lib.hid (own_grown OH6.out _ gr7 (own_ne OH6.out OR6.out (by decide)))
                              have OO7 := Lib.hid (own_grown OO6.out _ gr7 (own_ne OO6.out OR6.out (by decide)))
                              have B7 := Below.push B6 _ gr7 (fun g hg => by have := (OR6.out.lt g hg).1; omega)
                              have OR7 := Lib.hid own7
                              have hz7 := B7.size
                              clear own7 gr7 hob7 hob B6
                              have hoc := OO7.out.alloc (.cells #[.int .i64 (a : Nat)] 3)
                              go_wp2_with (at_builtin; refine wpList_append_own_at _ rfl (.tmp 120) (.tmp 122) _ rfl w.heap.size 3 i0 _ 1 8 Try.underlying22 hi0 hz0 hz1 hz2 rfl (by decide) _ _ _ rfl hoc ⟨_, 0, none⟩ 1 1 [.int .i64 (a : Nat)] rfl rfl ?c1x18 ?c2x18 ?c3x18 ?c4x18 ?c5x18 ?_)
                              case c1x18 => exact news_one (by simp)
                              case c2x18 => first | rfl | (intro u hu; simp only [List.mem_singleton] at hu; subst hu; rfl)
                              case c3x18 => simp [maxLen]; omega
                              case c4x18 => omega
                              try (case c5x18 => first | omega | (simp; omega))
                              intro v8 w8 own8 gr8 _ hob8
                              obtain ⟨A8, c8, rfl, -, -⟩ := own_slc own8
                              have OH8 := Lib.hid (own_grown OH7.out _ gr8 DIS6.out)
                              have OR8 := Lib.hid (own_grown OR7.out _ gr8 (own_ne OR7.out OO7.out (by decide)))
                              have B8 := Below.push B7 _ gr8 (fun g hg => by have := (OO7.out.lt g hg).1; omega)
                              have DIS8 : Hid (∀ b, (Value.slice A6 (H.length + 1) c6).ownBlock = some b → (Value.slice A8 (O.length + 1) c8).ownBlock ≠ some b) := dis_symm (dis_push (dis_symm DIS6.out) (fun b hb => (OH7.out.lt b hb).2) hob8 (by simp))
                              have OO8 := Lib.hid own8
                              clear own8 gr8 hob8 hoc B7
                              go_wp2
                              go_roundw
                              case rel =>
                                refine ⟨f, a + (ln rest).length + 1, H ++ [ph], R ++ [pr], O ++ [a], A6, A7, A8, c6, c7, c8, by have := HLL.out; go_num, by have := HLL.out; omega, by simp, by simp, by simp, by simp; omega, ?_, ?_, ?_, ?_, ?_, ?_, B8, ?_⟩
                                · obtain ⟨h1, h2, _⟩ := hlens.out
                                  refine ⟨by simp [h1], by simp [h2], fun o ho => ?_⟩
                                  rcases List.mem_append.1 ho with h | h
                                  · exact HOD.out o h
                                  · simp at h; omega
                                · have := hf.out; show _ < _; omega
                                · have := OH8.out
                                  rw [show ints H ++ [Value.int .i64 ph] = ints (H ++ [ph]) by simp [ints]] at this
                                  exact Lib.hid (by simpa using this)
                                · have := OR8.out
                                  rw [← strs_snoc] at this
                                  exact Lib.hid (by simpa using this)
                                · have := OO8.out
                                  rw [show nats O ++ [Value.int .i64 (a : Nat)] = nats (O ++ [a]) by simp [nats]] at this
                                  exact Lib.hid (by simpa using this)
                                · have := DIS8.out
                                  exact Lib.hid (by simpa using this)
                                · show _ = _
                                  rw [hstepE.out, Hp.out, hrd.out]
                              case measure => simp [intOf]; omega
                      · have e9 : ((d[i].toNat : Int) != 9) = true := by rw [bne_iff_ne]; intro h2; exact h9 (UInt8.toNat_inj.1 (by show _ = 9; omega))
                        have HLT := Lib.hid (line_tab (s := ln rest) (T := T) HNE.out HN0.out (by rw [HDL.out, hgl.out i hid (by omega) (by omega)]; simpa using h9))
                        rw [HDL.out] at HLT
                        clear h9
                        have HF := Lib.hid (parseR_err (hpar.out.trans (parseF_bad hrne.out HM.out (by rw [HLT.out]; simp))))
                        rw [HLT.out] at HF
                        dsimp only at HF
                        go_wp2
                        refine bodyPost_ret (results_rparse _) rfl ?_
                        exact rparsd_nil (a := i) (k := 3) (by rw [HF.out, show a + (i - a) = i by omega]) hB rfl
                    · obtain rfl : i = a := by omega
                      have hia : ((i : Int) == (i : Int)) = true := by simp
                      have HLT := Lib.hid (line_zero (s := ln rest) (T := T) (by rw [HD.out]; simp))
                      have HF := Lib.hid (parseR_err (hpar.out.trans (parseF_bad hrne.out HM.out (by rw [HLT.out]; simp))))
                      rw [HLT.out] at HF
                      dsimp only at HF
                      go_wp2
                      refine bodyPost_ret (results_rparse _) rfl ?_
                      exact rparsd_nil (a := i) (k := 3) (by rw [HF.out]; rfl) hB rfl
                · have HD := Lib.hid (hstop.out (by unfold dg; simp; omega))
                  have HDL : Hid ((digs (ln rest)).length = i - a) := by show _ = _; rw [HD.out, List.length_take]; have := HLL.out; omega
                  have HMV : Hid (m = min (vl (digs (ln rest))) 1099511627776) := by show _ = _; rw [HD.out]; exact hmv.out
                  have HN0 : Hid (¬ ((ln rest)[0]? = some 48 ∧ 1 < (digs (ln rest)).length)) := by
                    rintro ⟨h2, h3⟩
                    rw [HDL.out] at h3
                    have h4 := hgl.out a hal (Nat.le_refl _) (by omega)
                    rw [Nat.sub_self, h2] at h4
                    exact hz48.out (by omega) (Option.some.inj h4).symm
                  clear hmv hall
                  rcases Nat.lt_or_ge a i with h0 | h0
                  · have HNE : Hid ((digs (ln rest)).length ≠ 0) := by show _ ≠ _; rw [HDL.out]; omega
                    have hia : ((i : Int) == (a : Int)) = false := by rw [beq_eq_false_iff_ne]; omega
                    by_cases h9 : d[i] = 9
                    · have e9 : ((d[i].toNat : Int) != 9) = false := by rw [h9]; rfl
                      have H9 : Hid ((ln rest)[(digs (ln rest)).length]? = some 9) := by show _ = _; rw [HDL.out, hgl.out i hid (by omega) (by omega), h9]
                      clear h9
                      by_cases hTm : T < m
                      · have HLT := Lib.hid (line_big (s := ln rest) (T := T) HNE.out HN0.out H9.out (by have := HMV.out; omega))
                        have HF := Lib.hid (parseR_err (hpar.out.trans (parseF_bad hrne.out HM.out (by rw [HLT.out]; simp))))
                        rw [HLT.out] at HF
                        dsimp only at HF
                        go_wp2
                        refine bodyPost_ret (results_rparse _) rfl ?_
                        exact rparsd_nil (a := a) (k := 8) (by rw [HF.out]; rfl) hB rfl
                      · have HV : Hid (vl (digs (ln rest)) = m) := by show _ = _; have := HMV.out; omega
                        have HT2 : Hid (¬ T < vl (digs (ln rest))) := by have := HMV.out; show ¬ _; omega
                        obtain ⟨pr, hpr⟩ : ∃ pr, pr = (ln rest).drop (i - a + 1) := ⟨_, rfl⟩
                        have hs1 : ∀ W, (Instr.slice 9 (str d) (some (.int .i64 ((i : Int) + 1))) (some (.int .i64 (j : Int))) none).run Try.prog W = .ok (str pr) W := fun W => by
                          have e : pr = (d.drop (i + 1)).take (j - (i + 1)) := by
                            rw [hpr, HLN.out, ← HRE.out, List.drop_take, List.drop_drop]
                            congr 1
                            · omega
                            · congr 1; omega
                          rw [e]
                          exact str_mid 9 Try.underlying9 d (i + 1) j (by omega) hjd W
                        have hprl : pr.length ≤ 2097152 := by rw [hpr, List.length_drop]; have := HLL.out; omega
                        have HR : Hid ((ln rest).drop ((digs (ln rest)).length + 1) = pr) := by show _ = _; rw [HDL.out, hpr]
                        clear hpr
                        by_cases hre : pr = []
                        · subst hre
                          obtain ⟨pr, hpr⟩ : ∃ pr : Bs, pr = [] := ⟨_, rfl⟩
                          have HLO := Lib.hid (line_ok (s := ln rest) (T := T) HNE.out HN0.out H9.out HT2.out (by rw [HR.out]; simp))
                          rw [HR.out] at HLO
                          rw [← hpr] at HLO
                          subst hpr
                          have hHT2 : H.length < T := by omega
                          obtain ⟨hRl, hOl, hOd⟩ := hlens.out
                          have hRl2 : R.length ≤ 4096 := by omega
                          have hOl2 : O.length ≤ 4096 := by omega
                          have HOD := Lib.hid hOd
                          clear hRl hOl hOd
                          obtain ⟨ph, hph⟩ : ∃ ph : Int, (m : Int) - 1 = ph := ⟨_, rfl⟩
                          have Hp : Hid (lineP (ln rest) T = (ph, ([] : Bs), 0, 0)) := by show _ = _; rw [HLO.out, HV.out, hph]
                          have hstepE := Lib.hid (hpar.out.trans (parseF_step hrne.out HM.out (by rw [Hp.out])))
                          have hrd : Hid (rest.drop ((ln rest).length + 1) = d.drop (a + (ln rest).length + 1)) := by show _ = _; rw [← HRE.out, List.drop_drop]; rfl
                          have oH1 := ownH.out
                          have oR1 := ownR.out
                          have oO1 := ownO.out
                          have B1 := hB
                          have hzz1 := hB.size
                          have hoa := oH1.alloc (.cells #[.int .i64 ph] 3)
                          have OH1 := Lib.hid oH1
                          have OR1 := Lib.hid oR1
                          have OO1 := Lib.hid oO1
                          clear oH1 oR1 oO1 ownH ownR ownO hB
                          go_wp2_with (at_builtin; refine wpList_append_own_at _ rfl (.tmp 111) (.tmp 114) _ rfl w.heap.size 3 i0 _ 1 8 Try.underlying22 hi0 hz0 hz1 hz2 rfl (by decide) _ _ _ rfl hoa ⟨_, 0, none⟩ 1 1 [.int .i64 ph] rfl rfl ?a1x19 ?a2x19 ?a3x19 ?a4x19 ?a5x19 ?_)
                          try (case a1x19 => exact news_one (by simp))
                          case a2x19 => first | rfl | (intro u hu; simp only [List.mem_singleton] at hu; subst hu; rfl)
                          case a3x19 => simp [maxLen]; omega
                          case a4x19 => omega
                          try (case a5x19 => first | omega | (simp; omega))
                          intro v6 w6 own6 gr6 _ hob6
                          obtain ⟨A6, c6, rfl, -, -⟩ := own_slc own6
                          have OR6 := Lib.hid (own_grown OR1.out _ gr6 (own_ne OR1.out OH1.out (by decide)))
                          have OO6 := Lib.hid (own_grown OO1.out _ gr6 (dis_symm hdis.out))
                          have B6 := Below.push B1 _ gr6 (fun g hg => by have := (OH1.out.lt g hg).1; omega)
                          have DIS6 : Hid (∀ b, (Value.slice A6 (H.length + 1) c6).ownBlock = some b → (Value.slice Ao O.length co).ownBlock ≠ some b) := dis_push hdis.out (fun b hb => (OO1.out.lt b hb).2) hob6 (by simp)
                          have OH6 := Lib.hid own6
                          have hz6 := B6.size
                          clear own6 gr6 hob6 hoa B1
                          have hob := OR6.out.alloc (.cells #[str []] 9)
                          go_wp2_with (at_builtin; refine wpList_append_own_at _ rfl (.tmp 116) (.tmp 118) _ rfl w.heap.size 9 j0 _ 1 16 Try.underlying34 hj0 hy0 hy1 hy2 rfl (by decide) _ _ _ rfl hob ⟨_, 0, none⟩ 1 1 [str []] rfl rfl ?b1x20 ?b2x20 ?b3x20 ?b4x20 ?b5x20 ?_)
                          case b1x20 => exact news_one (by simp)
                          case b2x20 => first | rfl | (intro u hu; simp only [List.mem_singleton] at hu; subst hu; rfl)
                          case b3x20 => simp [maxLen]; omega
                          case b4x20 => omega
                          try (case b5x20 => first | omega | (simp; omega))
                          intro v7 w7 own7 gr7 _ hob7
                          obtain ⟨A7, c7, rfl, -, -⟩ := own_slc own7
                          have OH7 := Lib.hid (own_grown OH6.out _ gr7 (own_ne OH6.out OR6.out (by decide)))
                          have OO7 := Lib.hid (own_grown OO6.out _ gr7 (own_ne OO6.out OR6.out (by decide)))
                          have B7 := Below.push B6 _ gr7 (fun g hg => by have := (OR6.out.lt g hg).1; omega)
                          have OR7 := Lib.hid own7
                          have hz7 := B7.size
                          clear own7 gr7 hob7 hob B6
                          have hoc := OO7.out.alloc (.cells #[.int .i64 (a : Nat)] 3)
                          go_wp2_with (at_builtin; refine wpList_append_own_at _ rfl (.tmp 120) (.tmp 122) _ rfl w.heap.size 3 i0 _ 1 8 Try.underlying22 hi0 hz0 hz1 hz2 rfl (by decide) _ _ _ rfl hoc ⟨_, 0, none⟩ 1 1 [.int .i64 (a : Nat)] rfl rfl ?c1x21 ?c2x21 ?c3x21 ?c4x21 ?c5x21 ?_)
                          case c1x21 => exact news_one (by simp)
                          case c2x21 => first | rfl | (intro u hu; simp only [List.mem_singleton] at hu; subst hu; rfl)
                          case c3x21 => simp [maxLen]; omega
                          case c4x21 => omega
                          try (case c5x21 => first | omega | (simp; omega))
                          intro v8 w8 own8 gr8 _ hob8
                          obtain ⟨A8, c8, rfl, -, -⟩ := own_slc own8
                          have OH8 := Lib.hid (own_grown OH7.out _ gr8 DIS6.out)
                          have OR8 := Lib.hid (own_grown OR7.out _ gr8 (own_ne OR7.out OO7.out (by decide)))
                          have B8 := Below.push B7 _ gr8 (fun g hg => by have := (OO7.out.lt g hg).1; omega)
                          have DIS8 : Hid (∀ b, (Value.slice A6 (H.length + 1) c6).ownBlock = some b → (Value.slice A8 (O.length + 1) c8).ownBlock ≠ some b) := dis_symm (dis_push (dis_symm DIS6.out) (fun b hb => (OH7.out.lt b hb).2) hob8 (by simp))
                          have OO8 := Lib.hid own8
                          clear own8 gr8 hob8 hoc B7
                          go_wp2
                          go_roundw
                          case rel =>
                            refine ⟨f, a + (ln rest).length + 1, H ++ [ph], R ++ [[]], O ++ [a], A6, A7, A8, c6, c7, c8, by have := HLL.out; go_num, by have := HLL.out; omega, by simp, by simp, by simp, by simp; omega, ?_, ?_, ?_, ?_, ?_, ?_, B8, ?_⟩
                            · obtain ⟨h1, h2, _⟩ := hlens.out
                              refine ⟨by simp [h1], by simp [h2], fun o ho => ?_⟩
                              rcases List.mem_append.1 ho with h | h
                              · exact HOD.out o h
                              · simp at h; omega
                            · have := hf.out; show _ < _; omega
                            · have := OH8.out
                              rw [show ints H ++ [Value.int .i64 ph] = ints (H ++ [ph]) by simp [ints]] at this
                              exact Lib.hid (by simpa using this)
                            · have := OR8.out
                              rw [← strs_snoc] at this
                              exact Lib.hid (by simpa using this)
                            · have := OO8.out
                              rw [show nats O ++ [Value.int .i64 (a : Nat)] = nats (O ++ [a]) by simp [nats]] at this
                              exact Lib.hid (by simpa using this)
                            · have := DIS8.out
                              exact Lib.hid (by simpa using this)
                            · show _ = _
                              rw [hstepE.out, Hp.out, hrd.out]
                          case measure => simp [intOf]; omega
                        · have hrb3 : (pr == []) = false := by simpa using hre
                          go_wp2_with fail
                          refine (refValidName_any pr (by omega) _).mono ?_
                          rintro en w' ⟨rfl, rfl⟩
                          cases hok : Tagp.okName pr with
                          | false =>
                            have HLT := Lib.hid (line_name (s := ln rest) (T := T) HNE.out HN0.out H9.out HT2.out (by rw [HR.out]; exact ⟨hre, hok⟩))
                            rw [HDL.out] at HLT
                            clear hok hre
                            have HF := Lib.hid (parseR_err (hpar.out.trans (parseF_bad hrne.out HM.out (by rw [HLT.out]; simp))))
                            rw [HLT.out] at HF
                            dsimp only at HF
                            go_wp2
                            refine bodyPost_ret (results_rparse _) rfl ?_
                            exact rparsd_nil (a := i + 1) (k := 4) (by rw [HF.out, show a + (i - a + 1) = i + 1 by omega]) hB rfl
                          | true =>
                            have HLO := Lib.hid (line_ok (s := ln rest) (T := T) HNE.out HN0.out H9.out HT2.out (by rw [HR.out, hok]; simp))
                            rw [HR.out] at HLO
                            clear hok hre
                            have hHT2 : H.length < T := by omega
                            obtain ⟨hRl, hOl, hOd⟩ := hlens.out
                            have hRl2 : R.length ≤ 4096 := by omega
                            have hOl2 : O.length ≤ 4096 := by omega
                            have HOD := Lib.hid hOd
                            clear hRl hOl hOd
                            obtain ⟨ph, hph⟩ : ∃ ph : Int, (m : Int) - 1 = ph := ⟨_, rfl⟩
                            have Hp : Hid (lineP (ln rest) T = (ph, pr, 0, 0)) := by show _ = _; rw [HLO.out, HV.out, hph]
                            have hstepE := Lib.hid (hpar.out.trans (parseF_step hrne.out HM.out (by rw [Hp.out])))
                            have hrd : Hid (rest.drop ((ln rest).length + 1) = d.drop (a + (ln rest).length + 1)) := by show _ = _; rw [← HRE.out, List.drop_drop]; rfl
                            have oH1 := ownH.out
                            have oR1 := ownR.out
                            have oO1 := ownO.out
                            have B1 := hB
                            have hzz1 := hB.size
                            have hoa := oH1.alloc (.cells #[.int .i64 ph] 3)
                            have OH1 := Lib.hid oH1
                            have OR1 := Lib.hid oR1
                            have OO1 := Lib.hid oO1
                            clear oH1 oR1 oO1 ownH ownR ownO hB
                            go_wp2_with (at_builtin; refine wpList_append_own_at _ rfl (.tmp 111) (.tmp 114) _ rfl w.heap.size 3 i0 _ 1 8 Try.underlying22 hi0 hz0 hz1 hz2 rfl (by decide) _ _ _ rfl hoa ⟨_, 0, none⟩ 1 1 [.int .i64 ph] rfl rfl ?a1x22 ?a2x22 ?a3x22 ?a4x22 ?a5x22 ?_)
                            try (case a1x22 => exact news_one (by simp))
                            case a2x22 => first | rfl | (intro u hu; simp only [List.mem_singleton] at hu; subst hu; rfl)
                            case a3x22 => simp [maxLen]; omega
                            case a4x22 => omega
                            try (case a5x22 => first | omega | (simp; omega))
                            intro v6 w6 own6 gr6 _ hob6
                            obtain ⟨A6, c6, rfl, -, -⟩ := own_slc own6
                            have OR6 := Lib.hid (own_grown OR1.out _ gr6 (own_ne OR1.out OH1.out (by decide)))
                            have OO6 := Lib.hid (own_grown OO1.out _ gr6 (dis_symm hdis.out))
                            have B6 := Below.push B1 _ gr6 (fun g hg => by have := (OH1.out.lt g hg).1; omega)
                            have DIS6 : Hid (∀ b, (Value.slice A6 (H.length + 1) c6).ownBlock = some b → (Value.slice Ao O.length co).ownBlock ≠ some b) := dis_push hdis.out (fun b hb => (OO1.out.lt b hb).2) hob6 (by simp)
                            have OH6 := Lib.hid own6
                            have hz6 := B6.size
                            clear own6 gr6 hob6 hoa B1
                            have hob := OR6.out.alloc (.cells #[str pr] 9)
                            go_wp2_with (at_builtin; refine wpList_append_own_at _ rfl (.tmp 116) (.tmp 118) _ rfl w.heap.size 9 j0 _ 1 16 Try.underlying34 hj0 hy0 hy1 hy2 rfl (by decide) _ _ _ rfl hob ⟨_, 0, none⟩ 1 1 [str pr] rfl rfl ?b1x23 ?b2x23 ?b3x23 ?b4x23 ?b5x23 ?_)
                            case b1x23 => exact news_one (by simp)
                            case b2x23 => first | rfl | (intro u hu; simp only [List.mem_singleton] at hu; subst hu; rfl)
                            case b3x23 => simp [maxLen]; omega
                            case b4x23 => omega
                            try (case b5x23 => first | omega | (simp; omega))
                            intro v7 w7 own7 gr7 _ hob7
                            obtain ⟨A7, c7, rfl, -, -⟩ := own_slc own7
                            have OH7 := Lib.hid (own_grown OH6.out _ gr7 (own_ne OH6.out OR6.out (by decide)))
                            have OO7 := Lib.hid (own_grown OO6.out _ gr7 (own_ne OO6.out OR6.out (by decide)))
                            have B7 := Below.push B6 _ gr7 (fun g hg => by have := (OR6.out.lt g hg).1; omega)
                            have OR7 := Lib.hid own7
                            have hz7 := B7.size
                            clear own7 gr7 hob7 hob B6
                            have hoc := OO7.out.alloc (.cells #[.int .i64 (a : Nat)] 3)
                            go_wp2_with (at_builtin; refine wpList_append_own_at _ rfl (.tmp 120) (.tmp 122) _ rfl w.heap.size 3 i0 _ 1 8 Try.underlying22 hi0 hz0 hz1 hz2 rfl (by decide) _ _ _ rfl hoc ⟨_, 0, none⟩ 1 1 [.int .i64 (a : Nat)] rfl rfl ?c1x24 ?c2x24 ?c3x24 ?c4x24 ?c5x24 ?_)
                            case c1x24 => exact news_one (by simp)
                            case c2x24 => first | rfl | (intro u hu; simp only [List.mem_singleton] at hu; subst hu; rfl)
                            case c3x24 => simp [maxLen]; omega
                            case c4x24 => omega
                            try (case c5x24 => first | omega | (simp; omega))
                            intro v8 w8 own8 gr8 _ hob8
                            obtain ⟨A8, c8, rfl, -, -⟩ := own_slc own8
                            have OH8 := Lib.hid (own_grown OH7.out _ gr8 DIS6.out)
                            have OR8 := Lib.hid (own_grown OR7.out _ gr8 (own_ne OR7.out OO7.out (by decide)))
                            have B8 := Below.push B7 _ gr8 (fun g hg => by have := (OO7.out.lt g hg).1; omega)
                            have DIS8 : Hid (∀ b, (Value.slice A6 (H.length + 1) c6).ownBlock = some b → (Value.slice A8 (O.length + 1) c8).ownBlock ≠ some b) := dis_symm (dis_push (dis_symm DIS6.out) (fun b hb => (OH7.out.lt b hb).2) hob8 (by simp))
                            have OO8 := Lib.hid own8
                            clear own8 gr8 hob8 hoc B7
                            go_wp2
                            go_roundw
                            case rel =>
                              refine ⟨f, a + (ln rest).length + 1, H ++ [ph], R ++ [pr], O ++ [a], A6, A7, A8, c6, c7, c8, by have := HLL.out; go_num, by have := HLL.out; omega, by simp, by simp, by simp, by simp; omega, ?_, ?_, ?_, ?_, ?_, ?_, B8, ?_⟩
                              · obtain ⟨h1, h2, _⟩ := hlens.out
                                refine ⟨by simp [h1], by simp [h2], fun o ho => ?_⟩
                                rcases List.mem_append.1 ho with h | h
                                · exact HOD.out o h
                                · simp at h; omega
                              · have := hf.out; show _ < _; omega
                              · have := OH8.out
                                rw [show ints H ++ [Value.int .i64 ph] = ints (H ++ [ph]) by simp [ints]] at this
                                exact Lib.hid (by simpa using this)
                              · have := OR8.out
                                rw [← strs_snoc] at this
                                exact Lib.hid (by simpa using this)
                              · have := OO8.out
                                rw [show nats O ++ [Value.int .i64 (a : Nat)] = nats (O ++ [a]) by simp [nats]] at this
                                exact Lib.hid (by simpa using this)
                              · have := DIS8.out
                                exact Lib.hid (by simpa using this)
                              · show _ = _
                                rw [hstepE.out, Hp.out, hrd.out]
                            case measure => simp [intOf]; omega
                    · have e9 : ((d[i].toNat : Int) != 9) = true := by rw [bne_iff_ne]; intro h2; exact h9 (UInt8.toNat_inj.1 (by show _ = 9; omega))
                      have HLT := Lib.hid (line_tab (s := ln rest) (T := T) HNE.out HN0.out (by rw [HDL.out, hgl.out i hid (by omega) (by omega)]; simpa using h9))
                      rw [HDL.out] at HLT
                      clear h9
                      have HF := Lib.hid (parseR_err (hpar.out.trans (parseF_bad hrne.out HM.out (by rw [HLT.out]; simp))))
                      rw [HLT.out] at HF
                      dsimp only at HF
                      go_wp2
                      refine bodyPost_ret (results_rparse _) rfl ?_
                      exact rparsd_nil (a := i) (k := 3) (by rw [HF.out, show a + (i - a) = i by omega]) hB rfl
                  · obtain rfl : i = a := by omega
                    have hia : ((i : Int) == (i : Int)) = true := by simp
                    have HLT := Lib.hid (line_zero (s := ln rest) (T := T) (by rw [HD.out]; simp))
                    have HF := Lib.hid (parseR_err (hpar.out.trans (parseF_bad hrne.out HM.out (by rw [HLT.out]; simp))))
                    rw [HLT.out] at HF
                    dsimp only at HF
                    go_wp2
                    refine bodyPost_ret (results_rparse _) rfl ?_
                    exact rparsd_nil (a := i) (k := 3) (by rw [HF.out]; rfl) hB rfl
              · have HD : Hid (digs (ln rest) = (ln rest).take (i - a)) := digs_stop (by have := HLL.out; omega) hall.out (.inl (by have := HLL.out; omega))
                have HDL : Hid ((digs (ln rest)).length = i - a) := by show _ = _; rw [HD.out, List.length_take]; have := HLL.out; omega
                have HMV : Hid (m = min (vl (digs (ln rest))) 1099511627776) := by show _ = _; rw [HD.out]; exact hmv.out
                have HN0 : Hid (¬ ((ln rest)[0]? = some 48 ∧ 1 < (digs (ln rest)).length)) := by
                  rintro ⟨h2, h3⟩
                  rw [HDL.out] at h3
                  have h4 := hgl.out a hal (Nat.le_refl _) (by omega)
                  rw [Nat.sub_self, h2] at h4
                  exact hz48.out (by omega) (Option.some.inj h4).symm
                clear hmv hall
                rcases Nat.lt_or_ge a i with h0 | h0
                · have HNE : Hid ((digs (ln rest)).length ≠ 0) := by show _ ≠ _; rw [HDL.out]; omega
                  have hia : ((i : Int) == (a : Int)) = false := by rw [beq_eq_false_iff_ne]; omega
                  have HLT := Lib.hid (line_tab (s := ln rest) (T := T) HNE.out HN0.out (by rw [HDL.out, List.getElem?_eq_none (by have := HLL.out; omega)]; simp))
                  rw [HDL.out] at HLT
                  have HF := Lib.hid (parseR_err (hpar.out.trans (parseF_bad hrne.out HM.out (by rw [HLT.out]; simp))))
                  rw [HLT.out] at HF
                  dsimp only at HF
                  go_wp2
                  refine bodyPost_ret (results_rparse _) rfl ?_
                  exact rparsd_nil (a := i) (k := 3) (by rw [HF.out, show a + (i - a) = i by omega]) hB rfl
                · obtain rfl : i = a := by omega
                  have hia : ((i : Int) == (i : Int)) = true := by simp
                  have HLT := Lib.hid (line_zero (s := ln rest) (T := T) (by rw [HD.out]; simp))
                  have HF := Lib.hid (parseR_err (hpar.out.trans (parseF_bad hrne.out HM.out (by rw [HLT.out]; simp))))
                  rw [HLT.out] at HF
                  dsimp only at HF
                  go_wp2
                  refine bodyPost_ret (results_rparse _) rfl ?_
                  exact rparsd_nil (a := i) (k := 3) (by rw [HF.out]; rfl) hB rfl
    · have hend : Hid (parseD d T = .ok (H, R, O)) := by show _ = _; rw [hpar.out, List.drop_eq_nil_of_le (by omega), parseF_end]
      by_cases hfew : H.length < T
      · have HF := Lib.hid (parseR_few hend.out hfew)
        go_wp2
        refine bodyPost_ret (results_rparse _) rfl ?_
        exact rparsd_nil (k := 15) HF.out hB rfl
      · have HNF := Lib.hid hfew
        go_wp2_with fail
        refine (refCheck_any Ah H.length ch H _ (by omega) (own_sl ownH.out)).mono ?_
        rintro en w3 ⟨rfl, rfl⟩
        by_cases hc : (chk H).2 = 0
        · have E : (((chk H).2 : Int) != 0) = false := by rw [hc]; rfl
          have HF := Lib.hid (parseR_ok hend.out HNF.out hc)
          clear hc hfew
          go_wp2
          refine bodyPost_ret (results_rparse _) rfl ?_
          rw [HF.out]
          exact ⟨_, _, rfl, ownH.out, ownR.out, hB⟩
        · have E : (((chk H).2 : Int) != 0) = true := by rw [bne_iff_ne]; omega
          have HF := Lib.hid (parseR_chk hend.out HNF.out hc)
          have hci : (chk H).1 < H.length := by
            rcases chk_lt H with h0 | h0
            · rw [h0]
              rcases Nat.eq_zero_or_pos H.length with h1 | h1
              · exfalso
                have : H = [] := List.eq_nil_of_length_eq_zero h1
                subst this
                exact hc (by decide)
              · exact h1
            · exact h0
          obtain ⟨hRl, hOl, hOd⟩ := hlens.out
          have hOl2 : (chk H).1 < O.length := by omega
          obtain ⟨go_, capo, eo, -, hgo, -⟩ := own_form ownO.out (by omega)
          injection eo with eo1 _ eo3
          subst eo1 eo3
          have cO := own_nat ownO.out _ hOl2
          have hgd : O.getD (chk H).1 0 = O[(chk H).1] := by simp [hOl2]
          rw [hgd] at HF
          obtain ⟨x, hx⟩ : ∃ x, O[(chk H).1] = x := ⟨_, rfl⟩
          rw [hx] at HF cO
          have hi0' : (0 : Int) ≤ ((chk H).1 : Int) := by omega
          have hi1' : ((chk H).1 : Int) < (O.length : Int) := by omega
          clear hRl hOl hOd hgd hx hc hfew
          go_wp2
          go_quiet (fail)
          go_wp2
          refine bodyPost_ret (results_rparse _) rfl ?_
          exact rparsd_nil HF.out (below_drewN hB _) rfl
end Go.Proofs.Ytnbnmomichegaaa
