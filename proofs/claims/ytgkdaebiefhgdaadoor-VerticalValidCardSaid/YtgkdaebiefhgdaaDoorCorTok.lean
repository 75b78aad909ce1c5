/-
  The contracts of the check of tokens, of the program's and the reference's. Conditions: none but that a corpus reads us it does.
-/
import Derived.Test.YtgkdaebiefhgdaaDoorCorAtt
namespace Go.Proofs.YtgkdaebiefhgdaaDoor
open Go.RowKit Utf
open Feat (Bs)
open Tagp (KV okName)
open Cor (vlErr tvF tkF tkErr first)

theorem tvF_at {us : List At} {t : List Bs} {k : Nat} (h1 : k < us.length) (h2 : k < t.length) : tvF us t k = vlErr us[k] t[k] := by
  unfold tvF; rw [List.getElem?_eq_getElem h1, List.getElem?_eq_getElem h2]
theorem tkF_cnt {us : List At} {l : List (List Bs)} {k : Nat} (hk : k < l.length) (h : l[k].length ≠ us.length) : tkF us l k = 15 := by
  unfold tkF; rw [List.getElem?_eq_getElem hk]; exact if_pos h
theorem tkF_at {us : List At} {l : List (List Bs)} {k j : Nat} (hk : k < l.length) (h : l[k].length = us.length) (hj : j < l[k].length) (h0 : ∀ i, i < j → tvF us l[k] i = 0) (hf : tvF us l[k] j ≠ 0) : tkF us l k = tvF us l[k] j := by
  unfold tkF; rw [List.getElem?_eq_getElem hk]
  show (if l[k].length ≠ us.length then 15 else (first (tvF us l[k]) 0 l[k].length).2) = _
  rw [if_neg (by simpa using h), Cor.first_at 0 _ j (Nat.zero_le _) (by omega) (fun i _ hi => h0 i hi) hf]
theorem tkF_zero {us : List At} {l : List (List Bs)} {k : Nat} (hk : k < l.length) (h : l[k].length = us.length) (h0 : ∀ i, i < l[k].length → tvF us l[k] i = 0) : tkF us l k = 0 := by
  unfold tkF; rw [List.getElem?_eq_getElem hk]
  show (if l[k].length ≠ us.length then 15 else (first (tvF us l[k]) 0 l[k].length).2) = _
  rw [if_neg (by simpa using h), Cor.first_none 0 _ (fun i _ hi => h0 i (by omega))]
theorem tkErr_at {us : List At} {l : List (List Bs)} {k : Nat} (h8 : ¬ 4096 < l.length) (hk : k < l.length) (h : ∀ j, j < k → tkF us l j = 0) (hf : tkF us l k ≠ 0) : tkErr us l = (k, tkF us l k) := by
  unfold tkErr; rw [if_neg h8, Cor.first_at 0 l.length k (Nat.zero_le _) (by omega) (fun j _ hj => h j hj) hf]
theorem tkErr_zero {us : List At} {l : List (List Bs)} (h8 : ¬ 4096 < l.length) (h : ∀ j, j < l.length → tkF us l j = 0) : tkErr us l = (0, 0) := by
  unfold tkErr; rw [if_neg h8, Cor.first_none 0 l.length (fun j _ hj => h j (by omega))]

set_option maxRecDepth 100000 in
set_option maxHeartbeats 2000000 in
theorem tokens_any (H : CH) (us : List At) (l : List (List Bs)) (w : World) (ha : Atts w w.heap.size H.a us) (hx : Toks w w.heap.size H.t l) :
    Calls Tryd.prog 15 #[H.v] w (Kept (.tuple #[.int .i64 ((tkErr us l).1 : Nat), .int .i64 ((tkErr us l).2 : Nat)]) w) := by
  obtain ⟨⟨Aa, na, ca⟩, ⟨A, n, c⟩, hX, hr, hn, hh, hl⟩ := H
  have HL := Lib.hid hx.len
  have HLA := Lib.hid ha.len
  have f1 : n ≤ 9223372036854775807 := hx.fit.2
  have f2 : na ≤ 9223372036854775807 := ha.1.2
  have hB0 := (Below.refl w.heap.size w).alloc (Nat.le_refl _) (.cells #[.slice Aa na ca, .slice A n c, hX.v, hr.v, hn.v, hh.v, hl.v] 30)
  have hb0 := Blk.new w 30 #[.slice Aa na ca, .slice A n c, hX.v, hr.v, hn.v, hh.v, hl.v]
  show Calls Tryd.prog 15 #[.agg #[.slice Aa na ca, .slice A n c, hX.v, hr.v, hn.v, hh.v, hl.v]] w _
  by_cases h8 : 4096 < n
  · have HF : Hid (tkErr us l = (0, 2)) := by show _ = _; unfold tkErr; rw [if_pos (by have : l.length = n := HL.out; omega)]
    go_enter Tryd.func15, Tryd.ntmps15
    go_wp2
    go_ret2
    exact ⟨ret_p HF.out rfl rfl, hB0⟩
  go_enter Tryd.func15, Tryd.ntmps15
  go_wp2
  go_loopw [16] (fun iv wr => ∃ k : Nat, k ≤ n ∧ iv = .int .i64 k ∧ Below w.heap.size w wr ∧ Blk wr w.heap.size 30 #[.slice Aa na ca, .slice A n c, hX.v, hr.v, hn.v, hh.v, hl.v] ∧ Hid (∀ j, j < k → tkF us l j = 0)) (fun iv _ => n - (intOf iv).toNat)
  case atStart => exact ⟨0, by omega, rfl, hB0, hb0, fun j hj => by omega⟩
  case round =>
    obtain ⟨k, hk, rfl, hB, hbx, hinv⟩ := hrel
    by_cases hlt : k < n
    · obtain ⟨g, o, ⟨At, nt, ct⟩, hk', e0, hg, ht, c0w⟩ := hx.at_ hlt
      have e0 : A = some ⟨g, o, none⟩ := e0
      subst e0
      have f3 : nt ≤ 9223372036854775807 := ht.1.2
      have c0 : wr.cell? ⟨g, o + k, none⟩ = some (.slice At nt ct) := (World.cell?_of_block (hB.block g hg)).trans c0w
      clear c0w
      have HLT := Lib.hid ht.len
      have HT := Lib.hid ht
      have HA := Lib.hid (fun h => tkErr_at (us := us) (l := l) (k := k) (by have : l.length = n := HL.out; omega) hk' hinv.out h)
      have b00 := hbx.cell 0
      by_cases hc : nt = na
      · subst hc
        have F0 : Hid (l[k].length = us.length) := by show _ = _; rw [HLT.out, HLA.out]
        go_wp2
        obtain ⟨wo, rfl⟩ : ∃ wo : World, wo = wr := ⟨_, rfl⟩
        go_loopw [30] (fun jv wr2 => ∃ j : Nat, j ≤ nt ∧ jv = .int .i64 j ∧ Below w.heap.size w wr2 ∧ Blk wr2 w.heap.size 30 #[.slice Aa nt ca, .slice (some ⟨g, o, none⟩) n c, hX.v, hr.v, hn.v, hh.v, hl.v] ∧ Hid (∀ i, i < j → tvF us l[k] i = 0)) (fun jv _ => nt - (intOf jv).toNat)
        case atStart => exact ⟨0, by omega, rfl, hB, hbx, fun j hj => by omega⟩
        case round =>
          obtain ⟨j, hj, rfl, hB2, hb2, hin2⟩ := hrel
          by_cases hjt : j < nt
          · obtain ⟨g1, o1, hj1, e0, hg1, z1, d0⟩ := (HT.out.under hB2).at_ (k := j) hjt
            have e0 : At = some ⟨g1, o1, none⟩ := e0
            subst e0
            obtain ⟨g2, o2, hj2, e0, hg2, z2, d1, d2⟩ := (ha.under hB2).at_ (k := j) hjt
            have e0 : Aa = some ⟨g2, o2, none⟩ := e0
            subst e0
            have HF := Lib.hid (tvF_at hj2 hj1)
            have HF2 := Lib.hid (fun hf => tkF_at (us := us) (l := l) hk' F0.out hj1 hin2.out hf)
            obtain ⟨⟨x, xb⟩, hx'⟩ : ∃ p, us[j] = p := ⟨_, rfl⟩
            obtain ⟨v, hv'⟩ : ∃ p, l[k][j] = p := ⟨_, rfl⟩
            rw [hx'] at d1 d2
            rw [hv'] at d0 z1
            rw [hx', hv'] at HF
            clear hx' hv' z2
            have z1 : v.length ≤ 9223372036854775807 := z1
            have b00 := hb2.cell 0
            go_wp2_with fail
            refine (value1_any (x, xb) v z1 _).mono ?_
            rintro e w1 ⟨rfl, hb1⟩
            have hB3 := hB2.trans (hb1.mono hB2.size)
            have hb3 := hb2.below hb1
            by_cases hv : vlErr (x, xb) v = 0
            · have E : ((vlErr (x, xb) v : Int) != 0) = false := by rw [hv]; rfl
              have HI : Hid (∀ i, i < j + 1 → tvF us l[k] i = 0) := upto_step hin2.out (by rw [HF.out, hv])
              clear hv HF HF2 hin2 hj1 hj2 HA b00
              go_wp2
              go_roundw
              case rel => exact ⟨j + 1, by omega, by go_num, hB3, hb3, HI⟩
              case measure => simp [intOf]; omega
            · have E : ((vlErr (x, xb) v : Int) != 0) = true := by rw [bne_iff_ne]; omega
              have HF3 : Hid (tkErr us l = (k, vlErr (x, xb) v)) := by
                have e1 := (HF2.out (by rw [HF.out]; exact hv)).trans HF.out
                show _ = _
                rw [HA.out (by rw [e1]; exact hv), e1]
              clear hv HF HF2 hin2 hj1 hj2 HA b00
              go_wp2
              go_ret2
              exact ⟨ret_p HF3.out rfl rfl, hB3⟩
          · have HI : Hid (∀ i, i < k + 1 → tkF us l i = 0) := upto_step hinv.out (tkF_zero hk' F0.out (fun i hi => hin2.out i (by have : l[k].length = nt := HLT.out; omega)))
            clear hin2 HA
            go_wp2
            go_roundw
            case rel => exact ⟨k + 1, by omega, by go_num, hB2, hb2, HI⟩
            case measure => simp [intOf]; omega
      · have E : ((nt : Int) != (na : Int)) = true := by rw [bne_iff_ne]; omega
        have HF3 : Hid (tkErr us l = (k, 15)) := by
          have e1 := tkF_cnt (us := us) hk' (by rw [HLT.out, HLA.out]; exact hc)
          show _ = _
          rw [HA.out (by rw [e1]; simp), e1]
        clear HA
        go_wp2
        go_ret2
        exact ⟨ret_p HF3.out rfl rfl, hB⟩
    · have HF : Hid (tkErr us l = (0, 0)) := tkErr_zero (by have : l.length = n := HL.out; omega) (fun j hj => hinv.out j (by have : l.length = n := HL.out; omega))
      clear hinv
      go_wp2
      go_ret2
      exact ⟨ret_p HF.out rfl rfl, hB⟩

end Go.Proofs.YtgkdaebiefhgdaaDoor
