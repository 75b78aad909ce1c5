/-
  The contracts of the check of texts, of the program's and the reference's. Conditions: none but that a corpus reads as it does.
-/
import Derived.Test.YtgkdaebiefhgdaaDoorCorAtt
namespace Go.Proofs.YtgkdaebiefhgdaaDoor
open Go.RowKit Utf
open Feat (Bs)
open Tagp (KV okName)
open Cor (txF txErr endB prErr findT)

theorem txF_at {m : Nat} {l : List Cor.Txt} {k : Nat} (hk : k < l.length) : txF m l k = if okName l[k].nm = false then 4 else if (l.take k).any (fun u => u.nm == l[k].nm) = true then 5 else if l[k].b ≠ endB l k ∨ l[k].e ≤ l[k].b ∨ (m : Int) < l[k].e ∨ (k + 1 = l.length ∧ l[k].e ≠ m) then 8 else prErr l[k].ks := by
  unfold txF; rw [List.getElem?_eq_getElem hk]
theorem txErr_at {m : Nat} {l : List Cor.Txt} {k : Nat} (h8 : ¬ 64 < l.length) (h9 : ((l.length == 0) != (m == 0)) = false) (hk : k < l.length) (h : ∀ j, j < k → txF m l j = 0) (hf : txF m l k ≠ 0) : txErr m l = (k, txF m l k) := by
  unfold txErr; rw [if_neg h8, if_neg (by rw [h9]; simp), Cor.first_at 0 l.length k (Nat.zero_le _) (by omega) (fun j _ hj => h j hj) hf]
theorem txErr_zero {m : Nat} {l : List Cor.Txt} (h8 : ¬ 64 < l.length) (h9 : ((l.length == 0) != (m == 0)) = false) (h : ∀ j, j < l.length → txF m l j = 0) : txErr m l = (0, 0) := by
  unfold txErr; rw [if_neg h8, if_neg (by rw [h9]; simp), Cor.first_none 0 l.length (fun j _ hj => h j (by omega))]
theorem endB_succ {l : List Cor.Txt} {k : Nat} (hk : k < l.length) : endB l (k + 1) = l[k].e := by
  unfold endB; rw [if_neg (by omega), Nat.add_sub_cancel, List.getElem?_eq_getElem hk]
theorem findT_dup {l : List Cor.Txt} {nm : Bs} {k : Nat} (h : (l.take k).any (fun u => u.nm == nm) = true) : findT l nm < k := by
  rw [List.any_eq_true] at h
  obtain ⟨x, hx, he⟩ := h
  rw [List.mem_take_iff_getElem] at hx
  obtain ⟨j, hj, rfl⟩ := hx
  unfold findT
  cases hf : l.findIdx? (fun t => t.nm == nm) with
  | none => exact absurd he (by rw [List.findIdx?_eq_none_iff.1 hf _ (List.getElem_mem _)]; simp)
  | some i =>
    obtain ⟨_, _, hb⟩ := List.findIdx?_eq_some_iff_getElem.1 hf
    have : i ≤ j := by
      rcases Nat.lt_or_ge j i with h | h
      · exact absurd he (hb j h)
      · exact h
    show (i : Int) < k
    omega
theorem findT_new {l : List Cor.Txt} {nm : Bs} {k : Nat} (hk : k < l.length) (hn : l[k].nm = nm) (h : (l.take k).any (fun u => u.nm == nm) = false) : ¬ findT l nm < k := by
  unfold findT
  cases hf : l.findIdx? (fun t => t.nm == nm) with
  | none => 
    have := List.findIdx?_eq_none_iff.1 hf _ (List.getElem_mem hk)
    rw [hn] at this; simp at this
  | some i =>
    obtain ⟨hi, hp, _⟩ := List.findIdx?_eq_some_iff_getElem.1 hf
    show ¬ (i : Int) < k
    intro hlt
    rw [any_take_true (p := fun u : Cor.Txt => u.nm == nm) (show i < k by omega) hi hp] at h
    cases h
theorem eq0 (n : Nat) : ((n : Int) == 0) = (n == 0) := by rw [Bool.eq_iff_iff]; simp
theorem eq0_ne {n m : Nat} (h : ((n == 0) != (m == 0)) = true) : (((n : Int) == 0) == ((m : Int) == 0)) = false := by
  rw [eq0, eq0]; cases h1 : (n == 0) <;> cases h2 : (m == 0) <;> rw [h1, h2] at h <;> simp_all
theorem eq0_eq {n m : Nat} (h : ((n == 0) != (m == 0)) = false) : (((n : Int) == 0) == ((m : Int) == 0)) = true := by
  rw [eq0, eq0]; cases h1 : (n == 0) <;> cases h2 : (m == 0) <;> rw [h1, h2] at h <;> simp_all
theorem info_text : (Tryd.prog.info? 61).map (fun i => (i.zero, i.size, i.bytes)) = some (some (.agg #[.string ⟨#[]⟩, .int .i64 0, .int .i64 0, .slice none 0 0]), 4, 56) := by kernel_rfl

set_option maxRecDepth 100000 in
set_option maxHeartbeats 4000000 in
theorem texts_any (H : CH) (l : List Cor.Txt) (w : World) (ht : Fit H.t) (hx : Txts w w.heap.size H.x l) :
    Calls Tryd.prog 16 #[H.v] w (Kept (.tuple #[.int .i64 ((txErr H.t.n l).1 : Nat), .int .i64 ((txErr H.t.n l).2 : Nat)]) w) := by
  obtain ⟨ha, ⟨At, nt, ct⟩, ⟨A, n, c⟩, hr, hn, hh, hl⟩ := H
  show Calls Tryd.prog 16 #[.agg #[ha.v, .slice At nt ct, .slice A n c, hr.v, hn.v, hh.v, hl.v]] w (Kept (.tuple #[.int .i64 ((txErr nt l).1 : Nat), .int .i64 ((txErr nt l).2 : Nat)]) w)
  have HL := Lib.hid hx.len
  have f1 : n ≤ 9223372036854775807 := hx.fit.2
  have f2 : n ≤ c := hx.fit.1
  have f3 : nt ≤ 9223372036854775807 := ht.2
  obtain ⟨i0, hi0, hz0, hz1, hz2⟩ := info_parts info_text
  have hB0 := (Below.refl w.heap.size w).alloc (Nat.le_refl _) (.cells #[ha.v, .slice At nt ct, .slice A n c, hr.v, hn.v, hh.v, hl.v] 30)
  have hb0 := Blk.new w 30 #[ha.v, .slice At nt ct, .slice A n c, hr.v, hn.v, hh.v, hl.v]
  by_cases h8 : 64 < n
  · have HF : Hid (txErr nt l = (0, 2)) := by show _ = _; unfold txErr; rw [if_pos (by have : l.length = n := HL.out; omega)]
    go_enter Tryd.func16, Tryd.ntmps16
    go_wp2
    go_ret2
    exact ⟨ret_p HF.out rfl rfl, hB0⟩
  cases h9 : (n == 0) != (nt == 0) with
  | true =>
    have HF : Hid (txErr nt l = (0, 15)) := by show _ = _; unfold txErr; rw [if_neg (by have : l.length = n := HL.out; omega), HL.out, h9]; rfl
    have E9 : (((n : Int) == 0) == ((nt : Int) == 0)) = false := eq0_ne h9
    clear h9
    go_enter Tryd.func16, Tryd.ntmps16
    go_wp2
    go_ret2
    exact ⟨ret_p HF.out rfl rfl, hB0⟩
  | false =>
    have E9 : (((n : Int) == 0) == ((nt : Int) == 0)) = true := eq0_eq h9
    have H9 : Hid (((l.length == 0) != (nt == 0)) = false) := by show _ = _; rw [HL.out]; exact h9
    clear h9
    go_enter Tryd.func16, Tryd.ntmps16
    go_wp2
    clear E9
    go_loopw [4, 26] (fun ev iv wr => ∃ k : Nat, k ≤ n ∧ iv = .int .i64 k ∧ ev = .int .i64 (endB l k) ∧ Below w.heap.size w wr ∧ Blk wr w.heap.size 30 #[ha.v, .slice At nt ct, .slice A n c, hr.v, hn.v, hh.v, hl.v] ∧ Hid (∀ j, j < k → txF nt l j = 0)) (fun _ iv _ => n - (intOf iv).toNat)
    case atStart => exact ⟨0, by omega, rfl, rfl, hB0, hb0, fun j hj => by omega⟩
    case round =>
      obtain ⟨k, hk, rfl, rfl, hB, hbx, hinv⟩ := hrel
      by_cases hlt : k < n
      · obtain ⟨g, o, ⟨A', n', c'⟩, hk', e0, hg, hok', c0, c1, c2, c3⟩ := (hx.under hB).at_ hlt
        have e0 : A = some ⟨g, o, none⟩ := e0
        subst e0
        have HF := Lib.hid (txF_at (m := nt) hk')
        have HE := Lib.hid (endB_succ hk')
        have HA := Lib.hid (fun h => txErr_at (m := nt) (l := l) (k := k) (by have : l.length = n := HL.out; omega) H9.out hk' hinv.out h)
        have hks : Keys w w.heap.size ⟨A', n', c'⟩ l[k].ks := by
          obtain ⟨g3, o3, ⟨A3, n3, c3'⟩, _, e3, _, hok3, _, _, _, d3⟩ := hx.at_ hlt
          cases e3
          have e := ((World.cell?_of_block (a := ⟨g, o + k * 4 + 3, none⟩) (hB.block g hg)).trans d3).symm.trans c3
          cases e
          exact hok3.2.2.2
        have z0 : l[k].nm.length ≤ 9223372036854775807 := hok'.1
        have r1 : Rng l[k].b := hok'.2.1
        have r2 : Rng l[k].e := hok'.2.2.1
        clear hok'
        obtain ⟨⟨x, b, e, ks⟩, hx'⟩ : ∃ p, l[k] = p := ⟨_, rfl⟩
        rw [hx'] at HF HE c0 c1 c2 z0 r1 r2 hks
        have HX : Hid (l[k].nm = x) := by show _ = _; rw [hx']
        clear hx'
        have hBa := hB.alloc hB.size (.cells #[str x, .int .i64 b, .int .i64 e, .slice A' n' c'] 61)
        have hpa := Blk.new wr 61 #[str x, .int .i64 b, .int .i64 e, .slice A' n' c']
        have hbxa := hbx.alloc (.cells #[str x, .int .i64 b, .int .i64 e, .slice A' n' c'] 61)
        have b01 := hbxa.cell 1
        have b02 := hbxa.cell 2
        have b00 := hbxa.cell 0
        have b03 := hbxa.cell 3
        have b04 := hbxa.cell 4
        have b05 := hbxa.cell 5
        have b06 := hbxa.cell 6
        go_wp2_with fail
        refine (validName_any x z0 _).mono ?_
        rintro e' w1 ⟨rfl, rfl⟩
        cases hok : okName x with
        | false =>
          have HF2 := Lib.hid (HF.out.trans (if_pos hok))
          have HF3 : Hid (txErr nt l = (k, 4)) := by show _ = _; rw [HA.out (by rw [HF2.out]; simp), HF2.out]
          clear hok HF HA HF2
          go_wp2
          go_ret2
          exact ⟨ret_p HF3.out rfl rfl, hBa⟩
        | true =>
          have HF2 := Lib.hid (HF.out.trans (if_neg (by rw [hok]; simp)))
          clear hok HF
          have HT := findText_any ⟨ha, ⟨At, nt, ct⟩, ⟨some ⟨g, o, none⟩, n, c⟩, hr, hn, hh, hl⟩ l x (wr.alloc (.cells #[str x, .int .i64 b, .int .i64 e, .slice A' n' c'] 61)) ((hx.under hBa).up hBa.size)
          go_wp2_with fail
          refine HT.mono ?_
          rintro e' w2 ⟨rfl, hb2⟩
          clear HT
          have hB2 := hBa.trans (hb2.mono hBa.size)
          have hbx2 := hbxa.below hb2
          have hp2 := hpa.below hb2
          have p1 := hp2.cell 1
          have p2 := hp2.cell 2
          have p3 := hp2.cell 3
          have q1 := hbx2.cell 1
          have q2 := hbx2.cell 2
          clear b01 b02
          cases hany : (l.take k).any (fun u => u.nm == x) with
          | true =>
            have hlt2 := findT_dup hany
            have HF3 := Lib.hid (HF2.out.trans (if_pos hany))
            have HF4 : Hid (txErr nt l = (k, 5)) := by show _ = _; rw [HA.out (by rw [HF3.out]; simp), HF3.out]
            clear HF2 HF3 HA hany
            go_wp2
            go_ret2
            exact ⟨ret_p HF4.out rfl rfl, hB2⟩
          | false =>
            have hlt2 := findT_new hk' HX.out hany
            have HF2 := Lib.hid (HF2.out.trans (if_neg (by rw [hany]; simp)))
            clear hany
            by_cases e1 : b = endB l k
            · by_cases e2 : b < e
              · by_cases e3 : e ≤ (nt : Int)
                · by_cases e4 : k + 1 = n ∧ e ≠ (nt : Int)
                  · have HF3 := Lib.hid (HF2.out.trans (if_pos (.inr (.inr (.inr ⟨by have : l.length = n := HL.out; omega, e4.2⟩)))))
                    have HF4 : Hid (txErr nt l = (k, 8)) := by show _ = _; rw [HA.out (by rw [HF3.out]; simp), HF3.out]
                    have E1 := bne_f e1
                    have E4 : ((k : Int) == (n : Int) - 1) = true := by rw [beq_iff_eq]; omega
                    have E5 := bne_t e4.2
                    clear HF2 HF3 HA e1 e4
                    go_wp2
                    go_ret2
                    exact ⟨ret_p HF4.out rfl rfl, hB2⟩
                  · have HF3 := Lib.hid (HF2.out.trans (if_neg (by rintro (h | h | h | ⟨h, h2⟩); exact h e1; omega; omega; exact e4 ⟨by have : l.length = n := HL.out; omega, h2⟩)))
                    have E1 := bne_f e1
                    have PK := (hks.under hB2).up hB2.size
                    have fin : ∀ P : Prop, P → P := fun _ h => h
                    clear fin
                    by_cases e5 : k + 1 = n
                    · have e6 : e = (nt : Int) := Classical.byContradiction fun h => e4 ⟨e5, h⟩
                      have E4 : ((k : Int) == (n : Int) - 1) = true := by rw [beq_iff_eq]; omega
                      have E5 := bne_f e6
                      clear HF2 e1 e4 e5 e6
                      go_wp2_with fail
                      refine (pairs_any A' n' c' ks _ PK).mono ?_
                      rintro e' w4 ⟨rfl, hb4⟩
                      have hB5 := hB2.trans (hb4.mono hB2.size)
                      have hbx5 := hbx2.below hb4
                      have hp5 := (hp2.below hb4).cell 2
                      by_cases hv : prErr ks = 0
                      · have E6 : ((prErr ks : Int) != 0) = false := by rw [hv]; rfl
                        have HI : Hid (∀ i, i < k + 1 → txF nt l i = 0) := upto_step hinv.out (by rw [HF3.out, hv])
                        clear hv HF3 HA
                        go_wp2
                        go_roundw
                        case rel => exact ⟨k + 1, by omega, by go_num, by rw [HE.out], hB5, hbx5, HI⟩
                        case measure => simp [intOf]; omega
                      · have E6 : ((prErr ks : Int) != 0) = true := by rw [bne_iff_ne]; omega
                        have HF4 : Hid (txErr nt l = (k, prErr ks)) := by show _ = _; rw [HA.out (by rw [HF3.out]; exact hv), HF3.out]
                        clear hv HF3 HA
                        go_wp2
                        go_ret2
                        exact ⟨ret_p HF4.out rfl rfl, hB5⟩
                    · have E4 : ((k : Int) == (n : Int) - 1) = false := by rw [beq_eq_false_iff_ne]; omega
                      clear HF2 e1 e4 e5
                      go_wp2_with fail
                      refine (pairs_any A' n' c' ks _ PK).mono ?_
                      rintro e' w4 ⟨rfl, hb4⟩
                      have hB5 := hB2.trans (hb4.mono hB2.size)
                      have hbx5 := hbx2.below hb4
                      have hp5 := (hp2.below hb4).cell 2
                      by_cases hv : prErr ks = 0
                      · have E6 : ((prErr ks : Int) != 0) = false := by rw [hv]; rfl
                        have HI : Hid (∀ i, i < k + 1 → txF nt l i = 0) := upto_step hinv.out (by rw [HF3.out, hv])
                        clear hv HF3 HA
                        go_wp2
                        go_roundw
                        case rel => exact ⟨k + 1, by omega, by go_num, by rw [HE.out], hB5, hbx5, HI⟩
                        case measure => simp [intOf]; omega
                      · have E6 : ((prErr ks : Int) != 0) = true := by rw [bne_iff_ne]; omega
                        have HF4 : Hid (txErr nt l = (k, prErr ks)) := by show _ = _; rw [HA.out (by rw [HF3.out]; exact hv), HF3.out]
                        clear hv HF3 HA
                        go_wp2
                        go_ret2
                        exact ⟨ret_p HF4.out rfl rfl, hB5⟩
                · have HF3 := Lib.hid (HF2.out.trans (if_pos (.inr (.inr (.inl (by omega))))))
                  have HF4 : Hid (txErr nt l = (k, 8)) := by show _ = _; rw [HA.out (by rw [HF3.out]; simp), HF3.out]
                  have E1 := bne_f e1
                  clear HF2 HF3 HA e1
                  go_wp2
                  go_ret2
                  exact ⟨ret_p HF4.out rfl rfl, hB2⟩
              · have HF3 := Lib.hid (HF2.out.trans (if_pos (.inr (.inl (by omega)))))
                have HF4 : Hid (txErr nt l = (k, 8)) := by show _ = _; rw [HA.out (by rw [HF3.out]; simp), HF3.out]
                have E1 := bne_f e1
                clear HF2 HF3 HA e1
                go_wp2
                go_ret2
                exact ⟨ret_p HF4.out rfl rfl, hB2⟩
            · have HF3 := Lib.hid (HF2.out.trans (if_pos (.inl e1)))
              have HF4 : Hid (txErr nt l = (k, 8)) := by show _ = _; rw [HA.out (by rw [HF3.out]; simp), HF3.out]
              have E1 := bne_t e1
              clear HF2 HF3 HA e1
              go_wp2
              go_ret2
              exact ⟨ret_p HF4.out rfl rfl, hB2⟩
      · have HF : Hid (txErr nt l = (0, 0)) := txErr_zero (by have : l.length = n := HL.out; omega) H9.out (fun j hj => hinv.out j (by have : l.length = n := HL.out; omega))
        clear hinv
        go_wp2
        go_ret2
        exact ⟨ret_p HF.out rfl rfl, hB⟩

end Go.Proofs.YtgkdaebiefhgdaaDoor
