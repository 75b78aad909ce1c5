/-
  The contract of the scanner's key. Conditions: the text has at most 2 to the 44th bytes; the keys read so far are at most eight, in a block of their own.
-/
import Derived.Test.YteccopnlpllliaaMarkPair
namespace Go.Proofs.Yteccopnlpllliaa
open Go.RowKit Utf Tagp
open Feat (Bs)
attribute [local go_sem] byte_mk ByteArray.extract_mk

theorem Sl.grown {w w' : World} {B g sz n : Nat} {A : Option Addr} {xs : List Value} (h : Sl w B sz A n xs) (hB : B ≤ w.heap.size) (hg : w.grownBy w' (some g)) (hne : ∀ ga o, A = some ⟨ga, o, none⟩ → ga ≠ g) : Sl w' B sz A n xs := by
  refine ⟨h.1, fun hp => ?_⟩
  obtain ⟨ga, o, e, hl, hc⟩ := h.2 hp
  exact ⟨ga, o, e, hl, fun j u hj => (World.cell?_of_block (hg.block ga (Nat.lt_of_lt_of_le hl hB) (fun h => hne ga o e (by cases h; rfl)))).trans (hc j u hj)⟩
theorem Sl.up {w : World} {B B' sz n : Nat} {A : Option Addr} {xs : List Value} (h : Sl w B sz A n xs) (hB : B ≤ B') : Sl w B' sz A n xs := by
  refine ⟨h.1, fun hp => ?_⟩
  obtain ⟨ga, o, e, hl, hc⟩ := h.2 hp
  exact ⟨ga, o, e, Nat.lt_of_lt_of_le hl hB, hc⟩
theorem grown_alloc {w : World} {row : Option Nat} (o : Obj) : w.grownBy (w.alloc o) row := ⟨rfl, rfl, rfl, (Nat.le_of_lt (by rw [World.size_alloc]; omega)), fun k hk _ => Below.heap_alloc w o k hk⟩
theorem Blk.grown {w w' : World} {g k : Nat} {t : TypeId} {cs : Array Value} (h : Blk w k t cs) (hg : w.grownBy w' (some g)) (hk : k ≠ g) : Blk w' k t cs := (hg.block k h.lt (fun e => hk (by cases e; rfl))).trans h
theorem Blk.below {w w' : World} {k : Nat} {t : TypeId} {cs : Array Value} (h : Blk w k t cs) (hb : Below w.heap.size w w') : Blk w' k t cs := (hb.block k h.lt).trans h
theorem nameP_le {s : Bs} {i j : Nat} {n : Bs} (hi : i ≤ s.length) (h : nameP s i = .ok (n, j)) : j ≤ s.length ∧ i ≤ j := by
  unfold nameP at h
  split at h
  · split at h
    · cases h
    · cases h; exact ⟨run_le gon s i hi, run_ge gon s i⟩
  · cases h
theorem eatP_le {s : Bs} {c : UInt8} {i j : Nat} (h : eatP s c i = .ok j) : j ≤ s.length ∧ j = i + 1 := by
  unfold eatP at h
  split at h
  · rename_i hc
    have := (List.getElem?_eq_some_iff.1 hc).1
    cases h; exact ⟨this, rfl⟩
  · cases h
theorem size_pair : (Try.prog.info? 52).map (·.size) = some (#[str [], str []] : Array Value).size := by kernel_rfl
/-- A change above the first world is nothing to it. -/
theorem grown_two {w w1 w2 : World} {row : Option Nat} (h : w.grownBy w1 row) (h1 : w2.os = w1.os) (h2 : w2.tape = w1.tape) (h3 : w2.output = w1.output) (h4 : w1.heap.size ≤ w2.heap.size) (h5 : ∀ k, k < w.heap.size → w2.heap[k]? = w1.heap[k]?) : w.grownBy w2 row :=
  ⟨h1.trans h.os, h2.trans h.tape, h3.trans h.output, Nat.le_trans h.size h4, fun k hk hr => (h5 k hk).trans (h.block k hk hr)⟩
set_option maxRecDepth 100000 in
set_option maxHeartbeats 1600000 in
theorem key_scan (s : Bs) (g i : Nat) (w : World) (A : Option Addr) (n c : Nat) (l : List KV) (hs : s.length ≤ 17592186044416) (hi : i ≤ s.length) (h : At w g s i) (hl8 : l.length ≤ 8) (hsl : Sl w w.heap.size 2 A n (prs l))
    (hne : ∀ ga o, A = some ⟨ga, o, none⟩ → ga ≠ g) :
    Calls Try.prog 55 #[.pointer (some ⟨g, 0, none⟩), .slice A n c] w (Scan s g w (keyP s l i) fun p v _ => v = .agg #[str p.1, str p.2]) := by
  have hln : l.length = n := by have := hsl.1; rw [prs_len] at this; omega
  have hgl : g < w.heap.size := Blk.lt h
  have hal : ∀ o, At (w.alloc o) g s i := fun o => h.below ((Below.refl _ w).alloc (Nat.le_refl _) o)
  have k1 := fun o => (hal o).c1
  have HE : Hid (keyP s l i = match nameP s i with
    | .error e => .error e
    | .ok (n, j) =>
      if hasK l n = true then .error (i, 5)
      else if l.length = 8 then .error (i, 2)
      else match eatP s 61 j with
      | .error e => .error e
      | .ok j => match eatP s 34 j with
        | .error e => .error e
        | .ok j => match valueP s j with
          | .error e => .error e
          | .ok (v, j) => .ok ((n, v), j)) := rfl
  go_enter Try.func55, Try.ntmps55
  go_wp2_with fail
  refine (name_any s g i _ (by omega) hi (hal _)).mono ?_
  rintro e w1 ⟨hg1, hm⟩
  have hgw : w.grownBy w1 (some g) := (grown_alloc _).trans hg1
  have hres1 := (Blk.new w 52 #[str [], str []]).grown hg1 (by omega)
  clear hal k1
  cases hN : nameP s i with
  | error p =>
    rw [hN] at hm
    simp only at hm
    subst hm
    have HF : Hid (keyP s l i = .error p) := by show _ = _; rw [HE.out, hN]
    clear hN
    unfold fault
    go_wp2
    refine ⟨rfl, hgw, ?_⟩
    rw [HF.out]
    rfl
  | ok q =>
    obtain ⟨nm, j⟩ := q
    rw [hN] at hm
    simp only at hm
    obtain ⟨hat1, v, rfl, rfl⟩ := hm
    obtain ⟨hjs, hij⟩ := nameP_le hi hN
    have HF := Lib.hid (HE.out.trans (by rw [hN]))
    clear hN HE
    simp only at HF
    have hsl1 : Sl w1 w1.heap.size 2 A n (prs l) := (hsl.grown (Nat.le_refl _) hgw hne).up hgw.size
    go_wp2_with fail
    refine (has_any A n c l nm _ (by omega) hsl1).mono ?_
    rintro e w2 ⟨rfl, hb2⟩
    have hgw2 := hgw.trans (grown_below hb2)
    have hat2 := hat1.below hb2
    have hres2 := hres1.below hb2
    cases hH : hasK l nm with
    | true =>
      have HF2 := Lib.hid (HF.out.trans (by rw [if_pos hH]))
      clear hH
      go_wp2
      refine ⟨rfl, hgw2, ?_⟩
      rw [HF2.out]
      rfl
    | false =>
      have HF2 := Lib.hid (HF.out.trans (by rw [if_neg (by rw [hH]; simp)]))
      clear hH HF
      by_cases h8 : l.length = 8
      · have hd : ((n : Int) == 8) = true := by rw [beq_iff_eq]; omega
        have HF3 := Lib.hid (HF2.out.trans (by rw [if_pos h8]))
        clear h8
        go_wp2
        refine ⟨rfl, hgw2, ?_⟩
        rw [HF3.out]
        rfl
      · have hd : ((n : Int) == 8) = false := by rw [beq_eq_false_iff_ne]; omega
        have HF3 := Lib.hid (HF2.out.trans (by rw [if_neg h8]))
        clear h8 HF2
        go_wp2_with fail
        refine (eat_any s g j 61 _ (by omega) hjs hat2).mono ?_
        rintro e w3 ⟨hg3, hm⟩
        have hgw3 := hgw2.trans hg3
        have hres3 := hres2.grown hg3 (by omega)
        cases hE : eatP s 61 j with
        | error p =>
          rw [hE] at hm
          simp only [Except.map] at hm
          subst hm
          have HF4 : Hid (keyP s l i = .error p) := by show _ = _; rw [HF3.out, hE]
          clear hE
          unfold fault
          go_wp2
          refine ⟨rfl, hgw3, ?_⟩
          rw [HF4.out]
          rfl
        | ok J =>
          rw [hE] at hm
          simp only [Except.map] at hm
          obtain ⟨hat3, v, rfl, rfl⟩ := hm
          obtain ⟨hJs, -⟩ := eatP_le hE
          have HF4 := Lib.hid (HF3.out.trans (by rw [hE]))
          clear hE HF3
          simp only at HF4
          go_wp2_with fail
          refine (eat_any s g J 34 _ (by omega) hJs hat3).mono ?_
          rintro e w4 ⟨hg4, hm⟩
          have hgw4 := hgw3.trans hg4
          have hres4 := hres3.grown hg4 (by omega)
          cases hE : eatP s 34 J with
          | error p =>
            rw [hE] at hm
            simp only [Except.map] at hm
            subst hm
            have HF5 : Hid (keyP s l i = .error p) := by show _ = _; rw [HF4.out, hE]
            clear hE
            unfold fault
            go_wp2
            refine ⟨rfl, hgw4, ?_⟩
            rw [HF5.out]
            rfl
          | ok K =>
            rw [hE] at hm
            simp only [Except.map] at hm
            obtain ⟨hat4, v, rfl, rfl⟩ := hm
            obtain ⟨hKs, -⟩ := eatP_le hE
            have HF5 := Lib.hid (HF4.out.trans (by rw [hE]))
            clear hE HF4
            simp only at HF5
            go_wp2_with fail
            refine (value_scan s g K _ hs hKs hat4).mono ?_
            rintro e w5 ⟨hg5, hm⟩
            have hgw5 := hgw4.trans hg5
            have hres5 := hres4.grown hg5 (by omega)
            cases hE : valueP s K with
            | error p =>
              rw [hE] at hm
              simp only at hm
              subst hm
              have HF6 : Hid (keyP s l i = .error p) := by show _ = _; rw [HF5.out, hE]
              clear hE
              unfold fault
              go_wp2
              refine ⟨rfl, hgw5, ?_⟩
              rw [HF6.out]
              rfl
            | ok q =>
              obtain ⟨vl, L⟩ := q
              rw [hE] at hm
              simp only at hm
              obtain ⟨hat5, v, rfl, rfl⟩ := hm
              have HF6 : Hid (keyP s l i = .ok ((nm, vl), L)) := by show _ = _; rw [HF5.out, hE]
              clear hE HF5
              have r0 := hres5.cell 0
              have r1 := hres5.cell 1
              have f0 := hres5.free 0
              have f1 := hres5.free 1
              have blk6 : Blk ((w5.setCell ⟨w.heap.size, 0, none⟩ (str nm)).setCell ⟨w.heap.size, 1, none⟩ (str vl)) w.heap.size 52 #[str nm, str vl] := (hres5.set_ 0 _).set_ 1 _
              have hgw6 := grown_two hgw5 (w2 := (w5.setCell ⟨w.heap.size, 0, none⟩ (str nm)).setCell ⟨w.heap.size, 1, none⟩ (str vl)) rfl rfl rfl (by simp) (fun k hk => (setCell_block (by show k ≠ w.heap.size; omega)).trans (setCell_block (by show k ≠ w.heap.size; omega)))
              have hat6 : At ((w5.setCell ⟨w.heap.size, 0, none⟩ (str nm)).setCell ⟨w.heap.size, 1, none⟩ (str vl)) g s L := ((setCell_block (by show g ≠ w.heap.size; omega)).trans (setCell_block (by show g ≠ w.heap.size; omega))).trans hat5
              go_wp2
              refine bodyPost_ret (results_cell_row rfl _ _ _ _ _ _ _ rfl blk6 Try.underlying52 rfl size_pair) rfl ?_
              rw [HF6.out]
              exact ⟨hgw6, hat6, _, rfl, rfl⟩
end Go.Proofs.Yteccopnlpllliaa
