/-
  The contract of the scanner's tag. Condition: the text has at most 2 to the 44th bytes.
-/
import Derived.Test.YteccopnlpllliaaMarkSort
namespace Go.Proofs.Yteccopnlpllliaa
open Go.RowKit Utf Tagp
open Feat (Bs lt)
attribute [local go_sem] byte_mk ByteArray.extract_mk

theorem own_base {w : World} {base base' sz n : Nat} {e : TypeId} {v : Value} {xs : List Value} (h : w.ownsRow base e sz v n xs) (hb : base' ≤ base) : w.ownsRow base' e sz v n xs := by
  refine ⟨h.1, ?_⟩
  rcases h.2 with k | ⟨g, cap, cur, rfl, hg, k⟩
  · exact .inl k
  · exact .inr ⟨g, cap, cur, rfl, Nat.le_trans hb hg, k⟩
theorem own_sl {w : World} {base sz n c : Nat} {A : Option Addr} {e : TypeId} {xs : List Value} (h : w.ownsRow base e sz (.slice A n c) n xs) : Sl w w.heap.size sz A n xs := by
  refine ⟨h.1, fun hp => ?_⟩
  rcases h.2 with ⟨hv, hn⟩ | ⟨g, cap, cur, hv, hg, hb, _⟩
  · have := h.1; rw [hn] at this; simp at this; rw [this] at hp; simp at hp
  · cases hv
    refine ⟨g, 0, rfl, (Array.getElem?_eq_some_iff.1 hb).1, fun j u hj => ?_⟩
    have ea : (⟨g, 0, none⟩ : Addr).add j = ⟨g, 0 + j, none⟩ := by unfold Addr.add; split <;> simp_all
    rw [← ea]
    exact h.cells rfl j u hj
theorem own_slc {w : World} {base sz n : Nat} {v : Value} {e : TypeId} {xs : List Value} (h : w.ownsRow base e sz v n xs) : ∃ A c, v = .slice A n c ∧ (∀ ga o, A = some ⟨ga, o, none⟩ → base ≤ ga) := by
  rcases h.2 with ⟨hv, hn⟩ | ⟨g, cap, cur, hv, hg, hb, _⟩
  · exact ⟨none, 0, by rw [hn]; exact hv, fun _ _ e => by cases e⟩
  · exact ⟨_, _, hv, fun ga o e => by cases e; exact hg⟩

/-- What tag ends with: a tag whose keys lie in memory of their own, or a fault. -/
def Tagged (s : Bs) (g : Nat) (w : World) (e : Ending) (w' : World) : Prop :=
  w.grownBy w' (some g) ∧ match tagP s with
    | .ok (cl, nm, l) => ∃ v, e = .returned (.agg #[.bool cl, str nm, v]) ∧ w'.ownsRow w.heap.size 52 2 v l.length (prs l)
    | .error p => e = fault p

/-- Amid the reading: the place, and the tag so far. -/
def Mid (w wr : World) (g : Nat) (s : Bs) (j : Nat) (cl : Bool) (nm : Bs) (v : Value) : Prop :=
  w.grownBy wr (some g) ∧ At wr g s j ∧ Blk wr w.heap.size 33 #[.bool false, str [], .slice none 0 0] ∧ Blk wr (w.heap.size + 1) 33 #[.bool cl, str nm, v]
theorem Mid.start {w : World} {g : Nat} {s : Bs} {j : Nat} (h : At w g s j) : Mid w ((w.alloc (.cells #[.bool false, str [], .slice none 0 0] 33)).alloc (.cells #[.bool false, str [], .slice none 0 0] 33)) g s j false [] (.slice none 0 0) := by
  have e : (w.alloc (.cells #[.bool false, str [], .slice none 0 0] 33)).heap.size = w.heap.size + 1 := by simp
  refine ⟨(grown_alloc _).trans (grown_alloc _), Blk.alloc (Blk.alloc h _) _, (Blk.new w _ _).alloc _, ?_⟩
  have := Blk.new (w.alloc (.cells #[.bool false, str [], .slice none 0 0] 33)) 33 #[.bool false, str [], .slice none 0 0]
  rwa [e] at this
theorem Mid.grown {w wr wx : World} {g : Nat} {s : Bs} {j k : Nat} {cl : Bool} {nm : Bs} {v : Value} (h : Mid w wr g s j cl nm v) (hg : g < w.heap.size) (hgr : wr.grownBy wx (some g)) (hat : At wx g s k) : Mid w wx g s k cl nm v :=
  ⟨h.1.trans hgr, hat, h.2.2.1.grown hgr (by omega), h.2.2.2.grown hgr (by omega)⟩
/-- A change in blocks of the call's own that are neither. -/
theorem Mid.over {w wr wx : World} {g : Nat} {s : Bs} {j : Nat} {cl : Bool} {nm : Bs} {v : Value} {row : Option Nat} (h : Mid w wr g s j cl nm v) (hg : g < w.heap.size) (hgr : wr.grownBy wx row) (hr : ∀ b, row = some b → w.heap.size + 2 ≤ b) : Mid w wx g s j cl nm v := by
  have hk : ∀ k, k < w.heap.size + 2 → k < wr.heap.size → wx.heap[k]? = wr.heap[k]? := fun k hk hlt => hgr.block k hlt (fun e => by have := hr k e.symm; omega)
  refine ⟨grown_two h.1 hgr.os hgr.tape hgr.output hgr.size (fun k hk' => hk k (by omega) (by have := h.1.size; omega)), ?_, ?_, ?_⟩
  · exact (hk g (by omega) (Blk.lt h.2.1)).trans h.2.1
  · exact (hk _ (by omega) (Blk.lt h.2.2.1)).trans h.2.2.1
  · exact (hk _ (by omega) (Blk.lt h.2.2.2)).trans h.2.2.2
theorem Mid.set_ {w wr : World} {g : Nat} {s : Bs} {j : Nat} {cl cl' : Bool} {nm nm' : Bs} {v v' : Value} (h : Mid w wr g s j cl nm v) (hg : g < w.heap.size) (k : Nat) (u : Value) (hu : (#[.bool cl, str nm, v] : Array Value).setIfInBounds k u = #[.bool cl', str nm', v']) :
    Mid w (wr.setCell ⟨w.heap.size + 1, k, none⟩ u) g s j cl' nm' v' := by
  refine ⟨grown_two h.1 rfl rfl rfl (by simp) (fun i hi => setCell_block (by show i ≠ w.heap.size + 1; omega)), (setCell_block (by show g ≠ w.heap.size + 1; omega)).trans h.2.1, (setCell_block (by show w.heap.size ≠ w.heap.size + 1; omega)).trans h.2.2.1, ?_⟩
  have := h.2.2.2.set_ k u
  rwa [hu] at this
theorem Mid.move {w wr : World} {g : Nat} {s : Bs} {j : Nat} {cl : Bool} {nm : Bs} {v : Value} (h : Mid w wr g s j cl nm v) (hg : g < w.heap.size) (k : Nat) : Mid w (wr.setCell ⟨g, 1, none⟩ (.int .i64 (k : Nat))) g s k cl nm v :=
  h.grown hg (grown_move _) (h.2.1.move k)
theorem Mid.drewN {w wr : World} {g : Nat} {s : Bs} {j : Nat} {cl : Bool} {nm : Bs} {v : Value} (h : Mid w wr g s j cl nm v) (q : Nat) : Mid w (wr.drewN q) g s j cl nm v := ⟨h.1.trans (grown_drewN q), h.2⟩

theorem keyP_len {s : Bs} {l : List KV} {i j : Nat} {p : KV} (h : keyP s l i = .ok (p, j)) : l.length ≠ 8 := by
  intro h8
  unfold keyP at h
  split at h
  · cases h
  · split at h <;> (try rw [if_pos h8] at h) <;> cases h
theorem valueP_le {s : Bs} {i j : Nat} {v : Bs} (h : valueP s i = .ok (v, j)) : j ≤ s.length := by
  unfold valueP at h
  split at h
  · cases h
  · rename_i k hk
    have := (eatP_le hk).1
    split at h
    split at h
    · cases h
    · split at h
      · cases h
      · cases h; exact this
theorem keyP_le {s : Bs} {l : List KV} {i j : Nat} {p : KV} (h : keyP s l i = .ok (p, j)) : j ≤ s.length := by
  unfold keyP at h
  split at h
  · cases h
  · split at h
    · cases h
    · split at h
      · cases h
      · split at h
        · cases h
        · split at h
          · cases h
          · split at h
            · cases h
            · rename_i hv
              cases h; exact valueP_le hv
theorem keysP_go {s : Bs} {acc : List KV} {i j : Nat} {p : KV} (hi : s[i]? = some 32) (h : keyP s acc (run (· == 32) s i) = .ok (p, j)) : keysP s (9 - acc.length) acc i = keysP s (9 - (acc ++ [p]).length) (acc ++ [p]) j ∨ 9 ≤ acc.length := by
  rcases Nat.lt_or_ge acc.length 9 with hl | hl
  · left
    rw [show 9 - acc.length = (9 - (acc ++ [p]).length) + 1 by simp; omega, keysP, if_pos hi, h]
  · exact .inr hl
theorem keysP_stop {s : Bs} {acc : List KV} {i : Nat} (k : Nat) (hi : s[i]? ≠ some 32) : keysP s k acc i = .ok (acc, i) := by
  cases k with
  | zero => rfl
  | succ k => rw [keysP, if_neg hi]
theorem keysP_bad {s : Bs} {acc : List KV} {i : Nat} {p : Nat × Nat} (hl : acc.length < 9) (hi : s[i]? = some 32) (h : keyP s acc (run (· == 32) s i) = .error p) : keysP s (9 - acc.length) acc i = .error p := by
  rw [show 9 - acc.length = (8 - acc.length) + 1 by omega, keysP, if_pos hi, h]

def rowLen : Value → Nat | .slice _ n _ => n | _ => 0
theorem size_tag3 : (Try.prog.info? 33).map (·.size) = some 3 := by kernel_rfl

set_option maxRecDepth 100000 in
set_option maxHeartbeats 1600000 in
theorem tag_scan (s : Bs) (g : Nat) (w : World) (hs : s.length ≤ 17592186044416) (h : At w g s 0) :
    Calls Try.prog 41 #[.pointer (some ⟨g, 0, none⟩)] w (Tagged s g w) := by
  have hgl : g < w.heap.size := Blk.lt h
  obtain ⟨i0, hi0, hz0, hz1, hz2⟩ := info_parts info_pair
  have HE : Hid (tagP s = match eatP s 60 0 with
    | .error e => .error e
    | .ok _ =>
      match nameP s (if (s[1]? == some 47) = true then 2 else 1) with
      | .error e => .error e
      | .ok (n, i) =>
        match (if (s[1]? == some 47) = true then .ok ([], i) else keysP s 9 [] i) with
        | .error e => .error e
        | .ok (l, i) =>
          match eatP s 62 i with
          | .error e => .error e
          | .ok i => if i < s.length then .error (i, 3) else .ok ((s[1]? == some 47), n, sortP l)) := rfl
  have hmid0 := Mid.start h
  go_enter Try.func41, Try.ntmps41
  go_wp2_with fail
  refine (eat_any s g 0 60 _ (by omega) (Nat.zero_le _) hmid0.2.1).mono ?_
  rintro e w1 ⟨hg1, hm⟩
  cases hN : eatP s 60 0 with
  | error p =>
    rw [hN] at hm
    simp only [Except.map] at hm
    subst hm
    have HF : Hid (tagP s = .error p) := by show _ = _; rw [HE.out, hN]
    clear hN HE
    unfold fault
    go_wp2
    refine ⟨rfl, hmid0.1.trans hg1, ?_⟩
    rw [HF.out]
    rfl
  | ok q =>
    rw [hN] at hm
    simp only [Except.map] at hm
    obtain ⟨hat1, v, rfl, rfl⟩ := hm
    obtain ⟨hl1, rfl⟩ := eatP_le hN
    have HF := Lib.hid (HE.out.trans (by rw [hN]))
    clear hN HE
    simp only at HF
    have hmid1 := hmid0.grown hgl hg1 hat1
    clear hmid0 hg1 hat1
    go_wp2_with fail
    refine (sees_any s g 1 47 _ hl1 hmid1.2.1).mono ?_
    rintro e w2 ⟨rfl, q, rfl⟩
    cases hcl : (s[1]? == some 47) with
    | true =>
      rw [hcl] at HF
      have h2 : 2 ≤ s.length := by
        have := eq_of_beq hcl
        have := (List.getElem?_eq_some_iff.1 this).1
        omega
      clear hcl
      have hmid2 := ((hmid1.drewN q).move hgl 2).set_ (cl' := true) (nm' := []) (v' := .slice none 0 0) hgl 0 (.bool true) rfl
      have c1 := hmid1.2.1.c1
      have cf := hmid1.2.1.free 1
      have d0 := hmid1.2.2.2.cell 0
      have df := hmid1.2.2.2.free 0
      go_wp2_with fail
      refine (name_any s g 2 _ (by omega) h2 hmid2.2.1).mono ?_
      rintro e w3 ⟨hg3, hm⟩
      cases hN : nameP s 2 with
      | error p =>
        rw [hN] at hm
        simp only at hm
        subst hm
        have HF2 : Hid (tagP s = .error p) := by show _ = _; rw [HF.out, if_pos trivial, hN]
        clear hN HF
        unfold fault
        go_wp2
        refine ⟨rfl, hmid2.1.trans hg3, ?_⟩
        rw [HF2.out]
        rfl
      | ok q =>
        obtain ⟨nm, i⟩ := q
        rw [hN] at hm
        simp only at hm
        obtain ⟨hat3, v, rfl, rfl⟩ := hm
        obtain ⟨his, -⟩ := nameP_le h2 hN
        have HF2 := Lib.hid (HF.out.trans (by rw [if_pos trivial, hN]))
        clear hN HF
        simp only at HF2
        have hmid3 := hmid2.grown hgl hg3 hat3
        have d1 := hmid3.2.2.2.cell 1
        have df1 := hmid3.2.2.2.free 1
        have hmid4 := hmid3.set_ (cl' := true) (nm' := nm) (v' := .slice none 0 0) hgl 1 (str nm) rfl
        clear hmid1 hmid2 hg3 hat3 c1 cf d0 df
        go_wp2
        go_loopw [19] (fun _ wr => Mid w wr g s i true nm (.slice none 0 0)) (fun _ _ => 0)
        case atStart => exact hmid4
        case round =>
          clear hmid3 hmid4 d1 df1
          have hmidx := hrel
          clear hrel
          have d0 := hmidx.2.2.2.cell 0
          have HF3 := Lib.hid (HF2.out.trans (by rw [if_pos trivial]))
          clear HF2
          simp only at HF3
          have hownx : wr.ownsRow (w.heap.size + 2) 52 2 (.slice none 0 0) 0 (prs []) := World.ownsRow_nil _ _ _ _
          go_wp2_with fail
          refine (eat_any s g i 62 _ (by omega) his hmidx.2.1).mono ?_
          rintro e w7 ⟨hg7, hm⟩
          cases hE : eatP s 62 i with
          | error p =>
            rw [hE] at hm
            simp only [Except.map] at hm
            subst hm
            have HF4 : Hid (tagP s = .error p) := by show _ = _; rw [HF3.out, hE]
            clear hE HF3
            unfold fault
            go_wp2
            refine ⟨rfl, hmidx.1.trans hg7, ?_⟩
            rw [HF4.out]
            rfl
          | ok J =>
            rw [hE] at hm
            simp only [Except.map] at hm
            obtain ⟨hat7, v, rfl, rfl⟩ := hm
            obtain ⟨hJs, -⟩ := eatP_le hE
            have HF4 := Lib.hid (HF3.out.trans (by rw [hE]))
            clear hE HF3
            simp only at HF4
            have hmid7 := hmidx.grown hgl hg7 hat7
            have hown7 := hownx.kept hg7 (.inr (fun e => by have := (hownx.lt _ e).1; omega))
            have e0 := hmid7.2.1.c0
            have e1 := hmid7.2.1.c1
            by_cases hJl : J < s.length
            · have HF5 : Hid (tagP s = .error (J, 3)) := by show _ = _; rw [HF4.out, if_pos hJl]
              clear HF4
              go_wp2
              go_quiet (fail)
              go_wp2
              refine ⟨rfl, hmid7.1.trans (grown_drewN _), ?_⟩
              rw [HF5.out]
              rfl
            · have HF5 : Hid (tagP s = .ok (true, nm, sortP [])) := by show _ = _; rw [HF4.out, if_neg hJl]
              clear HF4
              have t0 : w7.cell? ⟨w.heap.size + 1, 0, none⟩ = some (.bool true) := hmid7.2.2.2.cell 0
              have t1 : w7.cell? ⟨w.heap.size + 1, 1, none⟩ = some (str nm) := hmid7.2.2.2.cell 1
              have t2 : w7.cell? ⟨w.heap.size + 1, 2, none⟩ = some (.slice none 0 0) := hmid7.2.2.2.cell 2
              go_wp2
              go_quiet (fail)
              go_wp2_with fail
              have hown7d : (w7.drewN nq).ownsRow (w.heap.size + 2) 52 2 (.slice none ([] : List KV).length 0) ([] : List KV).length (prs []) := hown7
              refine (sorted_any none 0 0 [] (w7.drewN nq) (Nat.zero_le _) (own_sl hown7d)).mono ?_
              rintro e w8 ⟨v, rfl, own8, hb8⟩
              obtain ⟨A8, c8, rfl, -⟩ := own_slc own8
              have hmid8 : Mid w w8 g s J true nm _ := (hmid7.drewN nq).over hgl (grown_below (row := none) hb8) (fun b e => by cases e)
              have u0 : w8.cell? ⟨w.heap.size + 1, 0, none⟩ = some (.bool true) := hmid8.2.2.2.cell 0
              have u1 : w8.cell? ⟨w.heap.size + 1, 1, none⟩ = some (str nm) := hmid8.2.2.2.cell 1
              have u2 : w8.cell? ⟨w.heap.size + 1, 2, none⟩ = some (.slice none 0 0) := hmid8.2.2.2.cell 2
              have uf : w8.frozen? ⟨w.heap.size + 1, 2, none⟩ = false := hmid8.2.2.2.free 2
              have r0 : w8.cell? ⟨w.heap.size, 0, none⟩ = some (.bool false) := hmid8.2.2.1.cell 0
              have r1 : w8.cell? ⟨w.heap.size, 1, none⟩ = some (str []) := hmid8.2.2.1.cell 1
              have r2 : w8.cell? ⟨w.heap.size, 2, none⟩ = some (.slice none 0 0) := hmid8.2.2.1.cell 2
              have rf := fun k => hmid8.2.2.1.free k
              go_wp2
              have hmid9 := hmid8.set_ (cl' := true) (nm' := nm) (v' := .slice A8 (sortP []).length c8) hgl 2 _ rfl
              have hb9 := ((hmid9.2.2.1.set_ 0 (.bool true)).set_ 1 (str nm)).set_ 2 (.slice A8 (sortP []).length c8)
              have hne : ∀ (W : World) (k : Nat) (u : Value), W.grownBy (W.setCell ⟨w.heap.size, k, none⟩ u) (some w.heap.size) := fun W k u => ⟨rfl, rfl, rfl, by simp, fun j _ hj => setCell_block (fun e => hj (by rw [e]))⟩
              have hne' : ∀ (W : World) (k : Nat) (u : Value), W.grownBy (W.setCell ⟨w.heap.size + 1, k, none⟩ u) (some (w.heap.size + 1)) := fun W k u => ⟨rfl, rfl, rfl, by simp, fun j _ hj => setCell_block (fun e => hj (by rw [e]))⟩
              have h77 : w.heap.size + 2 ≤ (w7.drewN nq).heap.size := Blk.lt hmid7.2.2.2
              have own9 := own_base own8 h77
              have hob : ∀ k, k < w.heap.size + 2 → (Value.slice A8 (sortP []).length c8).ownBlock = none ∨ (Value.slice A8 (sortP []).length c8).ownBlock ≠ some k := fun k hk => .inr (fun e => by have := (own9.lt _ e).1; omega)
              have own10 := (((own9.kept (hne' w8 2 (.slice A8 (sortP []).length c8)) (hob _ (by omega))).kept (hne _ 0 (.bool true)) (hob _ (by omega))).kept (hne _ 1 (str nm)) (hob _ (by omega))).kept (hne _ 2 (.slice A8 (sortP []).length c8)) (hob _ (by omega))
              have hgr := grown_two hmid9.1 (w2 := (((w8.setCell ⟨w.heap.size + 1, 2, none⟩ (.slice A8 (sortP []).length c8)).setCell ⟨w.heap.size, 0, none⟩ (.bool true)).setCell ⟨w.heap.size, 1, none⟩ (str nm)).setCell ⟨w.heap.size, 2, none⟩ (.slice A8 (sortP []).length c8)) rfl rfl rfl (by simp) (fun k hk => ((setCell_block (by show k ≠ w.heap.size; omega)).trans (setCell_block (by show k ≠ w.heap.size; omega))).trans (setCell_block (by show k ≠ w.heap.size; omega)))
              go_wp2
              refine bodyPost_ret (results_cell_row rfl _ _ _ _ _ _ _ rfl hb9 Try.underlying33 rfl size_tag3) rfl ?_
              refine ⟨hgr, ?_⟩
              rw [HF5.out]
              exact ⟨_, rfl, own_base own10 (by omega)⟩
    | false =>
      rw [hcl] at HF
      clear hcl
      have hmid2 := hmid1.drewN q
      go_wp2_with fail
      refine (name_any s g 1 _ (by omega) hl1 hmid2.2.1).mono ?_
      rintro e w3 ⟨hg3, hm⟩
      cases hN : nameP s 1 with
      | error p =>
        rw [hN] at hm
        simp only at hm
        subst hm
        have HF2 : Hid (tagP s = .error p) := by show _ = _; rw [HF.out, if_neg (by simp), hN]
        clear hN HF
        unfold fault
        go_wp2
        refine ⟨rfl, hmid2.1.trans hg3, ?_⟩
        rw [HF2.out]
        rfl
      | ok q =>
        obtain ⟨nm, i⟩ := q
        rw [hN] at hm
        simp only at hm
        obtain ⟨hat3, v, rfl, rfl⟩ := hm
        obtain ⟨his, -⟩ := nameP_le hl1 hN
        have HF2 := Lib.hid (HF.out.trans (by rw [if_neg (by simp), hN]))
        clear hN HF
        simp only at HF2
        have hmid3 := hmid2.grown hgl hg3 hat3
        have d1 := hmid3.2.2.2.cell 1
        have df1 := hmid3.2.2.2.free 1
        have hmid4 := hmid3.set_ (cl' := false) (nm' := nm) (v' := .slice none 0 0) hgl 1 (str nm) rfl
        clear hmid1 hmid2 hg3 hat3
        go_wp2
        go_loopw [19] (fun _ wr => ∃ (acc : List KV) (j : Nat) (A : Option Addr) (c : Nat), acc.length ≤ 8 ∧ j ≤ s.length ∧ Mid w wr g s j false nm (.slice A acc.length c) ∧ wr.ownsRow (w.heap.size + 2) 52 2 (.slice A acc.length c) acc.length (prs acc) ∧ Hid (keysP s 9 [] i = keysP s (9 - acc.length) acc j)) (fun _ wr => 9 - rowLen ((wr.cell? ⟨w.heap.size + 1, 2, none⟩).getD undef))
        case atStart => exact ⟨[], i, none, 0, Nat.zero_le _, his, hmid4, World.ownsRow_nil _ _ _ _, rfl⟩
        case round =>
          obtain ⟨acc, j, A, c, hacc, hjs, hmid, hown, hkeys⟩ := hrel
          clear hmid3 hmid4 d1 df1
          rename World => wo
          have d0 := hmid.2.2.2.cell 0
          have d2 := hmid.2.2.2.cell 2
          have c1 := hmid.2.1.c1
          go_wp2_with fail
          refine (sees_any s g j 32 _ hjs hmid.2.1).mono ?_
          rintro e w5 ⟨rfl, q, rfl⟩
          cases hsp : (s[j]? == some 32) with
          | true =>
            have HSP := Lib.hid (eq_of_beq hsp)
            clear hsp
            go_wp2
            go_loopw [26] (fun _ wx => ∃ k : Nat, j ≤ k ∧ k ≤ s.length ∧ wo.grownBy wx (some g) ∧ At wx g s k ∧ Hid (run (· == 32) s j = run (· == 32) s k)) (fun _ wx => s.length - (intOf ((wx.cell? ⟨g, 1, none⟩).getD undef)).toNat)
            case atStart => exact ⟨j, Nat.le_refl _, hjs, grown_drewN q, hmid.2.1, rfl⟩
            case round =>
              obtain ⟨k, hjk, hks, hgk, hatk, hrun⟩ := hrel
              have e1 := hatk.c1
              have ef := hatk.free 1
              go_wp2_with fail
              refine (sees_any s g k 32 _ hks hatk).mono ?_
              rintro e w6 ⟨rfl, q2, rfl⟩
              cases hsk : (s[k]? == some 32) with
              | true =>
                have hk : s[k]? = some 32 := eq_of_beq hsk
                obtain ⟨hkl, hke⟩ := List.getElem?_eq_some_iff.1 hk
                have HR := Lib.hid (run_step (p := (· == 32)) hkl (by simp [hke]))
                clear hk hke hsk
                go_wp2
                go_roundw
                case rel =>
                  refine ⟨k + 1, by omega, by omega, hgk.trans ((grown_drewN _).trans (grown_move _)), (hatk.drewN _).move (k + 1), ?_⟩
                  show _ = _
                  rw [hrun.out, HR.out]
                case measure =>
                  have e2 : ((wr.drewN q2).setCell ⟨g, 1, none⟩ (.int .i64 ((k : Int) + 1))).cell? ⟨g, 1, none⟩ = some (.int .i64 ((k + 1 : Nat) : Int)) := ((hatk.drewN q2).move (k + 1)).c1
                  rw [e2, e1]
                  simp [intOf]
                  omega
              | false =>
                have hR : run (· == 32) s j = k := by
                  rw [hrun.out]
                  by_cases hkl : k < s.length
                  · refine run_stop hkl ?_
                    rw [List.getElem?_eq_getElem hkl] at hsk
                    simpa using hsk
                  · exact run_end _ (by omega)
                have hmidk0 := hmid.grown hgl hgk hatk
                have hmidk := hmidk0.drewN q2
                have hownk0 : wr.ownsRow (w.heap.size + 2) 52 2 (.slice A acc.length c) acc.length (prs acc) := hown.kept hgk (.inr (fun e => by have := (hown.lt _ e).1; omega))
                have hownk : (wr.drewN q2).ownsRow (w.heap.size + 2) 52 2 (.slice A acc.length c) acc.length (prs acc) := hownk0
                have hge : ∀ ga o, A = some ⟨ga, o, none⟩ → ga ≠ g := by
                  intro ga o e
                  have := (hown.lt ga (by rw [e]; rfl)).1
                  omega
                have dk2 := hmidk0.2.2.2.cell 2
                have dkf := hmidk0.2.2.2.free 2
                have hmidw : Mid w (wr.drewN (q2 + 1)) g s k false nm (.slice A acc.length c) := hmidk0.drewN (q2 + 1)
                have hownw : (wr.drewN (q2 + 1)).ownsRow (w.heap.size + 2) 52 2 (.slice A acc.length c) acc.length (prs acc) := hownk0
                have hexK := key_scan s g k _ A acc.length c acc hs hks hmidw.2.1 hacc (own_sl hownw) hge
                cases hK : keyP s acc k with
                | error p =>
                  have hexE : Calls Try.prog 55 #[.pointer (some ⟨g, 0, none⟩), .slice A acc.length c] (wr.drewN (q2 + 1)) (fun e w7 => e = .panicked [{ v := .iface 59 (.agg #[.int .i64 (p.1 : Nat), .int .i64 (p.2 : Nat)]), recovered := false }] ∧ (wr.drewN (q2 + 1)).grownBy w7 (some g)) := hexK.mono (by
                    rintro e w7 ⟨hg7, hm⟩
                    rw [hK] at hm
                    exact ⟨hm, hg7⟩)
                  have hend : ∀ w7, (wr.drewN (q2 + 1)).grownBy w7 (some g) → Tagged s g w (fault p) w7 := by
                    intro w7 hg7
                    have hF : tagP s = .error p := by
                      rw [HF2.out, if_neg (by simp), hkeys.out, keysP_bad (by omega) HSP.out (by rw [hR]; exact hK)]
                    refine ⟨hmidw.1.trans hg7, ?_⟩
                    rw [hF]
                  clear hexK
                  go_wp2
                  go_region_law (go_simp; refine hexE.mono ?_; rintro e w7 ⟨rfl, hg7⟩; go_simp; suffices _h : wpAny Try.prog Region.Mode.any #[] (fun _ _ _ => True) 0 #[] ⟨#[], []⟩ w7 from (show bodyPost Try.prog Try.f41 (Tagged s g w) (Exit.panic _) _ _ from ⟨rfl, hend w7 hg7⟩))
                  all_goals trivial
                | ok r =>
                  obtain ⟨p, L⟩ := r
                  have hexE : Calls Try.prog 55 #[.pointer (some ⟨g, 0, none⟩), .slice A acc.length c] (wr.drewN (q2 + 1)) (fun e w7 => e = .returned (.agg #[str p.1, str p.2]) ∧ Mid w w7 g s L false nm (.slice A acc.length c) ∧ w7.ownsRow (w.heap.size + 2) 52 2 (.slice A acc.length c) acc.length (prs acc)) := hexK.mono (by
                    rintro e w7 ⟨hg7, hm⟩
                    rw [hK] at hm
                    obtain ⟨hat7, v, rfl, rfl⟩ := hm
                    exact ⟨rfl, hmidw.grown hgl hg7 hat7, hownw.kept hg7 (.inr (fun e => by have := (hownw.lt _ e).1; omega))⟩)
                  clear hexK
                  go_wp2
                  go_region_law (first
                    | (go_simp; refine hexE.mono ?_; rintro e w7 ⟨rfl, hmid7, hown7⟩; have d72 : w7.cell? ⟨w.heap.size + 1, 2, none⟩ = some (.slice A acc.length c) := hmid7.2.2.2.cell 2; have d7a : ∀ o, (w7.alloc o).cell? ⟨w.heap.size + 1, 2, none⟩ = some (.slice A acc.length c) := fun o => (hmid7.2.2.2.alloc o).cell 2; have d7f : w7.frozen? ⟨w.heap.size + 1, 2, none⟩ = false := hmid7.2.2.2.free 2; go_simp)
                    | ((refine step_app _ rfl (.tmp 36) (.tmp 41) _ rfl (w.heap.size + 2) 52 i0 _ 2 32 Try.underlying31 hi0 hz0 hz1 hz2 rfl (by decide) (.slice A acc.length c) acc.length (prs acc) (by simp [Act.eval]) (hown7.alloc _) (some ⟨w7.heap.size, 0, none⟩) 1 1 [str p.1, str p.2] (by simp [Act.eval]) rfl (fun _ => ⟨_, rfl, news_two rfl⟩) (prs_one [p]) (by simp [maxLen]; omega) (by omega) (by have := hmid7.1.size; have := Blk.lt hmid7.2.2.2; simp; omega) ?_; intro v8 w8 own8 gr8 ob8; obtain ⟨A8, c8, rfl, hA8⟩ := own_slc own8; have hmid8 := (hmid7.over hgl (grown_alloc (row := none) _) (fun b e => by cases e)).over hgl gr8 (fun b e => (hown7.lt b e).1); have d82 : w8.cell? ⟨w.heap.size + 1, 2, none⟩ = some (.slice A acc.length c) := hmid8.2.2.2.cell 2; have d8f : w8.frozen? ⟨w.heap.size + 1, 2, none⟩ = false := hmid8.2.2.2.free 2)))
                  all_goals
                    go_wp2
                    go_roundw
                    case rel =>
                      have hne8 := keyP_len hK
                      have hLs := keyP_le hK
                      refine ⟨acc ++ [p], L, A8, c8, by simp; omega, hLs, ?_, ?_, ?_⟩
                      · rw [List.length_append]
                        exact hmid8.set_ hgl 2 _ rfl
                      · rw [prs_append, List.length_append]
                        refine own8.kept (row := some (w.heap.size + 1)) ?_ (.inr (fun e => by have := (own8.lt _ e).1; omega))
                        exact ⟨rfl, rfl, rfl, by simp, fun k _ hk => setCell_block (fun e => hk (by rw [e]))⟩
                      · show _ = _
                        rw [hkeys.out]
                        rcases keysP_go HSP.out (by rw [hR]; exact hK) with h | h
                        · exact h
                        · omega
                    case measure =>
                      have hne8 := keyP_len hK
                      have m1 : (w8.setCell ⟨w.heap.size + 1, 2, none⟩ (.slice A8 (acc.length + 1) c8)).cell? ⟨w.heap.size + 1, 2, none⟩ = some (.slice A8 (acc.length + 1) c8) := (hmid8.set_ (nm' := nm) (cl' := false) hgl 2 _ rfl).2.2.2.cell 2
                      rw [m1, d2]
                      simp [rowLen]
                      omega
          | false =>
            have HSP : s[j]? ≠ some 32 := by rw [beq_eq_false_iff_ne] at hsp; exact hsp
            have hk9 : keysP s 9 [] i = .ok (acc, j) := by rw [hkeys.out, keysP_stop _ HSP]
            have HF3 := Lib.hid (HF2.out.trans (by rw [if_neg (by simp), hk9]))
            clear hsp HSP hk9 HF2 hkeys
            simp only at HF3
            have hmidx := hmid.drewN q
            have hownx0 : (wo.drewN q).ownsRow (w.heap.size + 2) 52 2 (.slice A acc.length c) acc.length (prs acc) := hown
            have hownx := hownx0
            go_wp2_with fail
            refine (eat_any s g j 62 _ (by omega) hjs hmidx.2.1).mono ?_
            rintro e w7 ⟨hg7, hm⟩
            cases hE : eatP s 62 j with
            | error p =>
              rw [hE] at hm
              simp only [Except.map] at hm
              subst hm
              have HF4 : Hid (tagP s = .error p) := by show _ = _; rw [HF3.out, hE]
              clear hE HF3
              unfold fault
              go_wp2
              refine ⟨rfl, hmidx.1.trans hg7, ?_⟩
              rw [HF4.out]
              rfl
            | ok J =>
              rw [hE] at hm
              simp only [Except.map] at hm
              obtain ⟨hat7, v, rfl, rfl⟩ := hm
              obtain ⟨hJs, -⟩ := eatP_le hE
              have HF4 := Lib.hid (HF3.out.trans (by rw [hE]))
              clear hE HF3
              simp only at HF4
              have hmid7 := hmidx.grown hgl hg7 hat7
              have hown7 := hownx.kept hg7 (.inr (fun e => by have := (hownx.lt _ e).1; omega))
              have e0 := hmid7.2.1.c0
              have e1 := hmid7.2.1.c1
              by_cases hJl : J < s.length
              · have HF5 : Hid (tagP s = .error (J, 3)) := by show _ = _; rw [HF4.out, if_pos hJl]
                clear HF4
                go_wp2
                go_quiet (fail)
                go_wp2
                refine ⟨rfl, hmid7.1.trans (grown_drewN _), ?_⟩
                rw [HF5.out]
                rfl
              · have HF5 : Hid (tagP s = .ok (false, nm, sortP acc)) := by show _ = _; rw [HF4.out, if_neg hJl]
                clear HF4
                have t0 : w7.cell? ⟨w.heap.size + 1, 0, none⟩ = some (.bool false) := hmid7.2.2.2.cell 0
                have t1 : w7.cell? ⟨w.heap.size + 1, 1, none⟩ = some (str nm) := hmid7.2.2.2.cell 1
                have t2 : w7.cell? ⟨w.heap.size + 1, 2, none⟩ = some (.slice A (acc).length c) := hmid7.2.2.2.cell 2
                go_wp2
                go_quiet (fail)
                go_wp2_with fail
                have hown7d : (w7.drewN nq).ownsRow (w.heap.size + 2) 52 2 (.slice A acc.length c) acc.length (prs acc) := hown7
                refine (sorted_any A _ c acc (w7.drewN nq) (by omega) (own_sl hown7d)).mono ?_
                rintro e w8 ⟨v, rfl, own8, hb8⟩
                obtain ⟨A8, c8, rfl, -⟩ := own_slc own8
                have hmid8 : Mid w w8 g s J false nm _ := (hmid7.drewN nq).over hgl (grown_below (row := none) hb8) (fun b e => by cases e)
                have u0 : w8.cell? ⟨w.heap.size + 1, 0, none⟩ = some (.bool false) := hmid8.2.2.2.cell 0
                have u1 : w8.cell? ⟨w.heap.size + 1, 1, none⟩ = some (str nm) := hmid8.2.2.2.cell 1
                have u2 : w8.cell? ⟨w.heap.size + 1, 2, none⟩ = some (.slice A (acc).length c) := hmid8.2.2.2.cell 2
                have uf : w8.frozen? ⟨w.heap.size + 1, 2, none⟩ = false := hmid8.2.2.2.free 2
                have r0 : w8.cell? ⟨w.heap.size, 0, none⟩ = some (.bool false) := hmid8.2.2.1.cell 0
                have r1 : w8.cell? ⟨w.heap.size, 1, none⟩ = some (str []) := hmid8.2.2.1.cell 1
                have r2 : w8.cell? ⟨w.heap.size, 2, none⟩ = some (.slice none 0 0) := hmid8.2.2.1.cell 2
                have rf := fun k => hmid8.2.2.1.free k
                go_wp2
                have hmid9 := hmid8.set_ (cl' := false) (nm' := nm) (v' := .slice A8 (sortP acc).length c8) hgl 2 _ rfl
                have hb9 := ((hmid9.2.2.1.set_ 0 (.bool false)).set_ 1 (str nm)).set_ 2 (.slice A8 (sortP acc).length c8)
                have hne : ∀ (W : World) (k : Nat) (u : Value), W.grownBy (W.setCell ⟨w.heap.size, k, none⟩ u) (some w.heap.size) := fun W k u => ⟨rfl, rfl, rfl, by simp, fun j _ hj => setCell_block (fun e => hj (by rw [e]))⟩
                have hne' : ∀ (W : World) (k : Nat) (u : Value), W.grownBy (W.setCell ⟨w.heap.size + 1, k, none⟩ u) (some (w.heap.size + 1)) := fun W k u => ⟨rfl, rfl, rfl, by simp, fun j _ hj => setCell_block (fun e => hj (by rw [e]))⟩
                have h77 : w.heap.size + 2 ≤ (w7.drewN nq).heap.size := Blk.lt hmid7.2.2.2
                have own9 := own_base own8 h77
                have hob : ∀ k, k < w.heap.size + 2 → (Value.slice A8 (sortP acc).length c8).ownBlock = none ∨ (Value.slice A8 (sortP acc).length c8).ownBlock ≠ some k := fun k hk => .inr (fun e => by have := (own9.lt _ e).1; omega)
                have own10 := (((own9.kept (hne' w8 2 (.slice A8 (sortP acc).length c8)) (hob _ (by omega))).kept (hne _ 0 (.bool false)) (hob _ (by omega))).kept (hne _ 1 (str nm)) (hob _ (by omega))).kept (hne _ 2 (.slice A8 (sortP acc).length c8)) (hob _ (by omega))
                have hgr := grown_two hmid9.1 (w2 := (((w8.setCell ⟨w.heap.size + 1, 2, none⟩ (.slice A8 (sortP acc).length c8)).setCell ⟨w.heap.size, 0, none⟩ (.bool false)).setCell ⟨w.heap.size, 1, none⟩ (str nm)).setCell ⟨w.heap.size, 2, none⟩ (.slice A8 (sortP acc).length c8)) rfl rfl rfl (by simp) (fun k hk => ((setCell_block (by show k ≠ w.heap.size; omega)).trans (setCell_block (by show k ≠ w.heap.size; omega))).trans (setCell_block (by show k ≠ w.heap.size; omega)))
                go_wp2
                refine bodyPost_ret (results_cell_row rfl _ _ _ _ _ _ _ rfl hb9 Try.underlying33 rfl size_tag3) rfl ?_
                refine ⟨hgr, ?_⟩
                rw [HF5.out]
                exact ⟨_, rfl, own_base own10 (by omega)⟩
end Go.Proofs.Yteccopnlpllliaa
