/-
 The contract of the reference's ParseTag. Condition: the text has at most 2 to the 44th bytes.
-/
import Derived.Test.YtgkdaebiefhgdaaGreatDoorPMarkRdVal
import Derived.Test.YtgkdaebiefhgdaaGreatDoorPMarkRdKey
import Derived.Test.YtgkdaebiefhgdaaGreatDoorPMarkAll
namespace Go.Proofs.YtgkdaebiefhgdaaGreatDoor
open Go.RowKit Utf Tagp
open Feat (Bs lt)
attribute [local go_sem] byte_mk ByteArray.extract_mk
theorem keyP_eq (s : Bs) (l : List KV) (i : Nat) : keyP s l i = match nameK s l i with
  | .error e => .error e
  | .ok (n, j) => match wantP s [61, 34] j with
   | .error e => .error e
   | .ok j => match valueP s j with
    | .error e => .error e
    | .ok (v, j) => .ok ((n, v), j) := by
 unfold keyP nameK
 cases nameP s i with
 | error e => rfl
 | ok q =>
  obtain ⟨n, j⟩ := q
  simp only
  split
  ·rfl
  ·split
   ·rfl
   ·simp only [wantP]
    cases eatP s 61 j with
    | error e => rfl
    | ok J =>
     simp only
     cases eatP s 34 J with
     | error e => rfl
     | ok K => rfl

theorem nameK_le {s : Bs} {l : List KV} {i j : Nat} {n : Bs} (hi : i ≤ s.length) (h : nameK s l i = .ok (n, j)) : j ≤ s.length := by
 unfold nameK at h
 split at h
 ·cases h
 ·rename_i hn
  split at h
  ·cases h
  ·split at h
   ·cases h
   ·cases h
    exact (nameP_le hi hn).1
def Fr (w wr : World) : Prop := Below w.heap.size w wr ∧ Blk wr w.heap.size 89 #[.bool false, str [], .slice none 0 0]
theorem Fr.grown {w wr wx : World} (h : Fr w wr) (hg : wr.grownBy wx (some (w.heap.size + 1))) : Fr w wx :=
 ⟨h.1.grown hg h.1.size (fun k hk => by cases hk; exact Nat.le_succ _), h.2.grown hg (by omega)⟩
theorem Fr.over {w wr wx : World} {row : Option Nat} (h : Fr w wr) (hg : wr.grownBy wx row) (hr : ∀ b, row = some b → w.heap.size + 2 ≤ b) : Fr w wx :=
 ⟨h.1.grown hg h.1.size (fun k hk => by have := hr k hk; omega), (hg.block _ (Blk.lt h.2) (fun e => by have := hr _ e.symm; omega)).trans h.2⟩
theorem Fr.set_ {w wr : World} (h : Fr w wr) (k : Nat) (u : Value) : Fr w (wr.setCell ⟨w.heap.size + 1, k, none⟩ u) := h.grown (grown_set u)
theorem Fr.drewN {w wr : World} (h : Fr w wr) (q : Nat) : Fr w (wr.drewN q) := ⟨below_drewN h.1 q, h.2⟩
theorem size_ref3 : (Tryz.prog.info? 89).map (·.size) = some 3 := by kernel_rfl
theorem results_ref {w : World} {b : Nat} {c : Array Value} (tmps : Array Value) (h2 : tmps.getD 2 undef = .pointer (some ⟨b, 0, none⟩)) (hb : Blk w b 89 c) (hc : c.size = 3) :
  (results Tryz.f67 tmps).run Tryz.prog w = .ok (.tuple #[.agg c, tmps.getD 3 undef, tmps.getD 4 undef]) w := by
 have l0 := run_loadVar_row (P := Tryz.prog) w b 89 89 c (0, 0) _ hb Tryz.underlying89 rfl (by rw [hc]; exact size_ref3)
 simp only [Array.getD_eq_getD_getElem?] at h2
 simp [results, Tryz.results67, h2, asAddr, l0, Result.andThen]

set_option maxHeartbeats 800000 in
theorem name_bad (s : Bs) (g : Nat) (key : Bool) (p : Nat × Nat) (w : World) (h : Rbad w g s p) :
  Calls Tryz.prog 109 #[.pointer (some ⟨g, 0, none⟩), .bool key] w (fun e w' => e = .returned (str []) ∧ ∃ q, w' = w.drewN q) := by
 have hb := h
 obtain ⟨i, cl, nm, A, n, c, h⟩ := h
 have k0 := Blk.cell h 0
 have k1 := Blk.cell h 1
 have k7 := Blk.cell h 7
 go_enter Tryz.func109, Tryz.ntmps109
 go_wp2
 go_quiet (fail)
 go_wp2_with fail
 refine (fail_bad s g i 3 p _ (show Rbad (w.drewN nq) g s p from hb)).mono ?_
 rintro e w2 ⟨rfl, rfl⟩
 go_wp2
 go_ret
 exact ⟨rfl, _, rfl⟩

def PInv (w : World) (s nm : Bs) (i0 : Nat) (wr : World) : Prop :=
 (∃ (acc : List KV) (j : Nat) (A : Option Addr) (c : Nat), acc.length ≤ 8 ∧ j ≤ s.length ∧ Fr w wr ∧ Rok wr (w.heap.size + 1) s j false nm (.slice A acc.length c) ∧ wr.ownsRow (w.heap.size + 2) 84 2 (.slice A acc.length c) acc.length (prs acc) ∧ Hid (keysP s 9 [] i0 = keysP s (9 - acc.length) acc j)) ∨
 (∃ p, Fr w wr ∧ Rbad wr (w.heap.size + 1) s p ∧ Hid (tagP s = .error p))
def leftN (w wr : World) : Nat := match wr.cell? ⟨w.heap.size + 1, 7, none⟩ with
 | some (.bool false) => 10 - rowLen ((wr.cell? ⟨w.heap.size + 1, 4, none⟩).getD undef)
 | _ => 0

set_option maxRecDepth 100000 in
set_option maxHeartbeats 3200000 in
theorem refParseTag_any (s : Bs) (w : World) (hs : s.length ≤ 17592186044416) : Calls Tryz.prog 67 #[str s] w (Parsed s w) := by
 obtain ⟨i0, hi0, hz0, hz1, hz2⟩ := info_parts info_pairM
 have HE : Hid (tagP s = match eatP s 60 0 with
  | .error e => .error e
  | .ok _ =>
   match nameP s (if (s[1]? == some 47) = true then 2 else 1) with
   | .error e => .error e
   | .ok (n, i) =>
    match (if (s[1]? == some 47) = true then .ok ([], i) else keysP s 9 [] i) with
    | .error e => .error e
    | .ok (l, i) =>
     match eatP s 62 i with
     | .error e => .error e
     | .ok i => if i < s.length then .error (i, 3) else .ok ((s[1]? == some 47), n, sortP l)) := rfl
 have e1 : (w.alloc (.cells #[.bool false, str [], .slice none 0 0] 89)).heap.size = w.heap.size + 1 := by simp
 have hr0 := Blk.new (w.alloc (.cells #[.bool false, str [], .slice none 0 0] 89)) 152 #[str s, .int .i64 0, .bool false, str [], .slice none 0 0, .int .i64 0, .int .i64 0, .bool false]
 rw [e1] at hr0
 have hfr0 : Fr w ((w.alloc (.cells #[.bool false, str [], .slice none 0 0] 89)).alloc (.cells #[str s, .int .i64 0, .bool false, str [], .slice none 0 0, .int .i64 0, .int .i64 0, .bool false] 152)) := ⟨((Below.refl _ w).alloc (Nat.le_refl _) _).alloc (by omega) _, (Blk.new w _ _).alloc _⟩
 go_enter Tryz.func67, Tryz.ntmps67
 go_wp2_with fail
 refine (want_ok s [60] (w.heap.size + 1) 0 false [] none 0 0 _ (by omega) (by simp) (Nat.zero_le _) hr0).mono ?_
 rintro e w1 ⟨rfl, hg1, hm⟩
 rw [wantP_one] at hm
 have hfr1 := hfr0.grown hg1
 cases hN : eatP s 60 0 with
 | error p =>
  rw [hN] at hm
  simp only at hm
  have HT : Hid (tagP s = .error p) := by show _ = _; rw [HE.out, hN]
  clear hN HE
  have hbad := hm.bad
  have hbad2 := hbad
  obtain ⟨iz, clz, nmz, Az, nz, cz, hbz⟩ := hbad
  have z7 := Blk.cell hbz 7
  have z3 := Blk.cell hbz 3
  have zf := fun k => Blk.free hbz k
  go_wp2_with fail
  refine (name_bad s (w.heap.size + 1) false p _ hbad2).mono ?_
  rintro e w2 ⟨rfl, q, rfl⟩
  go_wp2
  have hbadS : Rbad ((w1.drewN q).setCell ⟨w.heap.size + 1, 3, none⟩ (str [])) (w.heap.size + 1) s p := ⟨iz, clz, [], Az, nz, cz, Blk.set_ (w := w1.drewN q) hbz 3 _⟩
  have hfrS := (hfr1.drewN q).set_ 3 (str [])
  clear z7 z3 zf hbz
  go_loopw [53] (fun _ wr => Fr w wr ∧ Rbad wr (w.heap.size + 1) s p) (fun _ _ => 0)
  case atStart => exact ⟨hfrS, hbadS⟩
  case round =>
   obtain ⟨hfr, hbad⟩ := hrel
   have hbad2 := hbad
   obtain ⟨iz, clz, nmz, Az, nz, cz, hbz⟩ := hbad
   have z1 := Blk.cell hbz 1
   have z5 := Blk.cell hbz 5
   have z6 := Blk.cell hbz 6
   have z7 := Blk.cell hbz 7
   have q0 := hfr.2.cell 0
   have q1 := hfr.2.cell 1
   have q2 := hfr.2.cell 2
   have qf := fun k => hfr.2.free k
   go_wp2_with fail
   refine (want_bad s [62] (w.heap.size + 1) p _ hbad2).mono ?_
   rintro e wz ⟨rfl, rfl⟩
   go_wp2
   go_region
   go_wp2
   refine bodyPost_ret (results_ref _ rfl (((hfr.2.set_ 0 (.bool false)).set_ 1 (str [])).set_ 2 (.slice none 0 0)) rfl) rfl ?_
   have HP : parseP s = ((false, [], []), p.1, p.2) := by unfold parseP; rw [HT.out]
   refine ⟨.slice none 0 0, ?_, ?_, ?_⟩
   ·rw [HP]
    rfl
   ·rw [HP]
    exact World.ownsRow_nil _ _ _ _
   ·exact ((((hfr.1.setCell (p := ⟨w.heap.size, 0, none⟩) (Nat.le_refl _) _).setCell (p := ⟨w.heap.size, 1, none⟩) (Nat.le_refl _) _).setCell (p := ⟨w.heap.size, 2, none⟩) (Nat.le_refl _) _)).drew
 | ok q =>
  rw [hN] at hm
  simp only at hm
  obtain ⟨hr1, hl1⟩ := hm
  obtain ⟨-, rfl⟩ := eatP_le hN
  have HF := Lib.hid (HE.out.trans (by rw [hN]))
  clear hN HE
  simp only at HF
  have c1 := Blk.cell hr1 1
  have c7 := Blk.cell hr1 7
  have cf := fun k => Blk.free hr1 k
  have c2 := Blk.cell hr1 2
  have hcase : (∃ h : 1 < s.length, ((s[1].toNat : Int) == 47) = true ∧ (s[1]? == some 47) = true) ∨ ((s[1]? == some 47) = false ∧ ((∃ h : 1 < s.length, ((s[1].toNat : Int) == 47) = false) ∨ ¬ 1 < s.length)) := by
   by_cases h : 1 < s.length
   ·have e : s[1]? = some s[1] := List.getElem?_eq_getElem h
    have k47 : s[1] = 47 ↔ (s[1].toNat : Int) = 47 := ⟨fun h => by rw [h]; rfl, fun h => UInt8.toNat_inj.1 (by show _ = 47; omega)⟩
    by_cases hq : s[1] = 47
    ·exact .inl ⟨h, by rw [beq_iff_eq]; exact k47.1 hq, by rw [e, hq]; rfl⟩
    ·exact .inr ⟨by rw [e, beq_eq_false_iff_ne]; intro hh; exact hq (Option.some.inj hh), .inl ⟨h, by rw [beq_eq_false_iff_ne]; exact fun hh => hq (k47.2 hh)⟩⟩
   ·exact .inr ⟨by rw [List.getElem?_eq_none (by omega)]; rfl, .inr h⟩
  rcases hcase with ⟨h1l, b47, hcl⟩ | ⟨hcl, hno⟩
  ·rw [hcl] at HF
   clear hcl
   have hr2 : Rok ((w1.setCell ⟨w.heap.size + 1, 1, none⟩ (.int .i64 2)).setCell ⟨w.heap.size + 1, 2, none⟩ (.bool true)) (w.heap.size + 1) s 2 true [] (.slice none 0 0) := Blk.set_ (Blk.set_ hr1 1 (.int .i64 2)) 2 _
   have hfr2 := (hfr1.set_ 1 (.int .i64 2)).set_ 2 (.bool true)
   go_wp2_with fail
   refine (name0_ok s (w.heap.size + 1) 2 true [] none 0 0 _ (by omega) (by omega) hr2).mono ?_
   rintro e w3 ⟨hg3, hm⟩
   have hfr3 := hfr2.grown hg3
   cases hN : nameP s 2 with
   | error p =>
    rw [hN] at hm
    simp only at hm
    obtain ⟨hbx, x, rfl⟩ := hm
    have HT : Hid (tagP s = .error p) := by show _ = _; rw [HF.out, if_pos trivial, hN]
    clear hN HF
    obtain ⟨iz, hbz⟩ := hbx
    have z3 := Blk.cell hbz 3
    have zf := fun k => Blk.free hbz k
    go_wp2
    have hbadS : Rbad (w3.setCell ⟨w.heap.size + 1, 3, none⟩ (str x)) (w.heap.size + 1) s p := ⟨iz, _, x, _, _, _, Blk.set_ hbz 3 _⟩
    have hfrS := hfr3.set_ 3 (str x)
    clear z3 zf hbz
    go_loopw [53] (fun _ wr => Fr w wr ∧ Rbad wr (w.heap.size + 1) s p) (fun _ _ => 0)
    case atStart => exact ⟨hfrS, hbadS⟩
    case round =>
     obtain ⟨hfr, hbad⟩ := hrel
     have hbad2 := hbad
     obtain ⟨iz, clz, nmz, Az, nz, cz, hbz⟩ := hbad
     have z1 := Blk.cell hbz 1
     have z5 := Blk.cell hbz 5
     have z6 := Blk.cell hbz 6
     have z7 := Blk.cell hbz 7
     have q0 := hfr.2.cell 0
     have q1 := hfr.2.cell 1
     have q2 := hfr.2.cell 2
     have qf := fun k => hfr.2.free k
     go_wp2_with fail
     refine (want_bad s [62] (w.heap.size + 1) p _ hbad2).mono ?_
     rintro e wz ⟨rfl, rfl⟩
     go_wp2
     go_region
     go_wp2
     refine bodyPost_ret (results_ref _ rfl (((hfr.2.set_ 0 (.bool false)).set_ 1 (str [])).set_ 2 (.slice none 0 0)) rfl) rfl ?_
     have HP : parseP s = ((false, [], []), p.1, p.2) := by unfold parseP; rw [HT.out]
     refine ⟨.slice none 0 0, ?_, ?_, ?_⟩
     ·rw [HP]
      rfl
     ·rw [HP]
      exact World.ownsRow_nil _ _ _ _
     ·exact ((((hfr.1.setCell (p := ⟨w.heap.size, 0, none⟩) (Nat.le_refl _) _).setCell (p := ⟨w.heap.size, 1, none⟩) (Nat.le_refl _) _).setCell (p := ⟨w.heap.size, 2, none⟩) (Nat.le_refl _) _)).drew
   | ok q =>
    obtain ⟨nm, i⟩ := q
    rw [hN] at hm
    simp only at hm
    obtain ⟨hr3, x, rfl, rfl⟩ := hm
    obtain ⟨his, -⟩ := nameP_le (by omega) hN
    have HF2 := Lib.hid (HF.out.trans (by rw [if_pos trivial, hN]))
    clear hN HF
    simp only at HF2
    have z3 := Blk.cell hr3 3
    have zf := fun k => Blk.free hr3 k
    have hr4 : Rok (w3.setCell ⟨w.heap.size + 1, 3, none⟩ (str nm)) (w.heap.size + 1) s i true nm (.slice none 0 0) := Blk.set_ hr3 3 _
    have hfr4 := hfr3.set_ 3 (str nm)
    go_wp2
    clear z3 zf c1 c7 cf c2
    go_loopw [53] (fun _ wr => Fr w wr ∧ Rok wr (w.heap.size + 1) s i true nm (.slice none 0 0)) (fun _ _ => 0)
    case atStart => exact ⟨hfr4, hr4⟩
    case round =>
     obtain ⟨hfr, hr⟩ := hrel
     have k2 := Blk.cell hr 2
     have k7 := Blk.cell hr 7
     have HF3 := Lib.hid (HF2.out.trans (by rw [if_pos trivial]))
     clear HF2
     simp only at HF3
     have hown : wr.ownsRow (w.heap.size + 2) 84 2 (.slice none ([] : List KV).length 0) ([] : List KV).length (prs []) := World.ownsRow_nil _ _ _ _
     go_wp2_with fail
     refine (want_ok s [62] (w.heap.size + 1) i true nm none ([] : List KV).length 0 _ (by omega) (by simp) his hr).mono ?_
     rintro e w7 ⟨rfl, hg7, hm⟩
     rw [wantP_one] at hm
     have hfr7 := hfr.grown hg7
     have hown7 := hown.kept hg7 (.inr (fun e => by have := (hown.lt _ e).1; omega))
     cases hE : eatP s 62 i with
     | error p =>
      rw [hE] at hm
      simp only at hm
      have HT : Hid (tagP s = .error p) := by show _ = _; rw [HF3.out, hE]
      clear hE
      have hfr := hfr7
      have hbad := hm.bad
      obtain ⟨iz, clz, nmz, Az, nz, cz, hbz⟩ := hbad
      have z1 := Blk.cell hbz 1
      have z5 := Blk.cell hbz 5
      have z6 := Blk.cell hbz 6
      have z7 := Blk.cell hbz 7
      have q0 := hfr.2.cell 0
      have q1 := hfr.2.cell 1
      have q2 := hfr.2.cell 2
      have qf := fun k => hfr.2.free k
      go_wp2
      go_region
      go_wp2
      refine bodyPost_ret (results_ref _ rfl (((hfr.2.set_ 0 (.bool false)).set_ 1 (str [])).set_ 2 (.slice none 0 0)) rfl) rfl ?_
      have HP : parseP s = ((false, [], []), p.1, p.2) := by unfold parseP; rw [HT.out]
      refine ⟨.slice none 0 0, ?_, ?_, ?_⟩
      ·rw [HP]
       rfl
      ·rw [HP]
       exact World.ownsRow_nil _ _ _ _
      ·exact ((((hfr.1.setCell (p := ⟨w.heap.size, 0, none⟩) (Nat.le_refl _) _).setCell (p := ⟨w.heap.size, 1, none⟩) (Nat.le_refl _) _).setCell (p := ⟨w.heap.size, 2, none⟩) (Nat.le_refl _) _)).drew
     | ok J =>
      rw [hE] at hm
      simp only at hm
      obtain ⟨hr7, hJs⟩ := hm
      have HF4 := Lib.hid (HF3.out.trans (by rw [hE]))
      clear hE HF3
      simp only at HF4
      have e1 := Blk.cell hr7 1
      have e7 := Blk.cell hr7 7
      by_cases hJl : J < s.length
      ·have HT : Hid (tagP s = .error (J, 3)) := by show _ = _; rw [HF4.out, if_pos hJl]
       clear HF4
       obtain ⟨p, hp⟩ : ∃ p, (J, 3) = p := ⟨_, rfl⟩
       rw [hp] at HT
       go_wp2_with fail
       refine (fail_st s (w.heap.size + 1) J J 3 true nm _ (0, 0) false _ hr7).mono ?_
       rintro e w8 ⟨rfl, hg8, hb8⟩
       have hfr := hfr7.grown hg8
       have hbad : Rbad w8 (w.heap.size + 1) s p := by rw [← hp]; exact RbadX.bad ⟨_, hb8⟩
       obtain ⟨iz, clz, nmz, Az, nz, cz, hbz⟩ := hbad
       have z1 := Blk.cell hbz 1
       have z5 := Blk.cell hbz 5
       have z6 := Blk.cell hbz 6
       have z7 := Blk.cell hbz 7
       have q0 := hfr.2.cell 0
       have q1 := hfr.2.cell 1
       have q2 := hfr.2.cell 2
       have qf := fun k => hfr.2.free k
       go_wp2
       go_region
       go_wp2
       refine bodyPost_ret (results_ref _ rfl (((hfr.2.set_ 0 (.bool false)).set_ 1 (str [])).set_ 2 (.slice none 0 0)) rfl) rfl ?_
       have HP : parseP s = ((false, [], []), p.1, p.2) := by unfold parseP; rw [HT.out]
       refine ⟨.slice none 0 0, ?_, ?_, ?_⟩
       ·rw [HP]
        rfl
       ·rw [HP]
        exact World.ownsRow_nil _ _ _ _
       ·exact ((((hfr.1.setCell (p := ⟨w.heap.size, 0, none⟩) (Nat.le_refl _) _).setCell (p := ⟨w.heap.size, 1, none⟩) (Nat.le_refl _) _).setCell (p := ⟨w.heap.size, 2, none⟩) (Nat.le_refl _) _)).drew
      ·have HF5 : Hid (tagP s = .ok (true, nm, sortP [])) := by show _ = _; rw [HF4.out, if_neg hJl]
       clear HF4
       have e4 := Blk.cell hr7 4
       go_wp2_with fail
       refine (sortPairs_any none _ 0 [] _ (by first | omega | simp) (own_sl hown7)).mono ?_
       rintro e w8 ⟨v, rfl, own8, hb8⟩
       obtain ⟨A8, c8, rfl, -⟩ := own_slc own8
       have hfr8 := hfr7.over (grown_below (row := none) hb8) (fun b e => by cases e)
       have hr8 := hr7.below hb8
       have y2 := Blk.cell hr8 2
       have y3 := Blk.cell hr8 3
       have y4 := Blk.cell hr8 4
       have yf := fun k => Blk.free hr8 k
       have hr9 := Blk.set_ hr8 4 (.slice A8 (sortP []).length c8)
       have x2 := Blk.cell hr9 2
       have x3 := Blk.cell hr9 3
       have x4 := Blk.cell hr9 4
       have hfr9 := hfr8.set_ 4 (.slice A8 (sortP []).length c8)
       have q0 := hfr9.2.cell 0
       have q1 := hfr9.2.cell 1
       have q2 := hfr9.2.cell 2
       have qf := fun k => hfr9.2.free k
       have hB8 := hb8.size
       have h77 : w.heap.size + 2 ≤ w7.heap.size := Blk.lt hr7
       have own9 := own_base own8 h77
       have hob : ∀ k, k < w.heap.size + 2 → (Value.slice A8 (sortP []).length c8).ownBlock = none ∨ (Value.slice A8 (sortP []).length c8).ownBlock ≠ some k := fun k hk => .inr (fun e => by have := (own9.lt _ e).1; omega)
       have own10 := (((own9.kept (grown_set (g := w.heap.size + 1) (k := 4) (.slice A8 (sortP []).length c8)) (hob _ (by omega))).kept (grown_set (g := w.heap.size) (k := 0) (.bool true)) (hob _ (by omega))).kept (grown_set (g := w.heap.size) (k := 1) (str nm)) (hob _ (by omega))).kept (grown_set (g := w.heap.size) (k := 2) (.slice A8 (sortP []).length c8)) (hob _ (by omega))
       go_wp2
       refine bodyPost_ret (results_ref _ rfl (((hfr9.2.set_ 0 (.bool true)).set_ 1 (str nm)).set_ 2 (.slice A8 (sortP []).length c8)) rfl) rfl ?_
       have HP : parseP s = ((true, nm, sortP []), 0, 0) := by unfold parseP; rw [HF5.out]
       refine ⟨.slice A8 (sortP []).length c8, ?_, ?_, ?_⟩
       ·rw [HP]
        rfl
       ·rw [HP]
        exact own_base own10 (by omega)
       ·exact (((hfr9.1.setCell (p := ⟨w.heap.size, 0, none⟩) (Nat.le_refl _) _).setCell (p := ⟨w.heap.size, 1, none⟩) (Nat.le_refl _) _).setCell (p := ⟨w.heap.size, 2, none⟩) (Nat.le_refl _) _)
  ·rw [hcl] at HF
   clear hcl
   rcases hno with ⟨h1l, b47⟩ | h1l
   all_goals
    go_wp2_with fail
    refine (name0_ok s (w.heap.size + 1) 1 false [] none 0 0 _ (by omega) hl1 hr1).mono ?_
    rintro e w3 ⟨hg3, hm⟩
    have hfr3 := hfr1.grown hg3
    cases hN : nameP s 1 with
    | error p =>
     rw [hN] at hm
     simp only at hm
     obtain ⟨hbx, x, rfl⟩ := hm
     have HT : Hid (tagP s = .error p) := by show _ = _; rw [HF.out, if_neg (by simp), hN]
     clear hN HF
     obtain ⟨iz, hbz⟩ := hbx
     have z3 := Blk.cell hbz 3
     have zf := fun k => Blk.free hbz k
     go_wp2
     have hbadS : Rbad (w3.setCell ⟨w.heap.size + 1, 3, none⟩ (str x)) (w.heap.size + 1) s p := ⟨iz, _, x, _, _, _, Blk.set_ hbz 3 _⟩
     have hfrS := hfr3.set_ 3 (str x)
     clear z3 zf hbz
     go_loopw [53] (fun _ wr => Fr w wr ∧ Rbad wr (w.heap.size + 1) s p) (fun _ _ => 0)
     case atStart => exact ⟨hfrS, hbadS⟩
     case round =>
      obtain ⟨hfr, hbad⟩ := hrel
      have hbad2 := hbad
      obtain ⟨iz, clz, nmz, Az, nz, cz, hbz⟩ := hbad
      have z1 := Blk.cell hbz 1
      have z5 := Blk.cell hbz 5
      have z6 := Blk.cell hbz 6
      have z7 := Blk.cell hbz 7
      have q0 := hfr.2.cell 0
      have q1 := hfr.2.cell 1
      have q2 := hfr.2.cell 2
      have qf := fun k => hfr.2.free k
      go_wp2_with fail
      refine (want_bad s [62] (w.heap.size + 1) p _ hbad2).mono ?_
      rintro e wz ⟨rfl, rfl⟩
      go_wp2
      go_region
      go_wp2
      refine bodyPost_ret (results_ref _ rfl (((hfr.2.set_ 0 (.bool false)).set_ 1 (str [])).set_ 2 (.slice none 0 0)) rfl) rfl ?_
      have HP : parseP s = ((false, [], []), p.1, p.2) := by unfold parseP; rw [HT.out]
      refine ⟨.slice none 0 0, ?_, ?_, ?_⟩
      ·rw [HP]
       rfl
      ·rw [HP]
       exact World.ownsRow_nil _ _ _ _
      ·exact ((((hfr.1.setCell (p := ⟨w.heap.size, 0, none⟩) (Nat.le_refl _) _).setCell (p := ⟨w.heap.size, 1, none⟩) (Nat.le_refl _) _).setCell (p := ⟨w.heap.size, 2, none⟩) (Nat.le_refl _) _)).drew
    | ok q =>
     obtain ⟨nm, i⟩ := q
     rw [hN] at hm
     simp only at hm
     obtain ⟨hr3, x, rfl, rfl⟩ := hm
     obtain ⟨his, -⟩ := nameP_le hl1 hN
     have HF2 := Lib.hid (HF.out.trans (by rw [if_neg (by simp), hN]))
     clear hN HF
     simp only at HF2
     have z3 := Blk.cell hr3 3
     have zf := fun k => Blk.free hr3 k
     have hr4 : Rok (w3.setCell ⟨w.heap.size + 1, 3, none⟩ (str nm)) (w.heap.size + 1) s i false nm (.slice none 0 0) := Blk.set_ hr3 3 _
     have hfr4 := hfr3.set_ 3 (str nm)
     go_wp2
     clear z3 zf c1 c7 cf c2
     go_loopw [53] (fun _ wr => PInv w s nm i wr) (fun _ wr => leftN w wr)
     case atStart => exact .inl ⟨[], i, none, 0, Nat.zero_le _, his, hfr4, hr4, World.ownsRow_nil _ _ _ _, rfl⟩
     case round =>
      rcases hrel with ⟨acc, j, A, c, hacc, hjs, hfr, hr, hown, hkeys⟩ | ⟨p, hfr, hbad, HT⟩
      ·rename World => wo
       have k0 := Blk.cell hr 0
       have k1 := Blk.cell hr 1
       have k2 := Blk.cell hr 2
       have k4 := Blk.cell hr 4
       have k7 := Blk.cell hr 7
       have kf := fun k => Blk.free hr k
       by_cases h32 : j < s.length ∧ s[j]? = some 32
       ·obtain ⟨hjl, hj32⟩ := h32
        have b32 : ((s[j].toNat : Int) == 32) = true := by
         rw [List.getElem?_eq_getElem hjl] at hj32
         rw [Option.some.inj hj32]; rfl
        have H32 := Lib.hid hj32
        clear hj32
        go_wp2
        go_loopw [84] (fun _ wx => ∃ k : Nat, j ≤ k ∧ k ≤ s.length ∧ Fr w wx ∧ Rok wx (w.heap.size + 1) s k false nm (.slice A acc.length c) ∧ wx.ownsRow (w.heap.size + 2) 84 2 (.slice A acc.length c) acc.length (prs acc) ∧ Hid (run (· == 32) s j = run (· == 32) s k)) (fun _ wx => s.length - (intOf ((wx.cell? ⟨w.heap.size + 1, 1, none⟩).getD undef)).toNat)
        case atStart => exact ⟨j, Nat.le_refl _, hjs, hfr, hr, hown, rfl⟩
        case round =>
         obtain ⟨k, hjk, hks, hfrk, hrk, hownk, hrun⟩ := hrel
         have hleft : leftN w wo = 10 - acc.length := by unfold leftN; rw [k7, k4]; rfl
         clear k0 k1 k2 kf b32
         have e1 := Blk.cell hrk 1
         have ef := fun k => Blk.free hrk k
         by_cases hk32 : ∃ h : k < s.length, ((s[k].toNat : Int) == 32) = true
         ·obtain ⟨hkl, b32⟩ := hk32
          have hk : s[k] = 32 := UInt8.toNat_inj.1 (by have := eq_of_beq b32; show _ = 32; omega)
          have HR := Lib.hid (run_step (p := (· == 32)) hkl (by rw [hk]; rfl))
          clear hk
          go_wp2
          go_roundw
          case rel =>
           refine ⟨k + 1, by omega, by omega, hfrk.set_ 1 _, hrk.move (k + 1), hownk.kept (grown_set _) (.inr (fun e => by have := (hownk.lt _ e).1; omega)), ?_⟩
           show _ = _
           rw [hrun.out, HR.out]
          case measure =>
           have e2 : (wr.setCell ⟨w.heap.size + 1, 1, none⟩ (.int .i64 ((k : Int) + 1))).cell? ⟨w.heap.size + 1, 1, none⟩ = some (.int .i64 ((k + 1 : Nat) : Int)) := Blk.cell (hrk.move (k + 1)) 1
           rw [e2, e1]
           simp [intOf]
           omega
         ·have hgd : (∃ h : k < s.length, ((s[k].toNat : Int) == 32) = false) ∨ ¬ k < s.length := by
           by_cases hkl : k < s.length
           ·refine .inl ⟨hkl, ?_⟩
            cases hb : ((s[k].toNat : Int) == 32) with
            | false => rfl
            | true => exact absurd ⟨hkl, hb⟩ hk32
           ·exact .inr hkl
          have hR : Hid (run (· == 32) s j = k) := by
           show _ = _
           rw [hrun.out]
           rcases hgd with ⟨hkl, hb⟩ | hkl
           ·refine run_stop hkl ?_
            rw [beq_eq_false_iff_ne] at hb ⊢
            intro e
            exact hb (by rw [e]; rfl)
           ·exact run_end _ (by omega)
          have hge : ∀ ga o, A = some ⟨ga, o, none⟩ → ga ≠ w.heap.size + 1 := by
           intro ga o e
           have := (hownk.lt ga (by rw [e]; rfl)).1
           omega
          have hexN := name1_ok s (w.heap.size + 1) k false nm A acc.length c wr (by omega) hks acc hacc (own_sl hownk) hge hrk
          clear hk32 hrun
          rcases hgd with ⟨hkl, b32⟩ | hkl
          all_goals
           go_wp2_with fail
           refine hexN.mono ?_
           rintro e w6 ⟨hg6, hm⟩
           have hfr6 := hfrk.grown hg6
           have hown6 := hownk.kept hg6 (.inr (fun e => by have := (hownk.lt _ e).1; omega))
           cases hN : nameK s acc k with
           | error p =>
            rw [hN] at hm
            simp only at hm
            obtain ⟨hbx, x, rfl⟩ := hm
            have HT : Hid (tagP s = .error p) := by
             show _ = _
             rw [HF2.out, if_neg (by simp), hkeys.out, keysP_bad (by omega) H32.out (by rw [hR.out, keyP_eq, hN])]
            clear hN HF2 hkeys
            have hfr := hfr6
            have hbad := hbx.bad
            have hbad2 := hbad
            obtain ⟨iz, clz, nmz, Az, nz, cz, hbz⟩ := hbad
            have z1 := Blk.cell hbz 1
            have z5 := Blk.cell hbz 5
            have z6 := Blk.cell hbz 6
            have z7 := Blk.cell hbz 7
            have q0 := hfr.2.cell 0
            have q1 := hfr.2.cell 1
            have q2 := hfr.2.cell 2
            have qf := fun k => hfr.2.free k
            go_wp2_with fail
            refine (want_bad s [61, 34] (w.heap.size + 1) p _ hbad2).mono ?_
            rintro e wz ⟨rfl, rfl⟩
            go_wp2_with fail
            refine (want_bad s [62] (w.heap.size + 1) p _ hbad2).mono ?_
            rintro e wz ⟨rfl, rfl⟩
            go_wp2
            go_region
            go_wp2
            refine bodyPost_ret (results_ref _ rfl (((hfr.2.set_ 0 (.bool false)).set_ 1 (str [])).set_ 2 (.slice none 0 0)) rfl) rfl ?_
            have HP : parseP s = ((false, [], []), p.1, p.2) := by unfold parseP; rw [HT.out]
            refine ⟨.slice none 0 0, ?_, ?_, ?_⟩
            ·rw [HP]
             rfl
            ·rw [HP]
             exact World.ownsRow_nil _ _ _ _
            ·exact ((((hfr.1.setCell (p := ⟨w.heap.size, 0, none⟩) (Nat.le_refl _) _).setCell (p := ⟨w.heap.size, 1, none⟩) (Nat.le_refl _) _).setCell (p := ⟨w.heap.size, 2, none⟩) (Nat.le_refl _) _)).drew
           | ok q =>
            obtain ⟨n1, J⟩ := q
            rw [hN] at hm
            simp only at hm
            obtain ⟨hr6, x, rfl, rfl⟩ := hm
            have hJ : J ≤ s.length := nameK_le hks hN
            have hKy := Lib.hid ((keyP_eq s acc k).trans (by rw [hN]))
            clear hN
            simp only at hKy
            go_wp2_with fail
            refine (want_ok s [61, 34] (w.heap.size + 1) J false nm A acc.length c _ (by omega) (by simp) hJ hr6).mono ?_
            rintro e w7 ⟨rfl, hg7, hm⟩
            have hfr7 := hfr6.grown hg7
            have hown7 := hown6.kept hg7 (.inr (fun e => by have := (hown6.lt _ e).1; omega))
            cases hW : wantP s [61, 34] J with
            | error p =>
             rw [hW] at hm
             simp only at hm
             have HT : Hid (tagP s = .error p) := by
              show _ = _
              rw [HF2.out, if_neg (by simp), hkeys.out, keysP_bad (by omega) H32.out (by rw [hR.out, hKy.out, hW])]
             clear hW HF2 hkeys
             have hfr := hfr7
             have hbad := hm.bad
             have hbad2 := hbad
             obtain ⟨iz, clz, nmz, Az, nz, cz, hbz⟩ := hbad
             have z1 := Blk.cell hbz 1
             have z5 := Blk.cell hbz 5
             have z6 := Blk.cell hbz 6
             have z7 := Blk.cell hbz 7
             have q0 := hfr.2.cell 0
             have q1 := hfr.2.cell 1
             have q2 := hfr.2.cell 2
             have qf := fun k => hfr.2.free k
             go_wp2_with fail
             refine (want_bad s [62] (w.heap.size + 1) p _ hbad2).mono ?_
             rintro e wz ⟨rfl, rfl⟩
             go_wp2
             go_region
             go_wp2
             refine bodyPost_ret (results_ref _ rfl (((hfr.2.set_ 0 (.bool false)).set_ 1 (str [])).set_ 2 (.slice none 0 0)) rfl) rfl ?_
             have HP : parseP s = ((false, [], []), p.1, p.2) := by unfold parseP; rw [HT.out]
             refine ⟨.slice none 0 0, ?_, ?_, ?_⟩
             ·rw [HP]
              rfl
             ·rw [HP]
              exact World.ownsRow_nil _ _ _ _
             ·exact ((((hfr.1.setCell (p := ⟨w.heap.size, 0, none⟩) (Nat.le_refl _) _).setCell (p := ⟨w.heap.size, 1, none⟩) (Nat.le_refl _) _).setCell (p := ⟨w.heap.size, 2, none⟩) (Nat.le_refl _) _)).drew
            | ok K =>
             rw [hW] at hm
             simp only at hm
             obtain ⟨hr7, hKs⟩ := hm
             have hKy2 := Lib.hid (hKy.out.trans (by rw [hW]))
             clear hW hKy
             simp only at hKy2
             have m7 := Blk.cell hr7 7
             go_wp2_with fail
             refine (value_ok s (w.heap.size + 1) K false nm A acc.length c _ hs hKs hr7).mono ?_
             rintro e w8 ⟨hg8, hm⟩
             have hfr8 := hfr7.grown hg8
             have hown8 := hown7.kept hg8 (.inr (fun e => by have := (hown7.lt _ e).1; omega))
             cases hV : valueP s K with
             | error p =>
              rw [hV] at hm
              simp only at hm
              obtain ⟨⟨iz, hblk⟩, x, rfl⟩ := hm
              have HT : Hid (tagP s = .error p) := by
               show _ = _
               rw [HF2.out, if_neg (by simp), hkeys.out, keysP_bad (by omega) H32.out (by rw [hR.out, hKy2.out, hV])]
              clear hV m7
              have y40 := Blk.cell hblk 4
              have hoa := hown8.alloc (.cells #[str n1, str x] 84)
              have hfa := hfr8.over (grown_alloc (row := none) (.cells #[str n1, str x] 84)) (fun b e => by cases e)
              have hha := Blk.lt hblk
              go_wp2_with (at_builtin; refine wpList_append_own_at _ rfl (.tmp 122) (.tmp 126) _ rfl (w.heap.size + 2) 84 i0 _ 2 32 Tryz.underlying64 hi0 hz0 hz1 hz2 rfl (by decide) _ _ _ rfl hoa ⟨_, 0, none⟩ 1 1 [str n1, str x] rfl rfl ?ea1 ?ea2 ?ea3 ?ea4 ?ea5 ?_)
              try (case ea1 => exact news_two rfl)
              try (case ea2 => exact prs_one [(n1, x)])
              try (case ea3 => simp [maxLen]; omega)
              try (case ea4 => omega)
              try (case ea5 => simp; omega)
              intro v9 w9 own9 gr9 _ _
              obtain ⟨A9, c9, rfl, -⟩ := own_slc own9
              have hfr9 := hfa.over gr9 (fun b e => (hoa.lt b e).1)
              have hblk9 := (gr9.block _ (Blk.alloc hblk (.cells #[str n1, str x] 84)).lt (fun e => by have := (hoa.lt _ e.symm).1; omega)).trans (Blk.alloc hblk (.cells #[str n1, str x] 84))
              have y4 := Blk.cell (g := w.heap.size + 1) hblk9 4
              have yf := fun k => Blk.free (g := w.heap.size + 1) hblk9 k
              have hb10 := Blk.set_ (g := w.heap.size + 1) hblk9 4 (.slice A9 (acc.length + 1) c9)
              have hfr10 := hfr9.set_ 4 (.slice A9 (acc.length + 1) c9)
              have x7 := Blk.cell hb10 7
              have x4 := Blk.cell hb10 4
              go_wp2
              go_roundw
              case rel => exact .inr ⟨p, hfr10, ⟨iz, _, _, _, _, _, hb10⟩, HT⟩
              case measure =>
               rw [hleft]
               unfold leftN
               rw [x7]
               simp
               omega
             | ok r =>
              obtain ⟨vl, L⟩ := r
              rw [hV] at hm
              simp only at hm
              obtain ⟨hblk, x, rfl, rfl⟩ := hm
              have hkp : Hid (keyP s acc (run (· == 32) s j) = .ok ((n1, vl), L)) := by show _ = _; rw [hR.out, hKy2.out, hV]
              have hLs := valueP_le hV
              have hne8 := keyP_len hkp.out
              clear hV m7
              have y40 := Blk.cell hblk 4
              have hoa := hown8.alloc (.cells #[str n1, str vl] 84)
              have hfa := hfr8.over (grown_alloc (row := none) (.cells #[str n1, str vl] 84)) (fun b e => by cases e)
              have hha := Blk.lt hblk
              go_wp2_with (at_builtin; refine wpList_append_own_at _ rfl (.tmp 122) (.tmp 126) _ rfl (w.heap.size + 2) 84 i0 _ 2 32 Tryz.underlying64 hi0 hz0 hz1 hz2 rfl (by decide) _ _ _ rfl hoa ⟨_, 0, none⟩ 1 1 [str n1, str vl] rfl rfl ?eb1 ?eb2 ?eb3 ?eb4 ?eb5 ?_)
              try (case eb1 => exact news_two rfl)
              try (case eb2 => exact prs_one [(n1, vl)])
              try (case eb3 => simp [maxLen]; omega)
              try (case eb4 => omega)
              try (case eb5 => simp; omega)
              intro v9 w9 own9 gr9 _ _
              obtain ⟨A9, c9, rfl, -⟩ := own_slc own9
              have hfr9 := hfa.over gr9 (fun b e => (hoa.lt b e).1)
              have hblk9 := (gr9.block _ (Blk.alloc hblk (.cells #[str n1, str vl] 84)).lt (fun e => by have := (hoa.lt _ e.symm).1; omega)).trans (Blk.alloc hblk (.cells #[str n1, str vl] 84))
              have y4 := Blk.cell (g := w.heap.size + 1) hblk9 4
              have yf := fun k => Blk.free (g := w.heap.size + 1) hblk9 k
              have hb10 := Blk.set_ (g := w.heap.size + 1) hblk9 4 (.slice A9 (acc.length + 1) c9)
              have hfr10 := hfr9.set_ 4 (.slice A9 (acc.length + 1) c9)
              have x7 := Blk.cell hb10 7
              have x4 := Blk.cell hb10 4
              go_wp2
              go_roundw
              case rel =>
               refine .inl ⟨acc ++ [(n1, vl)], L, A9, c9, by simp; omega, hLs, hfr10, ?_, ?_, ?_⟩
               ·rw [List.length_append]
                exact hb10
               ·rw [prs_append, List.length_append]
                exact own9.kept (grown_set _) (.inr (fun e => by have := (own9.lt _ e).1; omega))
               ·show _ = _
                rw [hkeys.out]
                rcases keysP_go H32.out hkp.out with h | h
                ·exact h
                ·omega
              case measure =>
               rw [hleft]
               unfold leftN
               rw [x7, x4]
               simp [rowLen]
               omega
       ·have hstop : s[j]? ≠ some 32 := by
         intro e
         exact h32 ⟨(List.getElem?_eq_some_iff.1 e).1, e⟩
        have hk9 : keysP s 9 [] i = .ok (acc, j) := by rw [hkeys.out, keysP_stop _ hstop]
        have HF3 := Lib.hid (HF2.out.trans (by rw [if_neg (by simp), hk9]))
        simp only at HF3
        have hgd : (∃ h : j < s.length, ((s[j].toNat : Int) == 32) = false) ∨ ¬ j < s.length := by
         by_cases hjl : j < s.length
         ·refine .inl ⟨hjl, ?_⟩
          rw [beq_eq_false_iff_ne]
          intro e
          refine hstop ?_
          rw [List.getElem?_eq_getElem hjl]
          congr 1
          exact UInt8.toNat_inj.1 (by show _ = 32; omega)
         ·exact .inr hjl
        clear hstop hk9 HF2 hkeys h32
        rcases hgd with ⟨hjl, b32⟩ | hjl
        all_goals
         go_wp2_with fail
         refine (want_ok s [62] (w.heap.size + 1) j false nm A (acc : List KV).length c _ (by omega) (by simp) hjs hr).mono ?_
         rintro e w7 ⟨rfl, hg7, hm⟩
         rw [wantP_one] at hm
         have hfr7 := hfr.grown hg7
         have hown7 := hown.kept hg7 (.inr (fun e => by have := (hown.lt _ e).1; omega))
         cases hE : eatP s 62 j with
         | error p =>
          rw [hE] at hm
          simp only at hm
          have HT : Hid (tagP s = .error p) := by show _ = _; rw [HF3.out, hE]
          clear hE
          have hfr := hfr7
          have hbad := hm.bad
          obtain ⟨iz, clz, nmz, Az, nz, cz, hbz⟩ := hbad
          have z1 := Blk.cell hbz 1
          have z5 := Blk.cell hbz 5
          have z6 := Blk.cell hbz 6
          have z7 := Blk.cell hbz 7
          have q0 := hfr.2.cell 0
          have q1 := hfr.2.cell 1
          have q2 := hfr.2.cell 2
          have qf := fun k => hfr.2.free k
          go_wp2
          go_region
          go_wp2
          refine bodyPost_ret (results_ref _ rfl (((hfr.2.set_ 0 (.bool false)).set_ 1 (str [])).set_ 2 (.slice none 0 0)) rfl) rfl ?_
          have HP : parseP s = ((false, [], []), p.1, p.2) := by unfold parseP; rw [HT.out]
          refine ⟨.slice none 0 0, ?_, ?_, ?_⟩
          ·rw [HP]
           rfl
          ·rw [HP]
           exact World.ownsRow_nil _ _ _ _
          ·exact ((((hfr.1.setCell (p := ⟨w.heap.size, 0, none⟩) (Nat.le_refl _) _).setCell (p := ⟨w.heap.size, 1, none⟩) (Nat.le_refl _) _).setCell (p := ⟨w.heap.size, 2, none⟩) (Nat.le_refl _) _)).drew
         | ok J =>
          rw [hE] at hm
          simp only at hm
          obtain ⟨hr7, hJs⟩ := hm
          have HF4 := Lib.hid (HF3.out.trans (by rw [hE]))
          clear hE HF3
          simp only at HF4
          have e1 := Blk.cell hr7 1
          have e7 := Blk.cell hr7 7
          by_cases hJl : J < s.length
          ·have HT : Hid (tagP s = .error (J, 3)) := by show _ = _; rw [HF4.out, if_pos hJl]
           clear HF4
           obtain ⟨p, hp⟩ : ∃ p, (J, 3) = p := ⟨_, rfl⟩
           rw [hp] at HT
           go_wp2_with fail
           refine (fail_st s (w.heap.size + 1) J J 3 false nm _ (0, 0) false _ hr7).mono ?_
           rintro e w8 ⟨rfl, hg8, hb8⟩
           have hfr := hfr7.grown hg8
           have hbad : Rbad w8 (w.heap.size + 1) s p := by rw [← hp]; exact RbadX.bad ⟨_, hb8⟩
           obtain ⟨iz, clz, nmz, Az, nz, cz, hbz⟩ := hbad
           have z1 := Blk.cell hbz 1
           have z5 := Blk.cell hbz 5
           have z6 := Blk.cell hbz 6
           have z7 := Blk.cell hbz 7
           have q0 := hfr.2.cell 0
           have q1 := hfr.2.cell 1
           have q2 := hfr.2.cell 2
           have qf := fun k => hfr.2.free k
           go_wp2
           go_region
           go_wp2
           refine bodyPost_ret (results_ref _ rfl (((hfr.2.set_ 0 (.bool false)).set_ 1 (str [])).set_ 2 (.slice none 0 0)) rfl) rfl ?_
           have HP : parseP s = ((false, [], []), p.1, p.2) := by unfold parseP; rw [HT.out]
           refine ⟨.slice none 0 0, ?_, ?_, ?_⟩
           ·rw [HP]
            rfl
           ·rw [HP]
            exact World.ownsRow_nil _ _ _ _
           ·exact ((((hfr.1.setCell (p := ⟨w.heap.size, 0, none⟩) (Nat.le_refl _) _).setCell (p := ⟨w.heap.size, 1, none⟩) (Nat.le_refl _) _).setCell (p := ⟨w.heap.size, 2, none⟩) (Nat.le_refl _) _)).drew
          ·have HF5 : Hid (tagP s = .ok (false, nm, sortP acc)) := by show _ = _; rw [HF4.out, if_neg hJl]
           clear HF4
           have e4 := Blk.cell hr7 4
           go_wp2_with fail
           refine (sortPairs_any A _ c acc _ (by first | omega | simp) (own_sl hown7)).mono ?_
           rintro e w8 ⟨v, rfl, own8, hb8⟩
           obtain ⟨A8, c8, rfl, -⟩ := own_slc own8
           have hfr8 := hfr7.over (grown_below (row := none) hb8) (fun b e => by cases e)
           have hr8 := hr7.below hb8
           have y2 := Blk.cell hr8 2
           have y3 := Blk.cell hr8 3
           have y4 := Blk.cell hr8 4
           have yf := fun k => Blk.free hr8 k
           have hr9 := Blk.set_ hr8 4 (.slice A8 (sortP acc).length c8)
           have x2 := Blk.cell hr9 2
           have x3 := Blk.cell hr9 3
           have x4 := Blk.cell hr9 4
           have hfr9 := hfr8.set_ 4 (.slice A8 (sortP acc).length c8)
           have q0 := hfr9.2.cell 0
           have q1 := hfr9.2.cell 1
           have q2 := hfr9.2.cell 2
           have qf := fun k => hfr9.2.free k
           have hB8 := hb8.size
           have h77 : w.heap.size + 2 ≤ w7.heap.size := Blk.lt hr7
           have own9 := own_base own8 h77
           have hob : ∀ k, k < w.heap.size + 2 → (Value.slice A8 (sortP acc).length c8).ownBlock = none ∨ (Value.slice A8 (sortP acc).length c8).ownBlock ≠ some k := fun k hk => .inr (fun e => by have := (own9.lt _ e).1; omega)
           have own10 := (((own9.kept (grown_set (g := w.heap.size + 1) (k := 4) (.slice A8 (sortP acc).length c8)) (hob _ (by omega))).kept (grown_set (g := w.heap.size) (k := 0) (.bool false)) (hob _ (by omega))).kept (grown_set (g := w.heap.size) (k := 1) (str nm)) (hob _ (by omega))).kept (grown_set (g := w.heap.size) (k := 2) (.slice A8 (sortP acc).length c8)) (hob _ (by omega))
           go_wp2
           refine bodyPost_ret (results_ref _ rfl (((hfr9.2.set_ 0 (.bool false)).set_ 1 (str nm)).set_ 2 (.slice A8 (sortP acc).length c8)) rfl) rfl ?_
           have HP : parseP s = ((false, nm, sortP acc), 0, 0) := by unfold parseP; rw [HF5.out]
           refine ⟨.slice A8 (sortP acc).length c8, ?_, ?_, ?_⟩
           ·rw [HP]
            rfl
           ·rw [HP]
            exact own_base own10 (by omega)
           ·exact (((hfr9.1.setCell (p := ⟨w.heap.size, 0, none⟩) (Nat.le_refl _) _).setCell (p := ⟨w.heap.size, 1, none⟩) (Nat.le_refl _) _).setCell (p := ⟨w.heap.size, 2, none⟩) (Nat.le_refl _) _)
      ·have hbad2 := hbad
       obtain ⟨iz, clz, nmz, Az, nz, cz, hbz⟩ := hbad
       have z1 := Blk.cell hbz 1
       have z5 := Blk.cell hbz 5
       have z6 := Blk.cell hbz 6
       have z7 := Blk.cell hbz 7
       have q0 := hfr.2.cell 0
       have q1 := hfr.2.cell 1
       have q2 := hfr.2.cell 2
       have qf := fun k => hfr.2.free k
       go_wp2_with fail
       refine (want_bad s [62] (w.heap.size + 1) p _ hbad2).mono ?_
       rintro e wz ⟨rfl, rfl⟩
       go_wp2
       go_region
       go_wp2
       refine bodyPost_ret (results_ref _ rfl (((hfr.2.set_ 0 (.bool false)).set_ 1 (str [])).set_ 2 (.slice none 0 0)) rfl) rfl ?_
       have HP : parseP s = ((false, [], []), p.1, p.2) := by unfold parseP; rw [HT.out]
       refine ⟨.slice none 0 0, ?_, ?_, ?_⟩
       ·rw [HP]
        rfl
       ·rw [HP]
        exact World.ownsRow_nil _ _ _ _
       ·exact ((((hfr.1.setCell (p := ⟨w.heap.size, 0, none⟩) (Nat.le_refl _) _).setCell (p := ⟨w.heap.size, 1, none⟩) (Nat.le_refl _) _).setCell (p := ⟨w.heap.size, 2, none⟩) (Nat.le_refl _) _)).drew
end Go.Proofs.YtgkdaebiefhgdaaGreatDoor
