/-
  The contract of the reader's endText. No conditions but that the state is one of a reading.
-/
import Derived.Test.YtgkdaebiefhgdaaDoorVertMm
import Derived.RegionTactic
import Derived.BigRegion
namespace Go.Proofs.YtgkdaebiefhgdaaDoor
set_option linter.unusedSimpArgs false
set_option linter.unusedVariables false
open Go.RowKit
open Feat (Bs)
open Tagp (KV)
open Vert (Rd)
theorem take_setV {α : Type} (l : List α) (j m : Nat) (x : α) : (l.set j x).take m = (l.take m).set j x := by
  rw [List.take_set]
/-- A cell of a row of the call's own is set. -/
theorem own_setV {w : World} {B z n c g : Nat} {E : TypeId} {xs : List Value} (h : w.ownsRow B E z (.slice (some ⟨g, 0, none⟩) n c) n xs) (j : Nat) (u : Value) : (w.setCell ⟨g, j, none⟩ u).ownsRow B E z (.slice (some ⟨g, 0, none⟩) n c) n (xs.set j u) := by
  refine ⟨by rw [List.length_set]; exact h.1, ?_⟩
  rcases h.2 with ⟨hv, _⟩ | ⟨g', cap, cur, hv, hb, hblk, hc, hm, hsz, htk⟩
  · cases hv
  · cases hv
    refine .inr ⟨g, c, cur.setIfInBounds j u, rfl, hb, Blk.set_ (show Blk w g E cur from hblk) j u, hc, hm, by simpa using hsz, ?_⟩
    rw [Array.toList_setIfInBounds, take_setV, htk]
theorem flat_setV {α : Type} {f : α → List Value} {z : Nat} (hf : ∀ a, (f a).length = z) : ∀ (L : List α) (i : Nat) (hi : i < L.length) (j : Nat) (u : Value) (y : α), j < z → (f L[i]).set j u = f y → (L.flatMap f).set (i * z + j) u = (L.set i y).flatMap f
  | a :: L, 0, _, j, u, y, hj, h => by
    rw [List.flatMap_cons, Nat.zero_mul, Nat.zero_add, List.set_append_left _ _ (by rw [hf]; exact hj), List.set_cons_zero, List.flatMap_cons]
    rw [show (f a).set j u = f y from h]
  | a :: L, i + 1, hi, j, u, y, hj, h => by
    rw [List.flatMap_cons, List.set_append_right _ _ (by rw [hf, Nat.succ_mul]; omega), hf, Nat.succ_mul, show i * z + z + j - z = i * z + j by omega, List.set_cons_succ, List.flatMap_cons]
    rw [flat_setV hf L i (by simpa using hi) j u y hj h]

theorem OX.block {w : World} {B : Nat} {E : TypeId} {A : Option Addr} {n c : Nat} {l : List Cor.Txt} (k : OX w B E ⟨A, n, c⟩ l) (hn : 0 < n) : ∃ gx, A = some ⟨gx, 0, none⟩ ∧ B ≤ gx ∧ gx < w.heap.size ∧ ∃ cs, Blk w gx E cs := by
  obtain ⟨L, _, o, _⟩ := k
  rcases o.2 with ⟨hv, h0⟩ | ⟨g', cap, cur, hv, hb, hblk, _⟩
  · cases hv; exact absurd hn (by decide)
  · cases hv; exact ⟨g', rfl, hb, (Array.getElem?_eq_some_iff.1 hblk).1, cur, hblk⟩
/-- The last text is ended. -/
theorem OwnR.end_t {w : World} {B g gx nx cx m : Nat} {h : RdH} {ats : List At} {s : Rd} (k : OwnR w B g h ats s) (hx : h.x = ⟨some ⟨gx, 0, none⟩, nx, cx⟩) (hn : 0 < nx) {t : Cor.Txt} (ht : s.texts.getLast? = some t) (hm : m ≤ 4096) :
    OwnR ((w.setCell ⟨gx, (nx - 1) * 4 + 2, none⟩ (.int .i64 (m : Nat))).setCell ⟨g, 8, none⟩ (.bool false)) B g h ats { s with texts := s.texts.dropLast ++ [{ t with e := (m : Nat) }], tx := false } := by
  obtain ⟨ha, htk, hxx, hr, ho⟩ := h
  cases hx
  obtain ⟨L, hL, hoL, hW⟩ := k.x
  have hlen : L.length = nx := by have h1 : s.texts.length = nx := k.x.len; rw [← h1, ← hL, List.length_map]
  have hi : nx - 1 < L.length := by omega
  obtain ⟨cs, hb⟩ : ∃ cs, Blk w gx 61 cs := by
    rcases hoL.2 with ⟨hv, h0⟩ | ⟨g', cap, cur, hv, _, hblk, _⟩
    · cases hv
    · cases hv; exact ⟨cur, hblk⟩
  have f1 := Off.set_ hb ((nx - 1) * 4 + 2) (.int .i64 (m : Nat))
  have b1 := k.blk.off f1 (by decide)
  have f2 := Off.set_ b1 8 (.bool false)
  have hset := own_setV hoL ((nx - 1) * 4 + 2) (.int .i64 (m : Nat))
  have hy : L[nx - 1].1 = t := by
    rw [← hL, List.getLast?_map, List.getLast?_eq_getElem?, hlen, List.getElem?_eq_getElem hi] at ht
    simpa using ht
  rw [flat_setV txV_len L (nx - 1) hi 2 (.int .i64 (m : Nat)) ({ L[nx - 1].1 with e := (m : Nat) }, L[nx - 1].2) (by omega) rfl] at hset
  have hW1 : ∀ z ∈ L, OwnT ((w.setCell ⟨gx, (nx - 1) * 4 + 2, none⟩ (.int .i64 (m : Nat))).setCell ⟨g, 8, none⟩ (.bool false)) B z := fun z hz => ((hW z hz).off f1 (by decide)).off f2 (by decide)
  have hm1 : L.set (nx - 1) ({ L[nx - 1].1 with e := (m : Nat) }, L[nx - 1].2) = L.dropLast ++ [({ L[nx - 1].1 with e := (m : Nat) }, L[nx - 1].2)] := by
    rw [List.set_eq_take_append_cons_drop, if_pos hi, List.drop_eq_nil_of_le (by omega), List.dropLast_eq_take, hlen]
  refine ⟨b1.set_ 8 _, k.bg, (k.a.off f1 (by decide)).off f2 (by decide), (k.t.off f1 (by decide) (by decide)).off f2 (by decide) (by decide),
    ⟨L.set (nx - 1) ({ L[nx - 1].1 with e := (m : Nat) }, L[nx - 1].2), ?_, own_off hset f2 (by decide), fun z hz => ?_⟩, (k.r.off f1 (by decide) (by decide)).off f2 (by decide) (by decide), (k.o.off f1 (by decide) (by decide)).off f2 (by decide) (by decide), k.dis, ?_⟩
  · rw [hm1, hy, List.map_append, ← hL, List.map_dropLast]; rfl
  · rw [hm1] at hz
    rcases List.mem_append.1 hz with hz | hz
    · exact hW1 z ((List.dropLast_subset _ hz))
    · simp only [List.mem_singleton] at hz
      subst hz
      have q := hW1 _ (List.getElem_mem hi)
      exact ⟨q.1, q.2.1, ⟨by show _ ≤ ((m : Nat) : Int); omega, by show ((m : Nat) : Int) ≤ _; omega⟩, q.2.2.2.1, q.2.2.2.2⟩
  · exact ⟨k.ok.t, by have := k.ok.x; simp; omega, k.ok.r, k.ok.o, k.ok.ks, by simp⟩
attribute [local go_sem] byte_mk ByteArray.extract_mk

set_option maxRecDepth 100000 in
set_option maxHeartbeats 4000000 in
theorem endText_any (B g : Nat) (h : RdH) (ats : List At) (s : Rd) (v : Array Value) (w : World) (k : OwnR w B g h ats s) :
    Calls Tryd.prog 29 #[.pointer (some ⟨g, 0, none⟩), .agg v] w (Steps B g ats w (Vert.endText s)) := by
  obtain ⟨⟨Aa, na, ca⟩, ⟨At', nt, ct⟩, ⟨Ax, nx, cx⟩, ⟨Ar, nr, cr⟩, ⟨Ao, no, co⟩⟩ := h
  obtain ⟨toks, texts, regs, opn, tx⟩ := s
  have hBg : B ≤ w.heap.size := Nat.le_trans k.bg (Nat.le_of_lt k.blk.lt)
  have hB0 := (Below.refl B w).alloc hBg (.cells v 68)
  have HL0 := Lib.hid ((Below.refl w.heap.size w).alloc (Nat.le_refl _) (.cells v 68))
  have kb := k.alloc (.cells v 68)
  have c8 : _ = some (Value.bool tx) := kb.blk.cell 8
  have f8 := kb.blk.free 8
  have c7 : _ = some (Value.slice Ao no co) := kb.blk.cell 7
  have c2 : _ = some (Value.slice Ax nx cx) := kb.blk.cell 2
  have c1 : _ = some (Value.slice At' nt ct) := kb.blk.cell 1
  have ho : opn.length = no := k.o.len
  have hx : texts.length = nx := k.x.len
  have ht : toks.length = nt := k.t.reads.len
  have kt := k.ok.t
  have kx := k.ok.x
  have ktx := k.ok.tx
  dsimp only at kt kx ktx
  cases tx with
  | false =>
    have HF : Hid (Vert.endText ⟨toks, texts, regs, opn, false⟩ = .error 17) := by show _ = _; unfold Vert.endText; rfl
    have HB0 := Lib.hid hB0
    clear hB0 k kb
    go_enter Tryd.func29, Tryd.ntmps29
    go_wp2
    go_ret
    rw [HF.out]
    exact Steps.err hBg HL0.out rfl
  | true =>
    by_cases h0 : 0 < no
    · have HF : Hid (Vert.endText ⟨toks, texts, regs, opn, true⟩ = .error 6) := by
        show _ = _; unfold Vert.endText; dsimp only; rw [if_neg (by simp), if_pos (by intro e; subst e; simp at ho; omega)]
      have HB0 := Lib.hid hB0
      clear hB0 k kb
      go_enter Tryd.func29, Tryd.ntmps29
      go_wp2
      go_ret
      rw [HF.out]
      exact Steps.err hBg HL0.out rfl
    · obtain rfl : no = 0 := by omega
      obtain rfl : opn = [] := List.eq_nil_of_length_eq_zero (by omega)
      have hne : texts ≠ [] := ktx rfl
      have hnx : 0 < nx := by rw [← hx]; exact List.length_pos_iff.2 hne
      obtain ⟨gx, rfl, hgB, hgw, -⟩ := kb.x.block hnx
      obtain ⟨g', o', H, hk, hA, -, hTx, -, p1, -, -⟩ := kb.x.reads.at_ (k := nx - 1) (by show nx - 1 < nx; omega)
      cases hA
      obtain ⟨t, ht2⟩ : ∃ t, texts[nx - 1] = t := ⟨_, rfl⟩
      have hlast : texts.getLast? = some t := by rw [List.getLast?_eq_getElem?, hx, List.getElem?_eq_getElem hk, ht2]
      simp only [ht2, Nat.zero_add] at p1 hTx
      have hw1 : IntKind.i64.wrap ((nx : Int) - 1) = ((nx - 1 : Nat) : Int) := by rw [IntWalk.i64_in _ (by omega)]; omega
      have hi0 : (0 : Int) ≤ ((nx - 1 : Nat) : Int) := by omega
      have hi1 : ((nx - 1 : Nat) : Int) < (nx : Int) := by omega
      have HB0 := Lib.hid hB0
      have HKB := Lib.hid kb
      have HL := Lib.hid hlast
      clear hB0 k kb hlast
      by_cases hb : t.b = nt
      · have HF : Hid (Vert.endText ⟨toks, texts, regs, [], true⟩ = .error 8) := by
          show _ = _; unfold Vert.endText; dsimp only; rw [if_neg (by simp), if_neg (by simp), HL.out]; dsimp only; rw [if_pos (by rw [hb, ht])]
        rw [hb] at p1
        go_enter Tryd.func29, Tryd.ntmps29
        go_wp2
        go_quiet (fail)
        go_wp2
        go_quiet (fail)
        go_wp2
        go_ret
        rw [HF.out]
        exact Steps.err hBg (below_drewN (below_drewN HL0.out _) _) rfl
      · have hb2 : (t.b == (nt : Int)) = false := by rw [beq_eq_false_iff_ne]; exact hb
        have HF : Hid (Vert.endText ⟨toks, texts, regs, [], true⟩ = .ok ⟨toks, texts.dropLast ++ [{ t with e := (nt : Nat) }], regs, [], false⟩) := by
          show _ = _; unfold Vert.endText; dsimp only; rw [if_neg (by simp), if_neg (by simp), HL.out]; dsimp only; rw [if_neg (by rw [ht]; exact hb), ht]
        go_enter Tryd.func29, Tryd.ntmps29
        go_wp2
        go_quiet (fail)
        go_wp2
        go_quiet (fail)
        generalize hwq : World.drewN _ _ = wq
        have kq : OwnR wq B g ⟨⟨Aa, na, ca⟩, ⟨At', nt, ct⟩, ⟨some ⟨gx, 0, none⟩, nx, cx⟩, ⟨Ar, nr, cr⟩, ⟨Ao, 0, co⟩⟩ ats ⟨toks, texts, regs, [], true⟩ := by rw [← hwq]; first | exact HKB.out.drewN _ | exact (HKB.out.drewN _).drewN _
        have HLQ : Hid (Below w.heap.size w wq) := by rw [← hwq]; first | exact below_drewN HL0.out _ | exact below_drewN (below_drewN HL0.out _) _
        have bq : Below B w wq := by rw [← hwq]; first | exact below_drewN HB0.out _ | exact below_drewN (below_drewN HB0.out _) _
        clear hwq c8 f8 c7 c2 c1 p1
        obtain ⟨gx', hgx', -, -, cs, hbx⟩ := kq.x.block hnx
        cases hgx'
        have c1 : wq.cell? ⟨g, 1, none⟩ = some (Value.slice At' nt ct) := kq.blk.cell 1
        have fx : wq.frozen? ⟨gx, (nx - 1) * 4 + 2, none⟩ = false := hbx.free _
        obtain ⟨ue, lx⟩ : ∃ u, wq.cell? ⟨gx, (nx - 1) * 4 + 2, none⟩ = some u := by
          obtain ⟨g'', o'', H'', hk'', hA'', -, -, -, -, p2, -⟩ := kq.x.reads.at_ (k := nx - 1) (by show nx - 1 < nx; omega)
          cases hA''
          simp only [Nat.zero_add] at p2
          exact ⟨_, p2⟩
        have E1 := kq.end_t rfl hnx HL.out (m := nt) (by omega)
        have b1 := (kq.blk.off (Off.set_ hbx ((nx - 1) * 4 + 2) (.int .i64 (nt : Nat))) (by decide))
        have c8 : _ = some (Value.bool true) := b1.cell 8
        have f8 := b1.free 8
        have HE1 := Lib.hid E1
        have HON : Hid (Only w ((wq.setCell ⟨gx, (nx - 1) * 4 + 2, none⟩ (.int .i64 (nt : Nat))).setCell ⟨g, 8, none⟩ (.bool false))) := ((Only.below HLQ.out).off (Off.set_ hbx _ _) (by decide)).off (Off.set_ b1 8 _) (by decide)
        have BQ := Lib.hid bq
        have HBg := Lib.hid kq.bg
        clear E1 bq kq b1 hbx
        go_wp2
        go_ret
        rw [HF.out]
        exact ⟨(BQ.out.setCell (p := ⟨gx, (nx - 1) * 4 + 2, none⟩) hgB _).setCell (p := ⟨g, 8, none⟩) HBg.out _, HON.out, rfl, _, HE1.out⟩
end Go.Proofs.YtgkdaebiefhgdaaDoor
