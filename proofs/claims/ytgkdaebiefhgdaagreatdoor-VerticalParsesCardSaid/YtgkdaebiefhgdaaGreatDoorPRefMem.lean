/-
 The reference's reader of a vertical file in memory: a block of twelve cells, rows of the call's own; its method fail. No conditions.
-/
import Derived.Test.YtgkdaebiefhgdaaGreatDoorPVertBgn
import Derived.Test.YtgkdaebiefhgdaaGreatDoorPVertMm
import Derived.Test.YtgkdaebiefhgdaaGreatDoorPWrAll
import Derived.Test.YtgkdaebiefhgdaaGreatDoorPRefVert
import Derived.Test.YtgkdaebiefhgdaaGreatDoorPMarkRefSort
import Derived.Laws.CopyRow
namespace Go.Proofs.YtgkdaebiefhgdaaGreatDoor
set_option linter.unusedSimpArgs false
set_option linter.unusedVariables false
open Go.RowKit
open Feat (Bs)
open Tagp (KV)
attribute [local go_sem] byte_mk ByteArray.extract_mk
theorem info_intF : (Tryz.prog.info? 3).map (fun i => (i.zero, i.size, i.bytes)) = some (some (.int .i64 0), 1, 8) := by kernel_rfl
theorem nints_one (l : List Nat) : ∀ u ∈ nints l, u.oneCell' = true := by
 intro u hu
 unfold nints at hu
 obtain ⟨k, _, rfl⟩ := List.mem_map.1 hu
 rfl
theorem nints_len (l : List Nat) : (nints l).length = l.length := by simp [nints]

def OpenF (w : World) (B : Nat) (h : Hd) (l : List Nat) : Prop :=
 w.ownsRow B 3 1 h.v h.n (nints l) ∨ (h.c = h.n ∧ l.length = h.n ∧ ∃ g cs, h.A = some ⟨g, 0, none⟩ ∧ B ≤ g ∧ Blk w g 3 cs ∧ cs.toList.take h.n = nints l)
section
variable {w w1 : World} {B : Nat} {h : Hd} {l : List Nat}
theorem OpenF.len (k : OpenF w B h l) : l.length = h.n := by
 rcases k with k | k
 ·have := k.1; rw [nints_len] at this; omega
 ·exact k.2.1
theorem OpenF.cap (k : OpenF w B h l) : h.n ≤ h.c := by
 rcases k with k | k
 ·exact (own_fit k).1
 ·rw [k.1]; exact Nat.le_refl _
theorem OpenF.off {R : TypeId} (k : OpenF w B h l) (f : Off R w w1) (n : 3 ≠ R) : OpenF w1 B h l := by
 rcases k with k | ⟨h1, h2, g, cs, e, hb, hk, ht⟩
 ·exact .inl (own_off k f n)
 ·exact .inr ⟨h1, h2, g, cs, e, hb, hk.off f n, ht⟩
theorem OpenF.blk (k : OpenF w B h l) (hn : 0 < h.n) : ∃ g cs, h.A = some ⟨g, 0, none⟩ ∧ B ≤ g ∧ Blk w g 3 cs ∧ h.n ≤ cs.size ∧ cs.toList.take h.n = nints l := by
 rcases k with k | ⟨h1, h2, g, cs, e, hb, hk, ht⟩
 ·rcases k.2 with ⟨_, h0⟩ | ⟨g, cap, cur, hv, hb, hk, hc, _, hs, ht⟩
  ·omega
  ·have e : h.v = .slice (some ⟨g, 0, none⟩) h.n cap := hv
   injection e with e1 e2 e3
   exact ⟨g, cur, e1, hb, hk, by omega, by simpa using ht⟩
 ·refine ⟨g, cs, e, hb, hk, ?_, ht⟩
  have := congrArg List.length ht
  rw [nints_len, List.length_take, h2, Array.length_toList] at this
  omega
theorem OpenF.cell (k : OpenF w B h l) {j : Nat} (hj : j < l.length) : ∃ g, h.A = some ⟨g, 0, none⟩ ∧ w.cell? ⟨g, j, none⟩ = some (.int .i64 (l[j] : Nat)) := by
 have hl := k.len
 obtain ⟨g, cs, e, hb, hk, hs, ht⟩ := k.blk (by omega)
 refine ⟨g, e, ?_⟩
 have h1 : cs.toList[j]? = some (Value.int .i64 (l[j] : Nat)) := by
  have h2 : (cs.toList.take h.n)[j]? = (nints l)[j]? := by rw [ht]
  rw [List.getElem?_take, if_pos (by omega)] at h2
  rw [h2]
  simp [nints, hj]
 have h3 := hk.cell j
 rw [h3, ← h1]
 simp
set_option maxRecDepth 100000 in
theorem step_open {ops : Array Oper} {o : Oper} {a : Act} {K : Act → World → Prop} {Q : Exit → Act → World → Prop} {E : Prop} (hgd : o.guard = none) (s x : Operand)
  (ho : o.op = .call { callee := .builtin .append, args := #[s, x], argTypes := #[27, 27] }) (k : OpenF w B h l) (hB : B ≤ w.heap.size) (hs : a.eval s = h.v) (hn : h.n ≤ 1048576)
  (ad : Addr) (q : Nat) (hx : a.eval x = .slice (some ad) 1 1) (hc : w.cell? (ad.add 0) = some (.int .i64 (q : Nat)))
  (hK : ∀ A' c' w', OpenF w' B ⟨A', h.n + 1, c'⟩ (l ++ [q]) → Off 3 w w' → Below B w w' → K (a.put o.dst (.slice A' (h.n + 1) c')) w') :
  if Region.wanted o (yielded ops a.tmps) = true then Oper.wp Tryz.prog o a w K Q else E := by
 obtain ⟨i0, hi0, hz0, hz1, hz2⟩ := info_parts info_intF
 have hnew : ∀ (j : Nat) u, ([Value.int .i64 (q : Nat)] : List Value)[j]? = some u → w.cell? (ad.add j) = some u := fun j u hj => by
  cases j with
  | zero => simp at hj; subst hj; exact hc
  | succ j => simp at hj
 have h1 : ∀ u ∈ ([Value.int .i64 (q : Nat)] : List Value), u.oneCell' = true := fun u hu => by simp at hu; subst hu; rfl
 have e : nints l ++ [Value.int .i64 (q : Nat)] = nints (l ++ [q]) := by simp [nints]
 rcases k with k | ⟨e1, e2, g, cs, e3, hb, hk, ht⟩
 ·refine step_app _ hgd s x _ ho B 3 i0 _ 1 8 Tryz.underlying27 hi0 hz0 hz1 hz2 rfl (by decide) h.v h.n (nints l) hs k (some ad) 1 1 [.int .i64 (q : Nat)] hx rfl (fun _ => ⟨ad, rfl, hnew⟩) h1 (by unfold maxLen; omega) (by omega) hB ?_
  intro v' w' own' gr' _
  obtain ⟨A', c', rfl, _, _⟩ := own_slc own'
  rw [e] at own'
  exact hK A' c' w' (.inl own') (Off.grown k gr') ((Below.refl B w).grown gr' hB fun j hj => (k.lt j hj).1)
 ·have hs2 : a.eval s = .slice h.A h.n h.n := by rw [hs]; show Value.slice h.A h.n h.c = _; rw [e1]
  have hold : 0 < (nints l).length → ∃ b, h.A = some b ∧ ∀ (j : Nat) u, (nints l)[j]? = some u → w.cell? (b.add j) = some u := fun _ => ⟨⟨g, 0, none⟩, e3, fun j u hj => by
   have hj2 : j < l.length := by have := (List.getElem?_eq_some_iff.1 hj).1; rwa [nints_len] at this
   obtain ⟨g2, e4, hc2⟩ := OpenF.cell (w := w) (B := B) (h := h) (l := l) (.inr ⟨e1, e2, g, cs, e3, hb, hk, ht⟩) hj2
   rw [e3] at e4
   cases e4
   have : u = .int .i64 (l[j] : Nat) := by simpa [nints, hj2] using hj.symm
   rw [this, ← hc2]
   congr 1
   unfold Addr.add; split <;> simp_all⟩
  refine step_grows hgd s x _ ho 3 i0 _ 1 8 Tryz.underlying27 hi0 hz0 hz1 hz2 rfl (by decide) h.A h.n (nints l) hs2 (by rw [nints_len, e2]; omega) hold ad 1 1 [.int .i64 (q : Nat)] hx rfl hnew h1 (by decide) (by unfold maxLen; omega) (by omega) ?_
  intro v' w' own' gr'
  obtain ⟨A', c', rfl, _, _⟩ := own_slc own'
  rw [e] at own'
  have hbw : Below w.heap.size w w' := (Below.refl _ w).grown gr' (Nat.le_refl _) fun j hj => (by cases hj)
  exact hK A' c' w' (.inl (own_base own' hB)) (Off.below hbw) (hbw.mono hB)
set_option maxRecDepth 100000 in
theorem step_shut {ops : Array Oper} {o : Oper} {a : Act} {K : Act → World → Prop} {Q : Exit → Act → World → Prop} {E : Prop} (hgd : o.guard = none) (s x : Operand)
  (ho : o.op = .call { callee := .builtin .append, args := #[s, x], argTypes := #[27, 27] }) (k : OpenF w B h l) (hB : B ≤ w.heap.size) (hn : h.n ≤ 1048576) {i : Nat} (hi : i < l.length)
  (hs : a.eval s = .slice h.A i i) (hx : a.eval x = .slice (cutAt h.A (i + 1) h.c 1) (h.n - (i + 1)) (h.c - (i + 1)))
  (hK : ∀ A' c' w', OpenF w' B ⟨A', h.n - 1, c'⟩ (l.eraseIdx i) → Off 3 w w' → Below B w w' → K (a.put o.dst (.slice A' (h.n - 1) c')) w') :
  if Region.wanted o (yielded ops a.tmps) = true then Oper.wp Tryz.prog o a w K Q else E := by
 obtain ⟨i0, hi0, hz0, hz1, hz2⟩ := info_parts info_intF
 have hl := k.len
 have hcap := k.cap
 obtain ⟨g, cs, e, hb, hk, hsz, ht⟩ := k.blk (by omega)
 have hcell : ∀ j (hj : j < l.length), w.cell? ⟨g, j, none⟩ = some (.int .i64 (l[j] : Nat)) := fun j hj => by
  obtain ⟨g2, e4, hc2⟩ := k.cell hj
  rw [e] at e4
  cases e4
  exact hc2
 rw [e] at hs hx
 have her : nints (l.take i) ++ nints (l.drop (i + 1)) = nints (l.eraseIdx i) := by
  rw [List.eraseIdx_eq_take_drop_succ]; simp [nints]
 by_cases hm : h.n - (i + 1) = 0
 ·have hin : i = h.n - 1 := by omega
  have hdr : l.drop (i + 1) = [] := List.drop_eq_nil_of_le (by omega)
  have hw : Region.wanted o (yielded ops a.tmps) = true := by simp [Region.wanted, hgd]
  rw [if_pos hw]
  obtain ⟨ad, had⟩ : ∃ ad, cutAt (some (⟨g, 0, none⟩ : Addr)) (i + 1) h.c 1 = some ad := by
   unfold cutAt; split
   ·exact ⟨_, rfl⟩
   ·exact ⟨_, rfl⟩
  rw [had, hm] at hx
  have hrun := run_append_room (P := Tryz.prog) w 27 o.type 3 i0 Tryz.underlying27 hi0 g i i cs hk ad 0 (h.c - (i + 1)) [] (by simp) (fun j u hj => by simp at hj) (fun u hu => by cases hu) (by omega) (by rw [hz1]; simp; omega)
  have hsame : (cs.toList.take (i * i0.size) ++ ([] : List Value) ++ cs.toList.drop (i * i0.size + ([] : List Value).length)).toArray = cs := by simp
  rw [hsame, setRow_self w g cs _ _ hk] at hrun
  unfold Oper.wp execOp
  simp only [ho, resolve, invoke, builtin, Sem.run_bind, Sem.run_pure, Result.andThen_ok, List.map_toArray, List.map_cons, List.map_nil, hs, hx, hrun]
  have := hK (some ⟨g, 0, none⟩) i w (.inr ⟨hin, by rw [List.length_eraseIdx, if_pos hi]; show l.length - 1 = h.n - 1; omega, g, cs, rfl, hb, hk, by
   show cs.toList.take (h.n - 1) = _
   rw [← her, hdr, ← hin]
   have h2 := congrArg (List.take i) ht
   rw [List.take_take, Nat.min_eq_left (by omega)] at h2
   rw [h2]
   simp [nints, List.map_take]⟩) ⟨Nat.le_refl _, fun _ _ _ _ _ => rfl⟩ (Below.refl _ _)
  rw [← hin] at this
  exact this
 ·have hic : i + 1 < h.c := by omega
  rw [cutAt_in hic] at hx
  have hnew : ∀ (j : Nat) u, (nints (l.drop (i + 1)))[j]? = some u → w.cell? ((⟨g, 0 + (i + 1) * 1, none⟩ : Addr).add j) = some u := fun j u hj => by
   have hj2 : i + 1 + j < l.length := by have := (List.getElem?_eq_some_iff.1 hj).1; rw [nints_len, List.length_drop] at this; omega
   have : u = .int .i64 (l[i + 1 + j] : Nat) := by
    have h2 : (nints (l.drop (i + 1)))[j]? = some (.int .i64 (l[i + 1 + j] : Nat)) := by simp [nints, hj2]
    rw [h2] at hj
    injection hj with hj
    exact hj.symm
   rw [this, ← hcell _ hj2]
   congr 1
   unfold Addr.add; split <;> simp_all
  have hold : 0 < (nints (l.take i)).length → ∃ b, (some (⟨g, 0, none⟩ : Addr)) = some b ∧ ∀ (j : Nat) u, (nints (l.take i))[j]? = some u → w.cell? (b.add j) = some u := fun _ => ⟨_, rfl, fun j u hj => by
   have hj1 : j < i ∧ j < l.length := by have := (List.getElem?_eq_some_iff.1 hj).1; rw [nints_len, List.length_take] at this; omega
   have : u = .int .i64 (l[j]'hj1.2 : Nat) := by
    have h2 : (nints (l.take i))[j]? = some (.int .i64 (l[j]'hj1.2 : Nat)) := by simp [nints, hj1.1, hj1.2]
    rw [h2] at hj
    injection hj with hj
    exact hj.symm
   rw [this, ← hcell j hj1.2]
   congr 1
   unfold Addr.add; split <;> simp_all⟩
  refine step_grows hgd s x _ ho 3 i0 _ 1 8 Tryz.underlying27 hi0 hz0 hz1 hz2 rfl (by decide) (some ⟨g, 0, none⟩) i (nints (l.take i)) hs (by rw [nints_len, List.length_take]; omega) hold ⟨g, 0 + (i + 1) * 1, none⟩ (h.n - (i + 1)) (h.c - (i + 1)) (nints (l.drop (i + 1))) hx (by rw [nints_len, List.length_drop]; omega) hnew (nints_one _) (by omega) (by unfold maxLen; omega) (by omega) ?_
  intro v' w' own' gr'
  have hnn : i + (h.n - (i + 1)) = h.n - 1 := by omega
  rw [hnn, her] at own'
  obtain ⟨A', c', rfl, _, _⟩ := own_slc own'
  have hbw : Below w.heap.size w w' := (Below.refl _ w).grown gr' (Nat.le_refl _) fun j hj => (by cases hj)
  exact hK A' c' w' (.inl (own_base own' hB)) (Off.below hbw) (hbw.mono hB)
end
structure RfH where
 a : Hd
 t : Hd
 x : Hd
 r : Hd
 o : Hd
abbrev RfH.cs (h : RfH) (d : Bs) (y : Rf) : Array Value := #[str d, h.a.v, h.t.v, h.x.v, h.r.v, .slice none 0 0, .slice none 0 0, .slice none 0 0, h.o.v, .bool y.tx, .int .i64 (y.at_ : Nat), .int .i64 (y.e : Nat)]
structure RfOk (y : Rf) : Prop where
 t : y.toks.length ≤ 4096
 x : y.texts.length ≤ 64
 r : y.regs.length ≤ 1024
 o : y.opn.length ≤ 40
 ks : ∀ z ∈ y.regs, z.ks.length ≤ 1048576
structure OwnF (w : World) (B g : Nat) (h : RfH) (d : Bs) (ats : List At) (y : Rf) : Prop where
 blk : Blk w g 60 (h.cs d y)
 bg : B ≤ g
 a : OA w B h.a ats
 t : OT w B h.t y.toks
 x : OX w B 66 h.x y.texts
 r : OX w B 69 h.r y.regs
 o : OpenF w B h.o y.opn
 ok : RfOk y
section
variable {w w1 : World} {B g : Nat} {h : RfH} {d : Bs} {ats : List At} {y : Rf}
theorem OwnF.off {R : TypeId} (k : OwnF w B g h d ats y) (f : Off R w w1) (n : 60 ≠ R ∧ 73 ≠ R ∧ 28 ≠ R ∧ 9 ≠ R ∧ 66 ≠ R ∧ 69 ≠ R ∧ 84 ≠ R ∧ 3 ≠ R) : OwnF w1 B g h d ats y :=
 ⟨k.blk.off f n.1, k.bg, k.a.off f n.2.1, k.t.off f n.2.2.1 n.2.2.2.1, k.x.off f n.2.2.2.2.1 n.2.2.2.2.2.2.1, k.r.off f n.2.2.2.2.2.1 n.2.2.2.2.2.2.1, k.o.off f n.2.2.2.2.2.2.2, k.ok⟩
theorem OwnF.below (k : OwnF w B g h d ats y) (hb : Below w.heap.size w w1) : OwnF w1 B g h d ats y := k.off (R := 4294967295) (Off.below hb) (by decide)
theorem OwnF.alloc (k : OwnF w B g h d ats y) (o : Obj) : OwnF (w.alloc o) B g h d ats y := k.below ((Below.refl _ _).alloc (Nat.le_refl _) o)
theorem OwnF.drew (k : OwnF w B g h d ats y) : OwnF w.drew B g h d ats y := k.off (R := 4294967295) (Off.drew w) (by decide)
theorem OwnF.drewN (k : OwnF w B g h d ats y) (n : Nat) : OwnF (w.drewN n) B g h d ats y := k.off (R := 4294967295) (Off.drewN w n) (by decide)
theorem OwnF.Bg (k : OwnF w B g h d ats y) : B ≤ w.heap.size := Nat.le_trans k.bg (Nat.le_of_lt k.blk.lt)
theorem OwnF.cells {y' : Rf} {d' : Bs} (k : OwnF w B g h d ats y) (f : Off 60 w w1) (hb : Blk w1 g 60 (h.cs d' y')) (e1 : y'.toks = y.toks) (e2 : y'.texts = y.texts) (e3 : y'.regs = y.regs) (e4 : y'.opn = y.opn) (hok : RfOk y') : OwnF w1 B g h d' ats y' :=
 ⟨hb, k.bg, k.a.off f (by decide), e1 ▸ k.t.off f (by decide) (by decide), e2 ▸ k.x.off f (by decide) (by decide), e3 ▸ k.r.off f (by decide) (by decide), e4 ▸ k.o.off f (by decide), hok⟩
def failW (w : World) (g : Nat) (y : Rf) (a k : Nat) : World := if y.e = 0 then (w.setCell ⟨g, 10, none⟩ (.int .i64 (a : Nat))).setCell ⟨g, 11, none⟩ (.int .i64 (k : Nat)) else w
theorem RfOk.fail (k : RfOk y) (a e : Nat) : RfOk (y.fail a e) := by
 unfold Rf.fail
 split
 ·exact ⟨k.t, k.x, k.r, k.o, k.ks⟩
 ·exact k
theorem fail_same (y : Rf) (a e : Nat) : (y.fail a e).toks = y.toks ∧ (y.fail a e).texts = y.texts ∧ (y.fail a e).regs = y.regs ∧ (y.fail a e).opn = y.opn ∧ (y.fail a e).tx = y.tx := by
 unfold Rf.fail
 split <;> exact ⟨rfl, rfl, rfl, rfl, rfl⟩
theorem failW_off {cs : Array Value} (hb : Blk w g 60 cs) (y : Rf) (a e : Nat) : Off 60 w (failW w g y a e) := by
 unfold failW
 split
 ·exact (Off.set_ hb 10 _).trans (Off.set_ (hb.set_ 10 _) 11 _)
 ·exact ⟨Nat.le_refl _, fun _ _ _ _ _ => rfl⟩
theorem failW_blk (hb : Blk w g 60 (h.cs d y)) (a e : Nat) : Blk (failW w g y a e) g 60 (h.cs d (y.fail a e)) := by
 unfold failW Rf.fail
 split
 ·exact (hb.set_ 10 _).set_ 11 _
 ·exact hb
theorem failW_below (hb : Below B w1 w) (hg : B ≤ g) (y : Rf) (a e : Nat) : Below B w1 (failW w g y a e) := by
 unfold failW
 split
 ·exact (hb.setCell (p := ⟨g, 10, none⟩) hg _).setCell (p := ⟨g, 11, none⟩) hg _
 ·exact hb
theorem OwnF.fail (k : OwnF w B g h d ats y) (a e : Nat) : OwnF (failW w g y a e) B g h d ats (y.fail a e) :=
 have s := fail_same y a e
 k.cells (failW_off k.blk y a e) (failW_blk k.blk a e) s.1 s.2.1 s.2.2.1 s.2.2.2.1 (k.ok.fail a e)
def Fails (g : Nat) (y : Rf) (a k : Nat) (w : World) (e : Ending) (w' : World) : Prop := e = .returned (.tuple #[]) ∧ w' = failW w g y a k
end
set_option maxRecDepth 100000 in
set_option maxHeartbeats 800000 in
theorem rfail_any {g : Nat} {h : RfH} {d : Bs} {y : Rf} (a k : Nat) (w : World) (hb : Blk w g 60 (h.cs d y)) :
  Calls Tryz.prog 28 #[.pointer (some ⟨g, 0, none⟩), .int .i64 (a : Nat), .int .i64 (k : Nat)] w (Fails g y a k w) := by
 have c10 : w.cell? ⟨g, 10, none⟩ = some (.int .i64 (y.at_ : Nat)) := hb.cell 10
 have f10 := hb.free 10
 have c11 : w.cell? ⟨g, 11, none⟩ = some (.int .i64 (y.e : Nat)) := hb.cell 11
 have b2 := hb.set_ 10 (.int .i64 (a : Nat))
 have c11' : (w.setCell ⟨g, 10, none⟩ (.int .i64 (a : Nat))).cell? ⟨g, 11, none⟩ = some (.int .i64 (y.e : Nat)) := b2.cell 11
 have f11' := b2.free 11
 clear b2 hb
 by_cases he : y.e = 0
 ·have HF : Hid (failW w g y a k = (w.setCell ⟨g, 10, none⟩ (.int .i64 (a : Nat))).setCell ⟨g, 11, none⟩ (.int .i64 (k : Nat))) := by show _ = _; unfold failW; rw [if_pos he]
  rw [he] at c11 c11'
  clear he
  go_enter Tryz.func28, Tryz.ntmps28
  go_wp2
  go_end0
  exact ⟨rfl, by rw [HF.out]⟩
 ·have HF : Hid (failW w g y a k = w) := by show _ = _; unfold failW; rw [if_neg he]
  have e0 : ((y.e : Int) == 0) = false := by rw [beq_eq_false_iff_ne]; omega
  clear he
  go_enter Tryz.func28, Tryz.ntmps28
  go_wp2
  go_end0
  exact ⟨rfl, by rw [HF.out]⟩
end Go.Proofs.YtgkdaebiefhgdaaGreatDoor
