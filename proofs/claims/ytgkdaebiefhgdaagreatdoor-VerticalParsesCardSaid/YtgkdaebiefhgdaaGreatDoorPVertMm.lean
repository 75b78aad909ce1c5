/-
 Several texts of this seat, one behind the other: VertMem, VertEndQ. No conditions but those of each.
-/
import Derived.Test.YtgkdaebiefhgdaaGreatDoorPVert
import Derived.Test.YtgkdaebiefhgdaaGreatDoorPCorOwn
import Derived.Maps.AppendAt
import Derived.Test.YtgkdaebiefhgdaaGreatDoorPCorSrt
namespace Go.Proofs.YtgkdaebiefhgdaaGreatDoor
set_option linter.unusedSimpArgs false
set_option linter.unusedVariables false
open Go.RowKit
open Feat (Bs)
open Tagp (KV)
open Vert (Rd)
theorem own_grownV {w w2 : World} {b1 s1 n1 : Nat} {e1 : TypeId} {v1 vx : Value} {l1 : List Value} (h : w.ownsRow b1 e1 s1 v1 n1 l1) (gr : w.grownBy w2 vx.ownBlock) (hne : ∀ b, v1.ownBlock = some b → vx.ownBlock ≠ some b) : w2.ownsRow b1 e1 s1 v1 n1 l1 :=
 own_same h fun g hg => gr.block g (h.lt g hg).2 (fun e => hne g hg e.symm)

structure RdH where
 a : Hd
 t : Hd
 x : Hd
 r : Hd
 o : Hd
abbrev RdH.cs (h : RdH) (tx : Bool) : Array Value := #[h.a.v, h.t.v, h.x.v, h.r.v, .slice none 0 0, .slice none 0 0, .slice none 0 0, h.o.v, .bool tx]
structure RdOk (s : Rd) : Prop where
 t : s.toks.length ≤ 4096
 x : s.texts.length ≤ 64
 r : s.regs.length + s.opn.length ≤ 1024
 o : s.opn.length ≤ 40
 ks : ∀ y : Cor.Reg, y ∈ s.regs ∨ y ∈ s.opn → y.ks.length ≤ 1048576
 tx : s.tx = true → s.texts ≠ []
structure OwnR (w : World) (B g : Nat) (h : RdH) (ats : List At) (s : Rd) : Prop where
 blk : Blk w g 49 (h.cs s.tx)
 bg : B ≤ g
 a : OA w B h.a ats
 t : OT w B h.t s.toks
 x : OX w B 66 h.x s.texts
 r : OX w B 69 h.r s.regs
 o : OX w B 69 h.o s.opn
 dis : ∀ b, h.r.v.ownBlock = some b → h.o.v.ownBlock ≠ some b
 ok : RdOk s
section
variable {w w1 : World} {B g : Nat} {h : RdH} {ats : List At} {x : Rd}
theorem OwnR.off {R : TypeId} (k : OwnR w B g h ats x) (f : Off R w w1) (n : 49 ≠ R ∧ 73 ≠ R ∧ 28 ≠ R ∧ 9 ≠ R ∧ 66 ≠ R ∧ 69 ≠ R ∧ 84 ≠ R) : OwnR w1 B g h ats x :=
 ⟨k.blk.off f n.1, k.bg, k.a.off f n.2.1, k.t.off f n.2.2.1 n.2.2.2.1, k.x.off f n.2.2.2.2.1 n.2.2.2.2.2.2, k.r.off f n.2.2.2.2.2.1 n.2.2.2.2.2.2, k.o.off f n.2.2.2.2.2.1 n.2.2.2.2.2.2, k.dis, k.ok⟩
theorem OwnR.below (k : OwnR w B g h ats x) (hb : Below w.heap.size w w1) : OwnR w1 B g h ats x := k.off (R := 4294967295) (Off.below hb) (by decide)
theorem OwnR.alloc (k : OwnR w B g h ats x) (o : Obj) : OwnR (w.alloc o) B g h ats x := k.below ((Below.refl _ _).alloc (Nat.le_refl _) o)
theorem OwnR.drew (k : OwnR w B g h ats x) : OwnR w.drew B g h ats x := k.off (R := 4294967295) (Off.drew w) (by decide)
theorem OwnR.drewN (k : OwnR w B g h ats x) (n : Nat) : OwnR (w.drewN n) B g h ats x := k.off (R := 4294967295) (Off.drewN w n) (by decide)
theorem OX.len {E : TypeId} {h : Hd} {l : List Cor.Txt} (k : OX w B E h l) : l.length = h.n := k.reads.len
theorem OwnR.push_o {L : List TH} (k : OwnR w B g h ats x) (hL : L.map Prod.fst = x.opn) (ho : w.ownsRow B 69 4 h.o.v h.o.n (L.flatMap txV)) (hW : ∀ y ∈ L, OwnT w B y) {y : TH} (hy : OwnT w B y)
  {A' : Option Addr} {n' c' : Nat} (own' : w1.ownsRow B 69 4 (.slice A' n' c') n' (L.flatMap txV ++ txV y)) (gr : w.grownBy w1 h.o.v.ownBlock) (hob : (Value.slice A' n' c').ownBlock = h.o.v.ownBlock ∨ (Value.slice A' n' c').ownBlock = some w.heap.size)
  (hok : RdOk { x with opn := x.opn ++ [y.1] }) :
  OwnR (w1.setCell ⟨g, 7, none⟩ (.slice A' n' c')) B g { h with o := ⟨A', n', c'⟩ } ats { x with opn := x.opn ++ [y.1] } := by
 have f1 := Off.grown ho gr
 have b1 := k.blk.off f1 (by decide)
 have f2 := Off.set_ b1 7 (.slice A' n' c')
 obtain ⟨Lr, hLr, hor, hWr⟩ := k.r
 have r1 : OX w1 B 69 h.r x.regs := ⟨Lr, hLr, own_grownV hor gr k.dis, fun z hz => (hWr z hz).off f1 (by decide)⟩
 exact ⟨b1.set_ 7 _, k.bg, (k.a.off f1 (by decide)).off f2 (by decide), (k.t.off f1 (by decide) (by decide)).off f2 (by decide) (by decide), (k.x.off f1 (by decide) (by decide)).off f2 (by decide) (by decide),
  r1.off f2 (by decide) (by decide), ⟨L ++ [y], by simp [hL], by simpa using own_off own' f2 (by decide), fun z hz => by
   rcases List.mem_append.1 hz with hz | hz
   ·exact ((hW z hz).off f1 (by decide)).off f2 (by decide)
   ·simp at hz; subst hz; exact (hy.off f1 (by decide)).off f2 (by decide)⟩,
  fun b hb hb2 => by
   rcases hob with e | e
   ·exact k.dis b hb (e.symm.trans hb2)
   ·have h1 := (hor.lt b hb).2
    have h2 := e.symm.trans hb2
    injection h2 with h2
    omega, hok⟩
theorem OwnR.push_r {L : List TH} (k : OwnR w B g h ats x) (hL : L.map Prod.fst = x.regs) (ho : w.ownsRow B 69 4 h.r.v h.r.n (L.flatMap txV)) (hW : ∀ y ∈ L, OwnT w B y) {y : TH} (hy : OwnT w B y)
  {A' : Option Addr} {n' c' : Nat} (own' : w1.ownsRow B 69 4 (.slice A' n' c') n' (L.flatMap txV ++ txV y)) (gr : w.grownBy w1 h.r.v.ownBlock) (hob : (Value.slice A' n' c').ownBlock = h.r.v.ownBlock ∨ (Value.slice A' n' c').ownBlock = some w.heap.size)
  (hok : RdOk x) :
  Blk (w1.setCell ⟨g, 3, none⟩ (.slice A' n' c')) g 49 (({ h with r := ⟨A', n', c'⟩ } : RdH).cs x.tx) ∧
  OA (w1.setCell ⟨g, 3, none⟩ (.slice A' n' c')) B h.a ats ∧ OT (w1.setCell ⟨g, 3, none⟩ (.slice A' n' c')) B h.t x.toks ∧ OX (w1.setCell ⟨g, 3, none⟩ (.slice A' n' c')) B 66 h.x x.texts ∧
  OX (w1.setCell ⟨g, 3, none⟩ (.slice A' n' c')) B 69 ⟨A', n', c'⟩ (x.regs ++ [y.1]) ∧ OX (w1.setCell ⟨g, 3, none⟩ (.slice A' n' c')) B 69 h.o x.opn ∧
  (∀ b, (Value.slice A' n' c').ownBlock = some b → h.o.v.ownBlock ≠ some b) := by
 have f1 := Off.grown ho gr
 have b1 := k.blk.off f1 (by decide)
 have f2 := Off.set_ b1 3 (.slice A' n' c')
 obtain ⟨Lo, hLo, hoo, hWo⟩ := k.o
 have o1 : OX w1 B 69 h.o x.opn := ⟨Lo, hLo, own_grownV hoo gr (fun b h1 h2 => k.dis b h2 h1), fun z hz => (hWo z hz).off f1 (by decide)⟩
 exact ⟨b1.set_ 3 _, (k.a.off f1 (by decide)).off f2 (by decide), (k.t.off f1 (by decide) (by decide)).off f2 (by decide) (by decide), (k.x.off f1 (by decide) (by decide)).off f2 (by decide) (by decide),
  ⟨L ++ [y], by simp [hL], by simpa using own_off own' f2 (by decide), fun z hz => by
   rcases List.mem_append.1 hz with hz | hz
   ·exact ((hW z hz).off f1 (by decide)).off f2 (by decide)
   ·simp at hz; subst hz; exact (hy.off f1 (by decide)).off f2 (by decide)⟩, o1.off f2 (by decide) (by decide),
  fun b hb hb2 => by
   rcases hob with e | e
   ·exact k.dis b (e.symm.trans hb) hb2
   ·have h1 := (hoo.lt b hb2).2
    have h2 := e.symm.trans hb
    injection h2 with h2
    omega⟩
theorem OwnR.push_x {L : List TH} (k : OwnR w B g h ats x) (hL : L.map Prod.fst = x.texts) (ho : w.ownsRow B 66 4 h.x.v h.x.n (L.flatMap txV)) (hW : ∀ y ∈ L, OwnT w B y) {y : TH} (hy : OwnT w B y)
  {A' : Option Addr} {n' c' : Nat} (own' : w1.ownsRow B 66 4 (.slice A' n' c') n' (L.flatMap txV ++ txV y)) (gr : w.grownBy w1 h.x.v.ownBlock)
  (hok : RdOk { x with texts := x.texts ++ [y.1], tx := true }) :
  OwnR ((w1.setCell ⟨g, 2, none⟩ (.slice A' n' c')).setCell ⟨g, 8, none⟩ (.bool true)) B g { h with x := ⟨A', n', c'⟩ } ats { x with texts := x.texts ++ [y.1], tx := true } := by
 have f1 := Off.grown ho gr
 have b1 := k.blk.off f1 (by decide)
 have f2 := (Off.set_ b1 2 (.slice A' n' c')).trans (Off.set_ (b1.set_ 2 (.slice A' n' c')) 8 (.bool true))
 exact ⟨(b1.set_ 2 _).set_ 8 _, k.bg, (k.a.off f1 (by decide)).off f2 (by decide), (k.t.off f1 (by decide) (by decide)).off f2 (by decide) (by decide),
  ⟨L ++ [y], by simp [hL], by simpa using own_off own' f2 (by decide), fun z hz => by
   rcases List.mem_append.1 hz with hz | hz
   ·exact ((hW z hz).off f1 (by decide)).off f2 (by decide)
   ·simp at hz; subst hz; exact (hy.off f1 (by decide)).off f2 (by decide)⟩, (k.r.off f1 (by decide) (by decide)).off f2 (by decide) (by decide), (k.o.off f1 (by decide) (by decide)).off f2 (by decide) (by decide), k.dis, hok⟩
theorem OwnR.push_t {L : List KH} (k : OwnR w B g h ats x) (hL : L.map Prod.fst = x.toks) (ho : w.ownsRow B 28 1 h.t.v h.t.n (L.flatMap tkV)) (hW : ∀ y ∈ L, OwnW w B y.2 y.1) {y : Hd} {s : List Bs} (hy : OwnW w B y s)
  {A' : Option Addr} {n' c' : Nat} (own' : w1.ownsRow B 28 1 (.slice A' n' c') n' (L.flatMap tkV ++ [y.v])) (gr : w.grownBy w1 h.t.v.ownBlock)
  (hok : RdOk { x with toks := x.toks ++ [s] }) :
  OwnR (w1.setCell ⟨g, 1, none⟩ (.slice A' n' c')) B g { h with t := ⟨A', n', c'⟩ } ats { x with toks := x.toks ++ [s] } := by
 have f1 := Off.grown ho gr
 have b1 := k.blk.off f1 (by decide)
 have f2 := Off.set_ b1 1 (.slice A' n' c')
 exact ⟨b1.set_ 1 _, k.bg, (k.a.off f1 (by decide)).off f2 (by decide), ⟨L ++ [(s, y)], by simp [hL], by simpa [tkV] using own_off own' f2 (by decide), fun z hz => by
   rcases List.mem_append.1 hz with hz | hz
   ·exact ((hW z hz).off f1 (by decide)).off f2 (by decide)
   ·simp at hz; subst hz; exact (hy.off f1 (by decide)).off f2 (by decide)⟩,
  (k.x.off f1 (by decide) (by decide)).off f2 (by decide) (by decide), (k.r.off f1 (by decide) (by decide)).off f2 (by decide) (by decide), (k.o.off f1 (by decide) (by decide)).off f2 (by decide) (by decide), k.dis, hok⟩
end
def Aside (t : TypeId) : Prop := t = 53 ∨ t = 106 ∨ t = 111
def Only (w w1 : World) : Prop := ∀ (k : Nat) (cs : Array Value) (t : TypeId), Aside t → w.heap[k]? = some (Obj.cells cs t (0, 0)) → w1.heap[k]? = w.heap[k]?
theorem Only.below {w w1 : World} (h : Below w.heap.size w w1) : Only w w1 := fun k _ _ _ hk => h.block k (Array.getElem?_eq_some_iff.1 hk).1
theorem Only.trans {a b c : World} (h : Only a b) (k : Only b c) : Only a c := fun i cs t ht hi => by
 have h1 := h i cs t ht hi
 exact (k i cs t ht (h1.trans hi)).trans h1
theorem Only.off {R : TypeId} {a b c : World} (h : Only a b) (f : Off R b c) (n : 53 ≠ R ∧ 106 ≠ R ∧ 111 ≠ R) : Only a c := h.trans fun i cs t ht hi => f.keep i cs _ hi (by
 rcases ht with rfl | rfl | rfl
 ·exact n.1
 ·exact n.2.1
 ·exact n.2.2)
theorem Only.new {a b : World} (h : Only a b) {p : Addr} (hp : a.heap.size ≤ p.block) (u : Value) : Only a (b.setCell p u) := fun i cs t ht hi => by
 have hl := (Array.getElem?_eq_some_iff.1 hi).1
 exact (setCell_block (by omega)).trans (h i cs t ht hi)
theorem Only.blk {w w1 : World} (h : Only w w1) {g : Nat} {t : TypeId} {cs : Array Value} (k : Blk w g t cs) (ht : Aside t) : Blk w1 g t cs := (h g cs t ht k).trans k
theorem aside_f : Aside 53 := .inl rfl
theorem aside_t : Aside 106 := .inr (.inl rfl)
theorem aside_m : Aside 111 := .inr (.inr rfl)
def Steps (B g : Nat) (ats : List At) (w : World) (r : Except Nat Rd) (e : Ending) (w' : World) : Prop :=
 Below B w w' ∧ Only w w' ∧ match r with
  | .error k => e = .returned (.int .i64 (k : Nat))
  | .ok y => e = .returned (.int .i64 0) ∧ ∃ h, OwnR w' B g h ats y
theorem Steps.err {B g : Nat} {ats : List At} {w w' : World} {k : Nat} {e : Ending} (hB : B ≤ w.heap.size) (h : Below w.heap.size w w') (he : e = .returned (.int .i64 (k : Nat))) : Steps B g ats w (.error k) e w' := ⟨h.mono hB, Only.below h, he⟩
end Go.Proofs.YtgkdaebiefhgdaaGreatDoor
namespace Go.Proofs.YtgkdaebiefhgdaaGreatDoor
set_option linter.unusedSimpArgs false
set_option linter.unusedVariables false
open Go.RowKit
open Feat (Bs)
open Tagp (KV)
open Vert (Rd)
theorem flat_take4 : ∀ (L : List TH) (k : Nat), (L.flatMap txV).take (k * 4) = (L.take k).flatMap txV
 | _, 0 => by simp
 | [], k + 1 => by simp
 | y :: L, k + 1 => by
  rw [List.take_succ_cons, List.flatMap_cons, List.flatMap_cons, ← flat_take4 L k, List.take_append, txV_len, show (k + 1) * 4 - 4 = k * 4 by omega, List.take_of_length_le (by rw [txV_len]; omega)]
theorem flat_drop4 : ∀ (L : List TH) (k : Nat), (L.flatMap txV).drop (k * 4) = (L.drop k).flatMap txV
 | _, 0 => by simp
 | [], k + 1 => by simp
 | y :: L, k + 1 => by
  rw [List.drop_succ_cons, List.flatMap_cons, ← flat_drop4 L k, List.drop_append, txV_len, show (k + 1) * 4 - 4 = k * 4 by omega, List.drop_eq_nil_of_le (by rw [txV_len]; omega), List.nil_append]
theorem OX.at_ {w : World} {B : Nat} {E : TypeId} {h : Hd} {l : List Cor.Txt} (k : OX w B E h l) {i : Nat} (hi : i < h.n) :
  ∃ g o H, ∃ hk : i < l.length, h.A = some ⟨g, o, none⟩ ∧ OwnT w B (l[i], H) ∧ w.cell? ⟨g, o + i * 4, none⟩ = some (str l[i].nm) ∧ w.cell? ⟨g, o + i * 4 + 1, none⟩ = some (.int .i64 l[i].b) ∧
   w.cell? ⟨g, o + i * 4 + 2, none⟩ = some (.int .i64 l[i].e) ∧ w.cell? ⟨g, o + i * 4 + 3, none⟩ = some (.slice H.A H.n H.c) := by
 obtain ⟨L, rfl, o, hW⟩ := k
 obtain ⟨g, o', hk', e, hg, hc⟩ := (own_sl o).elem txV_len (by omega) hi
 have hm : (L.map Prod.fst)[i]'(by simpa using hk') = L[i].1 := by simp
 refine ⟨g, o', L[i].2, by simpa using hk', e, ?_⟩
 rw [hm]
 exact ⟨hW _ (List.getElem_mem _), hc 0 _ rfl, hc 1 _ rfl, hc 2 _ rfl, hc 3 _ rfl⟩
theorem own_tail {w : World} {B : Nat} {E : TypeId} {A : Option Addr} {n c i : Nat} {L : List TH} (ho : w.ownsRow B E 4 (.slice A n c) n (L.flatMap txV)) (hi : i < n) : Src w (cutAt A (i + 1) c 4) ((L.drop (i + 1)).flatMap txV) := by
 intro hp
 have hl : L.length = n := by have := ho.1; rw [flat_len4] at this; omega
 have hlt : i + 1 < L.length := by
  rcases Nat.lt_or_ge (i + 1) L.length with h | h
  ·exact h
  ·rw [List.drop_eq_nil_of_le h] at hp; simp at hp
 have hnc := (own_fit ho).1
 dsimp only at hnc
 obtain ⟨g, o, e, hg, hc⟩ := (own_sl ho).2 (by rw [flat_len4]; omega)
 subst e
 rw [cutAt_in (by omega)]
 refine ⟨_, rfl, fun j u hj => ?_⟩
 rw [← flat_drop4, List.getElem?_drop] at hj
 have := hc _ _ hj
 rw [show (⟨g, o + (i + 1) * 4, none⟩ : Addr).add j = ⟨g, o + ((i + 1) * 4 + j), none⟩ by simp [Addr.add, Nat.add_assoc]]
 exact this
theorem own_erase {wc w4 : World} {B g : Nat} {h : RdH} {ats : List At} {x x' : Rd} {Lo : List TH} {i : Nat}
  (blk : Blk wc g 49 (h.cs x.tx)) (bg : B ≤ g) (ka : OA wc B h.a ats) (kt : OT wc B h.t x.toks) (kx : OX wc B 66 h.x x.texts) (kr : OX wc B 69 h.r x.regs)
  (hLo : Lo.map Prod.fst = x.opn) (ho : wc.ownsRow B 69 4 h.o.v h.o.n (Lo.flatMap txV)) (hW : ∀ y ∈ Lo, OwnT wc B y) (dis : ∀ b, h.r.v.ownBlock = some b → h.o.v.ownBlock ≠ some b)
  {A' : Option Addr} {n' c' : Nat} (own' : w4.ownsRow B 69 4 (.slice A' n' c') n' ((Lo.take i).flatMap txV ++ (Lo.drop (i + 1)).flatMap txV)) (gr : wc.grownBy w4 h.o.v.ownBlock)
  (hob : (Value.slice A' n' c').ownBlock = h.o.v.ownBlock ∨ (Value.slice A' n' c').ownBlock = some wc.heap.size)
  (ht : x'.toks = x.toks) (hx : x'.texts = x.texts) (hr : x'.regs = x.regs) (hopn : x'.opn = x.opn.eraseIdx i) (htx : x'.tx = x.tx) (hok : RdOk x') :
  OwnR (w4.setCell ⟨g, 7, none⟩ (.slice A' n' c')) B g { h with o := ⟨A', n', c'⟩ } ats x' := by
 have f1 := Off.grown ho gr
 have b1 := blk.off f1 (by decide)
 have f2 := Off.set_ b1 7 (.slice A' n' c')
 obtain ⟨Lr, hLr, hor, hWr⟩ := kr
 have r1 : OX w4 B 69 h.r x.regs := ⟨Lr, hLr, own_grownV hor gr dis, fun z hz => (hWr z hz).off f1 (by decide)⟩
 obtain ⟨toks', texts', regs', opn', tx'⟩ := x'
 dsimp only at ht hx hr hopn htx
 subst ht hx hr htx
 refine ⟨b1.set_ 7 _, bg, (ka.off f1 (by decide)).off f2 (by decide), (kt.off f1 (by decide) (by decide)).off f2 (by decide) (by decide), (kx.off f1 (by decide) (by decide)).off f2 (by decide) (by decide),
  r1.off f2 (by decide) (by decide), ⟨Lo.eraseIdx i, by show _ = opn'; rw [hopn, ← hLo]; simp [List.eraseIdx_eq_take_drop_succ, List.map_take, List.map_drop], ?_, fun z hz => ((hW z (List.mem_of_mem_eraseIdx hz)).off f1 (by decide)).off f2 (by decide)⟩, fun b hb hb2 => ?_, hok⟩
 ·have := own_off own' f2 (by decide)
  rw [← List.flatMap_append, ← List.eraseIdx_eq_take_drop_succ] at this
  exact this
 ·rcases hob with e | e
  ·exact dis b hb (e.symm.trans hb2)
  ·have h1 := (hor.lt b hb).2
   have h2 := e.symm.trans hb2
   injection h2 with h2
   omega
end Go.Proofs.YtgkdaebiefhgdaaGreatDoor
