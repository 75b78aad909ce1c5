/-
  A corpus of the call's own whose tokens' values and whose keys lie where they lay when the call began (at world w0). No conditions.
-/
import Derived.Test.YtaihgoohmcipkaaCorExP
namespace Go.Proofs.Ytaihgoohmcipkaa
set_option linter.unusedSimpArgs false
set_option linter.unusedVariables false
open Go.RowKit
open Feat (Bs)
open Tagp (KV)

section
variable (w0 w : World) (B : Nat)
def OTR (h : Hd) (l : List (List Bs)) : Prop := ∃ L : List KH, L.map Prod.fst = l ∧ w.ownsRow B 28 1 h.v h.n (L.flatMap tkV) ∧ ∀ x ∈ L, Words w0 w0.heap.size x.2 x.1
def OXR (E : TypeId) (h : Hd) (l : List Cor.Txt) : Prop := ∃ L : List TH, L.map Prod.fst = l ∧ w.ownsRow B E 4 h.v h.n (L.flatMap txV) ∧ ∀ x ∈ L, TxOk w0 w0.heap.size x
structure OwnR (g : Nat) (H : CH) (c : Cor.C) : Prop where
  blk : Blk w g 30 H.cs
  a : OA w B H.a c.attrs
  t : OTR w0 w B H.t c.toks
  x : OXR w0 w B 64 H.x c.texts
  r : OXR w0 w B 39 H.r c.regs
  n : ON w B H.n c.nods
end
section
variable {w0 w w1 : World} {B g : Nat} {R : TypeId} {H : CH} {c : Cor.C}
theorem OTR.off {h : Hd} {l : List (List Bs)} (k : OTR w0 w B h l) (f : Off R w w1) (n1 : 28 ≠ R) : OTR w0 w1 B h l := by
  obtain ⟨L, e, o, hx⟩ := k; exact ⟨L, e, own_off o f n1, hx⟩
theorem OXR.off {E : TypeId} {h : Hd} {l : List Cor.Txt} (k : OXR w0 w B E h l) (f : Off R w w1) (n1 : E ≠ R) : OXR w0 w1 B E h l := by
  obtain ⟨L, e, o, hx⟩ := k; exact ⟨L, e, own_off o f n1, hx⟩
theorem OTR.reads {h : Hd} {l : List (List Bs)} (k : OTR w0 w B h l) (hb : Below w0.heap.size w0 w) : Toks w w.heap.size h l := by
  obtain ⟨L, e, o, hx⟩ := k; exact ⟨L, e, own_fit o, own_sl o, fun x h => ((hx x h).under hb).up hb.size⟩
theorem OXR.reads {E : TypeId} {h : Hd} {l : List Cor.Txt} (k : OXR w0 w B E h l) (hb : Below w0.heap.size w0 w) : Txts w w.heap.size h l := by
  obtain ⟨L, e, o, hx⟩ := k; exact ⟨L, e, own_fit o, own_sl o, fun x h => ((hx x h).under hb).up hb.size⟩
theorem OwnR.off (h : OwnR w0 w B g H c) (f : Off R w w1) (k : 30 ≠ R ∧ 62 ≠ R ∧ 28 ≠ R ∧ 64 ≠ R ∧ 39 ≠ R ∧ 74 ≠ R) : OwnR w0 w1 B g H c :=
  ⟨h.blk.off f k.1, h.a.off f k.2.1, h.t.off f k.2.2.1, h.x.off f k.2.2.2.1, h.r.off f k.2.2.2.2.1, h.n.off f k.2.2.2.2.2⟩
theorem OwnR.below (h : OwnR w0 w B g H c) (hb : Below w.heap.size w w1) : OwnR w0 w1 B g H c := h.off (R := 4294967295) (Off.below hb) (by decide)
theorem OwnR.alloc (h : OwnR w0 w B g H c) (o : Obj) : OwnR w0 (w.alloc o) B g H c := h.below ((Below.refl _ _).alloc (Nat.le_refl _) o)
theorem OwnR.drew (h : OwnR w0 w B g H c) : OwnR w0 w.drew B g H c := h.off (R := 4294967295) (Off.drew w) (by decide)
theorem OwnR.drewN (h : OwnR w0 w B g H c) (n : Nat) : OwnR w0 (w.drewN n) B g H c := h.off (R := 4294967295) (Off.drewN w n) (by decide)
/-- The regions' row has grown by a region, and the corpus holds it. -/
theorem OwnR.reg {L : List TH} (h : OwnR w0 w B g H c) (hL : L.map Prod.fst = c.regs) (ho : w.ownsRow B 39 4 H.r.v H.r.n (L.flatMap txV)) (hW : ∀ x ∈ L, TxOk w0 w0.heap.size x) {y : TH} (hy : TxOk w0 w0.heap.size y)
    {A' : Option Addr} {n' c' : Nat} (own' : w1.ownsRow B 39 4 (.slice A' n' c') n' (L.flatMap txV ++ txV y)) (gr : w.grownBy w1 H.r.v.ownBlock) :
    OwnR w0 (w1.setCell ⟨g, 3, none⟩ (.slice A' n' c')) B g { H with r := ⟨A', n', c'⟩ } { c with regs := c.regs ++ [y.1] } := by
  have f1 := Off.grown ho gr
  have b1 := h.blk.off f1 (by decide)
  have f2 := Off.set_ b1 3 (.slice A' n' c')
  exact ⟨b1.set_ 3 _, (h.a.off f1 (by decide)).off f2 (by decide), (h.t.off f1 (by decide)).off f2 (by decide), (h.x.off f1 (by decide)).off f2 (by decide), ⟨L ++ [y], by simp [hL], by simpa using own_off own' f2 (by decide), fun x hx => by
      rcases List.mem_append.1 hx with hx | hx
      · exact hW x hx
      · simp at hx; subst hx; exact hy⟩, (h.n.off f1 (by decide)).off f2 (by decide)⟩
theorem OwnR.nod (h : OwnR w0 w B g H c) {y : Cor.Nod} (hy : Len y.lb ∧ Rng y.b ∧ Rng y.e ∧ Rng y.p)
    {A' : Option Addr} {n' c' : Nat} (own' : w1.ownsRow B 74 4 (.slice A' n' c') n' (c.nods.flatMap ndV ++ ndV y)) (gr : w.grownBy w1 H.n.v.ownBlock) :
    OwnR w0 (w1.setCell ⟨g, 4, none⟩ (.slice A' n' c')) B g { H with n := ⟨A', n', c'⟩ } { c with nods := c.nods ++ [y] } := by
  have f1 := Off.grown h.n.1 gr
  have b1 := h.blk.off f1 (by decide)
  have f2 := Off.set_ b1 4 (.slice A' n' c')
  exact ⟨b1.set_ 4 _, (h.a.off f1 (by decide)).off f2 (by decide), (h.t.off f1 (by decide)).off f2 (by decide), (h.x.off f1 (by decide)).off f2 (by decide), (h.r.off f1 (by decide)).off f2 (by decide), by simpa using own_off own' f2 (by decide), fun x hx => by
      rcases List.mem_append.1 hx with hx | hx
      · exact h.n.2 x hx
      · simp at hx; subst hx; exact hy⟩
theorem OwnR.rest (h : OwnR w0 w B g H c) (hk : ∀ k, k < w.heap.size → k ≠ g → w1.heap[k]? = w.heap[k]?) : OA w1 B H.a c.attrs ∧ OTR w0 w1 B H.t c.toks ∧ OXR w0 w1 B 64 H.x c.texts ∧ OXR w0 w1 B 39 H.r c.regs ∧ ON w1 B H.n c.nods := by
  obtain ⟨hb, ha, ⟨Lt, et, ot, wt⟩, ⟨Lx, ex, ox, wx⟩, ⟨Lr, er, orr, wr⟩, hn⟩ := h
  exact ⟨⟨own_rest hb hk ha.1 (by decide), ha.2⟩, ⟨Lt, et, own_rest hb hk ot (by decide), wt⟩, ⟨Lx, ex, own_rest hb hk ox (by decide), wx⟩, ⟨Lr, er, own_rest hb hk orr (by decide), wr⟩, ⟨own_rest hb hk hn.1 (by decide), hn.2⟩⟩
theorem made_partsR {wr : World} {B2 : Nat} {D : CH} {d : Cor.C} {r : Cor.C × Nat} (hr : r = (d, 0)) (h1 : OA wr B D.a d.attrs ∧ OTR w wr B D.t d.toks ∧ OXR w wr B 64 D.x d.texts ∧ OXR w wr B 39 D.r d.regs ∧ ON wr B D.n d.nods) (h2 : OI wr B2 D.h d.heads) (h3 : OwnW wr B2 D.l d.rels) (hf : Off 30 wr w1) (hb : Below w.heap.size w w1) :
    Made r w (.returned (.tuple #[D.v, .int .i64 0])) w1 := by
  subst hr
  exact ⟨D, rfl, ⟨(h1.1.off hf (by decide)).reads, (h1.2.1.off hf (by decide)).reads hb, (h1.2.2.1.off hf (by decide)).reads hb, (h1.2.2.2.1.off hf (by decide)).reads hb, (h1.2.2.2.2.off hf (by decide)).reads, (h2.off hf (by decide)).reads, (h3.off hf (by decide)).reads⟩, hb⟩
end
/-- The reference's document while it grows. -/
def DocR (w wr : World) (H : CH) (t : Cor.Txt) (Tk : Hd) (g6 gd : Nat) (d : Cor.C) : Prop :=
  ∃ D : CH, Ex0 w wr H t Tk g6 ∧ OwnR w wr w.heap.size gd D d ∧ D.h = ⟨none, 0, 0⟩ ∧ D.l = ⟨none, 0, 0⟩
/-- .. as it begins: attributes and tokens. -/
def Doc0R (w wr : World) (H : CH) (c : Cor.C) (t : Cor.Txt) (Tk : Hd) (g6 : Nat) (v7 : Value) : Prop :=
  ∃ gd na ca nt ct A At, v7 = .pointer (some ⟨gd, 0, none⟩) ∧ w.heap.size + 1 < gd ∧ Ex0 w wr H t Tk g6 ∧ Blk wr gd 30 #[.slice A na ca, .slice At nt ct, .slice none 0 0, .slice none 0 0, .slice none 0 0, .slice none 0 0, .slice none 0 0] ∧
    OA wr w.heap.size ⟨A, na, ca⟩ c.attrs ∧ OTR w wr w.heap.size ⟨At, nt, ct⟩ (Cor.cutL t.b t.e c.toks)
theorem doc0r_1 {w w6 : World} {H : CH} {c : Cor.C} {t : Cor.Txt} {Tk : Hd} {g6 na ca nt ct : Nat} {A At : Option Addr} (E : Ex0 w w6 H t Tk g6) (oa : OA w6 w.heap.size ⟨A, na, ca⟩ c.attrs) (ot : OTR w w6 w.heap.size ⟨At, nt, ct⟩ (Cor.cutL t.b t.e c.toks)) :
    Doc0R w (w6.alloc (.cells #[.slice A na ca, .slice At nt ct, .slice none 0 0, .slice none 0 0, .slice none 0 0, .slice none 0 0, .slice none 0 0] 30)) H c t Tk g6 (.pointer (some ⟨w6.heap.size, 0, none⟩)) :=
  ⟨w6.heap.size, na, ca, nt, ct, A, At, rfl, E.b4.lt, E.alloc _, Blk.new _ _ _, oa.off (R := 4294967295) (Off.alloc _ _) (by decide), ot.off (R := 4294967295) (Off.alloc _ _) (by decide)⟩
theorem Ex0.set7 {w w6 : World} {H : CH} {t : Cor.Txt} {Tk : Hd} {g6 gz : Nat} {cs : Array Value} (E : Ex0 w w6 H t Tk g6) (Z : Blk w6 gz 30 cs) (hz : w.heap.size + 1 < gz) (v0 v1 v2 v3 v4 v5 v6 : Value) :
    Ex0 w (((((((w6.setCell ⟨gz, 0, none⟩ v0).setCell ⟨gz, 1, none⟩ v1).setCell ⟨gz, 2, none⟩ v2).setCell ⟨gz, 3, none⟩ v3).setCell ⟨gz, 4, none⟩ v4).setCell ⟨gz, 5, none⟩ v5).setCell ⟨gz, 6, none⟩ v6) H t Tk g6 :=
  (((((((E.setd Z hz 0 v0).setd (Z.set_ 0 v0) hz 1 v1).setd ((Z.set_ 0 v0).set_ 1 v1) hz 2 v2).setd (((Z.set_ 0 v0).set_ 1 v1).set_ 2 v2) hz 3 v3).setd ((((Z.set_ 0 v0).set_ 1 v1).set_ 2 v2).set_ 3 v3) hz 4 v4).setd (((((Z.set_ 0 v0).set_ 1 v1).set_ 2 v2).set_ 3 v3).set_ 4 v4) hz 5 v5).setd ((((((Z.set_ 0 v0).set_ 1 v1).set_ 2 v2).set_ 3 v3).set_ 4 v4).set_ 5 v5) hz 6 v6)
theorem doc0r_2 {w w6 : World} {H : CH} {c : Cor.C} {t : Cor.Txt} {Tk : Hd} {g6 na ca nt ct gz : Nat} {A At : Option Addr} (Z : Blk w6 gz 30 #[.slice none 0 0, .slice none 0 0, .slice none 0 0, .slice none 0 0, .slice none 0 0, .slice none 0 0, .slice none 0 0]) (hz : w.heap.size + 1 < gz) (E : Ex0 w w6 H t Tk g6) (oa : OA w6 w.heap.size ⟨A, na, ca⟩ c.attrs) (ot : OTR w w6 w.heap.size ⟨At, nt, ct⟩ (Cor.cutL t.b t.e c.toks)) :
    Doc0R w (((((((w6.setCell ⟨gz, 0, none⟩ (.slice A na ca)).setCell ⟨gz, 1, none⟩ (.slice At nt ct)).setCell ⟨gz, 2, none⟩ (.slice none 0 0)).setCell ⟨gz, 3, none⟩ (.slice none 0 0)).setCell ⟨gz, 4, none⟩ (.slice none 0 0)).setCell ⟨gz, 5, none⟩ (.slice none 0 0)).setCell ⟨gz, 6, none⟩ (.slice none 0 0)) H c t Tk g6 (.pointer (some ⟨gz, 0, none⟩)) :=
  ⟨gz, na, ca, nt, ct, A, At, rfl, hz, E.set7 Z hz _ _ _ _ _ _ _, ((((((Z.set_ 0 _).set_ 1 _).set_ 2 _).set_ 3 _).set_ 4 _).set_ 5 _).set_ 6 _, oa.off (off7 Z _ _ _ _ _ _ _) (by decide), ot.off (off7 Z _ _ _ _ _ _ _) (by decide)⟩
/-- The text's bounds are set, its row is made and held. -/
theorem doc1r {w wr : World} {H : CH} {c : Cor.C} {x : Bs} {b e : Int} {ks : List KV} {Tk : Hd} {g6 gd na ca nt ct : Nat} {A At : Option Addr} {T : List (List Bs)} (z1 z2 : Int) (hz : w.heap.size + 1 < gd) (E : Ex0 w wr H ⟨x, b, e, ks⟩ Tk g6)
    (hg6 : w.heap.size ≤ g6) (hbd : Blk wr gd 30 #[.slice A na ca, .slice At nt ct, .slice none 0 0, .slice none 0 0, .slice none 0 0, .slice none 0 0, .slice none 0 0])
    (oa : OA wr w.heap.size ⟨A, na, ca⟩ c.attrs) (ot : OTR w wr w.heap.size ⟨At, nt, ct⟩ T) (hT : TxOk w w.heap.size (⟨x, b, e, ks⟩, Tk)) (r1 : Rng z1) (r2 : Rng z2) :
    DocR w ((((wr.setCell ⟨g6, 1, none⟩ (.int .i64 z1)).setCell ⟨g6, 2, none⟩ (.int .i64 z2)).setCell ⟨gd, 2, none⟩ (.slice (some ⟨wr.heap.size, 0, none⟩) 1 1)).alloc (.cells #[str x, .int .i64 z1, .int .i64 z2, .slice Tk.A Tk.n Tk.c] 64)) H ⟨x, z1, z2, ks⟩ Tk g6 gd ⟨c.attrs, T, [⟨x, z1, z2, ks⟩], [], [], [], []⟩ := by
  have f1 := (Off.set_ E.bt 1 (.int .i64 z1)).trans (Off.set_ (E.bt.set_ 1 (.int .i64 z1)) 2 (.int .i64 z2))
  have hs : ((wr.setCell ⟨g6, 1, none⟩ (.int .i64 z1)).setCell ⟨g6, 2, none⟩ (.int .i64 z2)).heap.size = wr.heap.size := by simp [World.setCell]
  have h6c : g6 ≠ w.heap.size := by
    rintro rfl
    have h1 := E.bt; have h2 := E.bc
    unfold Blk at h1 h2; rw [h1] at h2; cases h2
  have h64 : g6 ≠ w.heap.size + 1 := by
    rintro rfl
    have h1 := E.bt; have h2 := E.b4
    unfold Blk at h1 h2; rw [h1] at h2; cases h2
  have E1 : Ex0 w ((wr.setCell ⟨g6, 1, none⟩ (.int .i64 z1)).setCell ⟨g6, 2, none⟩ (.int .i64 z2)) H ⟨x, z1, z2, ks⟩ Tk g6 :=
    ⟨(E.below.setCell (p := ⟨g6, 1, none⟩) hg6 _).setCell (p := ⟨g6, 2, none⟩) hg6 _, E.bc.off f1 (by decide), E.b4.off f1 (by decide), (E.bt.set_ 1 _).set_ 2 _⟩
  have b2 := hbd.off f1 (by decide)
  have E2 := E1.setd b2 hz 2 (.slice (some ⟨wr.heap.size, 0, none⟩) 1 1)
  have f3 := Off.set_ b2 2 (.slice (some ⟨wr.heap.size, 0, none⟩) 1 1)
  have bn := Blk.new (((wr.setCell ⟨g6, 1, none⟩ (.int .i64 z1)).setCell ⟨g6, 2, none⟩ (.int .i64 z2)).setCell ⟨gd, 2, none⟩ (.slice (some ⟨wr.heap.size, 0, none⟩) 1 1)) 64 #[str x, .int .i64 z1, .int .i64 z2, .slice Tk.A Tk.n Tk.c]
  rw [show (((wr.setCell ⟨g6, 1, none⟩ (.int .i64 z1)).setCell ⟨g6, 2, none⟩ (.int .i64 z2)).setCell ⟨gd, 2, none⟩ (.slice (some ⟨wr.heap.size, 0, none⟩) 1 1)).heap.size = wr.heap.size by simp [World.setCell]] at bn
  have f4 := Off.alloc (R := 4294967295) (((wr.setCell ⟨g6, 1, none⟩ (.int .i64 z1)).setCell ⟨g6, 2, none⟩ (.int .i64 z2)).setCell ⟨gd, 2, none⟩ (.slice (some ⟨wr.heap.size, 0, none⟩) 1 1)) (.cells #[str x, .int .i64 z1, .int .i64 z2, .slice Tk.A Tk.n Tk.c] 64)
  exact ⟨⟨⟨A, na, ca⟩, ⟨At, nt, ct⟩, ⟨some ⟨wr.heap.size, 0, none⟩, 1, 1⟩, ⟨none, 0, 0⟩, ⟨none, 0, 0⟩, ⟨none, 0, 0⟩, ⟨none, 0, 0⟩⟩, E2.alloc _,
    ⟨(b2.set_ 2 _).off f4 (by decide), ((oa.off f1 (by decide)).off f3 (by decide)).off f4 (by decide), ((ot.off f1 (by decide)).off f3 (by decide)).off f4 (by decide), ⟨[(⟨x, z1, z2, ks⟩, Tk)], rfl, own_one4 bn E.below.size, fun y hy => by simp at hy; subst hy; exact ⟨hT.1, r1, r2, hT.2.2.2⟩⟩, ⟨[], rfl, own_nil0 _ _ _ _, fun _ h => by cases h⟩, ⟨own_nil0 _ _ _ _, fun _ h => by cases h⟩⟩, rfl, rfl⟩
end Go.Proofs.Ytaihgoohmcipkaa
