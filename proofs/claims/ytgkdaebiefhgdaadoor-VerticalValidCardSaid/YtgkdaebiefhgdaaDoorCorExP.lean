/-
  What is known of memory while Extract runs. No conditions.
-/
import Derived.Test.YtgkdaebiefhgdaaDoorCorVfs
import Derived.Test.YtgkdaebiefhgdaaDoorCorCp
import Derived.Test.YtgkdaebiefhgdaaDoorCorOwn
import Derived.Test.YtgkdaebiefhgdaaDoorCorFind
import Derived.Test.YtgkdaebiefhgdaaDoorCorTx2
namespace Go.Proofs.YtgkdaebiefhgdaaDoor
open Go.RowKit Utf
open Feat (Bs)

/-- A corpus and an error are handed back. -/
def Made (r : Cor.C × Nat) (w : World) (e : Ending) (w' : World) : Prop :=
  ∃ H : CH, e = .returned (.tuple #[H.v, .int .i64 (r.2 : Nat)]) ∧ Reads w' w'.heap.size H r.1 ∧ Below w.heap.size w w'
abbrev nilH : CH := ⟨⟨none, 0, 0⟩, ⟨none, 0, 0⟩, ⟨none, 0, 0⟩, ⟨none, 0, 0⟩, ⟨none, 0, 0⟩, ⟨none, 0, 0⟩, ⟨none, 0, 0⟩⟩
theorem reads_nil (w : World) (B : Nat) : Reads w B nilH Cor.nil := by
  have f : Fit ⟨none, 0, 0⟩ := ⟨Nat.le_refl _, Nat.zero_le _⟩
  have s : ∀ z, Sl w B z none 0 [] := fun z => ⟨by simp, fun h => by cases h⟩
  exact ⟨⟨f, s 2, fun _ h => by cases h⟩, ⟨[], rfl, f, s 1, fun _ h => by cases h⟩, ⟨[], rfl, f, s 4, fun _ h => by cases h⟩, ⟨[], rfl, f, s 4, fun _ h => by cases h⟩, ⟨f, s 4, fun _ h => by cases h⟩, ⟨f, s 1, fun _ h => by cases h⟩, ⟨f, s 1, fun _ h => by cases h⟩⟩
theorem below7 {B g : Nat} {w w' : World} (h : Below B w w') (hg : B ≤ g) (v0 v1 v2 v3 v4 v5 v6 : Value) :
    Below B w (((((((w'.setCell ⟨g, 0, none⟩ v0).setCell ⟨g, 1, none⟩ v1).setCell ⟨g, 2, none⟩ v2).setCell ⟨g, 3, none⟩ v3).setCell ⟨g, 4, none⟩ v4).setCell ⟨g, 5, none⟩ v5).setCell ⟨g, 6, none⟩ v6) :=
  ((((((h.setCell (p := ⟨g, 0, none⟩) hg _).setCell (p := ⟨g, 1, none⟩) hg _).setCell (p := ⟨g, 2, none⟩) hg _).setCell (p := ⟨g, 3, none⟩) hg _).setCell (p := ⟨g, 4, none⟩) hg _).setCell (p := ⟨g, 5, none⟩) hg _).setCell (p := ⟨g, 6, none⟩) hg _
theorem off7 {w : World} {g : Nat} {t : TypeId} {cs : Array Value} (h : Blk w g t cs) (v0 v1 v2 v3 v4 v5 v6 : Value) :
    Off t w (((((((w.setCell ⟨g, 0, none⟩ v0).setCell ⟨g, 1, none⟩ v1).setCell ⟨g, 2, none⟩ v2).setCell ⟨g, 3, none⟩ v3).setCell ⟨g, 4, none⟩ v4).setCell ⟨g, 5, none⟩ v5).setCell ⟨g, 6, none⟩ v6) := by
  have h1 := h.set_ 0 v0
  have h2 := h1.set_ 1 v1
  have h3 := h2.set_ 2 v2
  have h4 := h3.set_ 3 v3
  have h5 := h4.set_ 4 v4
  have h6 := h5.set_ 5 v5
  exact ((((((Off.set_ h 0 v0).trans (Off.set_ h1 1 v1)).trans (Off.set_ h2 2 v2)).trans (Off.set_ h3 3 v3)).trans (Off.set_ h4 4 v4)).trans (Off.set_ h5 5 v5)).trans (Off.set_ h6 6 v6)

structure Ex0 (w0 wr : World) (H : CH) (t : Cor.Txt) (Tk : Hd) (g6 : Nat) : Prop where
  below : Below w0.heap.size w0 wr
  bc : Blk wr w0.heap.size 30 H.cs
  b4 : Blk wr (w0.heap.size + 1) 30 nilH.cs
  bt : Blk wr g6 61 #[str t.nm, .int .i64 t.b, .int .i64 t.e, .slice Tk.A Tk.n Tk.c]
section
variable {w0 wr w' : World} {H : CH} {t : Cor.Txt} {Tk : Hd} {g6 : Nat}
theorem Ex0.bel (h : Ex0 w0 wr H t Tk g6) (hb : Below wr.heap.size wr w') : Ex0 w0 w' H t Tk g6 :=
  ⟨h.below.trans (hb.mono h.below.size), h.bc.below hb, h.b4.below hb, h.bt.below hb⟩
theorem Ex0.drewN (h : Ex0 w0 wr H t Tk g6) (n : Nat) : Ex0 w0 (wr.drewN n) H t Tk g6 := ⟨below_drewN h.below n, h.bc, h.b4, h.bt⟩
theorem Ex0.drew (h : Ex0 w0 wr H t Tk g6) : Ex0 w0 wr.drew H t Tk g6 := h.drewN 1
theorem Ex0.alloc (h : Ex0 w0 wr H t Tk g6) (o : Obj) : Ex0 w0 (wr.alloc o) H t Tk g6 := h.bel ((Below.refl _ _).alloc (Nat.le_refl _) o)
theorem Ex0.off {R : TypeId} (h : Ex0 w0 wr H t Tk g6) (f : Off R wr w') (n1 : 30 ≠ R) (n2 : 61 ≠ R) (hb : Below w0.heap.size w0 w') : Ex0 w0 w' H t Tk g6 :=
  ⟨hb, h.bc.off f n1, h.b4.off f n1, h.bt.off f n2⟩
theorem Ex0.grown {e : TypeId} {s n : Nat} {v : Value} {xs : List Value} (h : Ex0 w0 wr H t Tk g6) (ho : wr.ownsRow w0.heap.size e s v n xs) (gr : wr.grownBy w' v.ownBlock) (n1 : 30 ≠ e) (n2 : 61 ≠ e) : Ex0 w0 w' H t Tk g6 :=
  h.off (Off.grown ho gr) n1 n2 (h.below.grown gr h.below.size (fun k hk => (ho.lt k hk).1))
theorem Ex0.setd {gd : Nat} {cs : Array Value} (h : Ex0 w0 wr H t Tk g6) (hd : Blk wr gd 30 cs) (hg : w0.heap.size + 1 < gd) (i : Nat) (v : Value) : Ex0 w0 (wr.setCell ⟨gd, i, none⟩ v) H t Tk g6 :=
  ⟨h.below.setCell (p := ⟨gd, i, none⟩) (by show _ ≤ gd; omega) _, (setCell_block (by show w0.heap.size ≠ gd; omega)).trans h.bc, (setCell_block (by show w0.heap.size + 1 ≠ gd; omega)).trans h.b4,
    h.bt.off (Off.set_ hd i v) (by decide)⟩
theorem Ex0.keep {gd : Nat} {w1 : World} {cs : Array Value} (h : Ex0 w0 wr H t Tk g6) (hd : Blk wr gd 30 cs) (hg : w0.heap.size + 1 < gd) (hk : ∀ k, k < wr.heap.size → k ≠ gd → w1.heap[k]? = wr.heap[k]?) (hb : Below w0.heap.size w0 w1) : Ex0 w0 w1 H t Tk g6 :=
  ⟨hb, (hk _ h.bc.lt (by omega)).trans h.bc, (hk _ h.b4.lt (by omega)).trans h.b4, (hk _ h.bt.lt (by
    rintro rfl
    have h1 := h.bt
    unfold Blk at h1 hd
    rw [hd] at h1; cases h1)).trans h.bt⟩
end
/-- A corpus of the call's own, loaded and stored into the result's place. -/
theorem made_of {w w1 wr : World} {B gd : Nat} {D : CH} {d : Cor.C} {r : Cor.C × Nat} (hr : r = (d, 0)) (h1 : OwnC wr B gd D d) (h2 : OI wr B D.h d.heads) (h3 : OwnW wr B D.l d.rels) (hf : Off 30 wr w1) (hb : Below w.heap.size w w1) :
    Made r w (.returned (.tuple #[D.v, .int .i64 0])) w1 := by
  subst hr
  exact ⟨D, rfl, ⟨(h1.a.off hf (by decide)).reads, (h1.t.off hf (by decide) (by decide)).reads, (h1.x.off hf (by decide) (by decide)).reads, (h1.r.off hf (by decide) (by decide)).reads, (h1.n.off hf (by decide)).reads, (h2.off hf (by decide)).reads, (h3.off hf (by decide)).reads⟩, hb⟩
theorem made_parts {w w1 wr : World} {B B2 : Nat} {D : CH} {d : Cor.C} {r : Cor.C × Nat} (hr : r = (d, 0)) (h1 : OA wr B D.a d.attrs ∧ OT wr B D.t d.toks ∧ OX wr B 61 D.x d.texts ∧ OX wr B 58 D.r d.regs ∧ ON wr B D.n d.nods) (h2 : OI wr B2 D.h d.heads) (h3 : OwnW wr B2 D.l d.rels) (hf : Off 30 wr w1) (hb : Below w.heap.size w w1) :
    Made r w (.returned (.tuple #[D.v, .int .i64 0])) w1 := by
  subst hr
  exact ⟨D, rfl, ⟨(h1.1.off hf (by decide)).reads, (h1.2.1.off hf (by decide) (by decide)).reads, (h1.2.2.1.off hf (by decide) (by decide)).reads, (h1.2.2.2.1.off hf (by decide) (by decide)).reads, (h1.2.2.2.2.off hf (by decide)).reads, (h2.off hf (by decide)).reads, (h3.off hf (by decide)).reads⟩, hb⟩
theorem own_one4 {w : World} {B g : Nat} {E : TypeId} {a b c d : Value} (h : Blk w g E #[a, b, c, d]) (hb : B ≤ g) : w.ownsRow B E 4 (.slice (some ⟨g, 0, none⟩) 1 1) 1 [a, b, c, d] :=
  ⟨rfl, .inr ⟨g, 1, #[a, b, c, d], rfl, hb, h, Nat.le_refl _, by decide, rfl, rfl⟩⟩
theorem Atts.src {w : World} {B : Nat} {A : Option Addr} {n c : Nat} {l : List At} (h : Atts w B ⟨A, n, c⟩ l) : Src w A (l.flatMap atV) := by
  intro hp
  obtain ⟨g, o, e, _, hc⟩ := h.2.1.2 hp
  refine ⟨⟨g, o, none⟩, e, fun j u hj => ?_⟩
  have ea : (⟨g, o, none⟩ : Addr).add j = ⟨g, o + j, none⟩ := by unfold Addr.add; split <;> simp_all
  rw [ea]; exact hc j u hj
theorem Words.src {w : World} {B : Nat} {A : Option Addr} {n c : Nat} {l : List Bs} (h : Words w B ⟨A, n, c⟩ l) : Src w A (strs l) := by
  intro hp
  obtain ⟨g, o, e, _, hc⟩ := h.2.1.2 hp
  refine ⟨⟨g, o, none⟩, e, fun j u hj => ?_⟩
  have ea : (⟨g, o, none⟩ : Addr).add j = ⟨g, o + j, none⟩ := by unfold Addr.add; split <;> simp_all
  rw [ea]; exact hc j u hj
theorem atV_one (l : List At) : ∀ u ∈ l.flatMap atV, u.oneCell' = true := by
  intro u hu
  rw [List.mem_flatMap] at hu
  obtain ⟨p, _, hp⟩ := hu
  unfold atV at hp
  simp at hp
  rcases hp with rfl | rfl <;> rfl
theorem strs_one6 (l : List Bs) : ∀ u ∈ strs l, u.oneCell' = true := by
  intro u hu
  unfold strs at hu
  rw [List.mem_map] at hu
  obtain ⟨p, _, rfl⟩ := hu
  rfl
/-- The document as Extract begins it: its attributes and its text. -/
def Doc0 (w wr : World) (H : CH) (c : Cor.C) (t : Cor.Txt) (Tk : Hd) (g6 : Nat) (v7 : Value) : Prop :=
  ∃ gd D, v7 = .pointer (some ⟨gd, 0, none⟩) ∧ w.heap.size + 1 < gd ∧ Ex0 w wr H t Tk g6 ∧ OwnC wr w.heap.size gd D ⟨c.attrs, [], [Cor.mvT (-t.b) t], [], [], [], []⟩ ∧ D.h = ⟨none, 0, 0⟩ ∧ D.l = ⟨none, 0, 0⟩
theorem doc0 {w wr : World} {H : CH} {c : Cor.C} {t : Cor.Txt} {Tk : Hd} {g6 gd gt na ca cp : Nat} {A' Ap : Option Addr} (E : Ex0 w wr H t Tk g6) (hg : w.heap.size + 1 < gd) (hd : Blk wr gd 30 #[.slice A' na ca, .slice none 0 0, .slice (some ⟨gt, 0, none⟩) 1 1, .slice none 0 0, .slice none 0 0, .slice none 0 0, .slice none 0 0])
    (oa : wr.ownsRow w.heap.size 55 2 (.slice A' na ca) na (c.attrs.flatMap atV)) (ha : ∀ a ∈ c.attrs, Len a.1) (ht : Blk wr gt 61 #[str t.nm, .int .i64 (t.b + -t.b), .int .i64 (t.e + -t.b), .slice Ap t.ks.length cp]) (hgt : w.heap.size ≤ gt)
    (op : wr.ownsRow w.heap.size 88 2 (.slice Ap t.ks.length cp) t.ks.length (t.ks.flatMap prV)) (hk : ∀ p ∈ t.ks, Len p.1 ∧ Len p.2) (hn : Len t.nm) (hb : Rng (t.b + -t.b)) (he : Rng (t.e + -t.b)) : Doc0 w wr H c t Tk g6 (.pointer (some ⟨gd, 0, none⟩)) :=
  ⟨gd, ⟨⟨A', na, ca⟩, ⟨none, 0, 0⟩, ⟨some ⟨gt, 0, none⟩, 1, 1⟩, ⟨none, 0, 0⟩, ⟨none, 0, 0⟩, ⟨none, 0, 0⟩, ⟨none, 0, 0⟩⟩, rfl, hg, E, ⟨hd, ⟨oa, ha⟩, ⟨[], rfl, own_nil0 _ _ _ _, fun _ h => by cases h⟩,
    ⟨[(Cor.mvT (-t.b) t, ⟨Ap, t.ks.length, cp⟩)], rfl, own_one4 ht hgt, fun y hy => by simp at hy; subst hy; exact ⟨hn, hb, he, op, hk⟩⟩, ⟨[], rfl, own_nil0 _ _ _ _, fun _ h => by cases h⟩, ⟨own_nil0 _ _ _ _, fun _ h => by cases h⟩⟩, rfl, rfl⟩
theorem doc0_1 {w w6 : World} {H : CH} {c : Cor.C} {t : Cor.Txt} {Tk : Hd} {g6 na ca cp Bp : Nat} {A' Ap : Option Addr} (E : Ex0 w w6 H t Tk g6) (oa : w6.ownsRow w.heap.size 55 2 (.slice A' na ca) na (c.attrs.flatMap atV)) (ha : ∀ a ∈ c.attrs, Len a.1) (op : w6.ownsRow Bp 88 2 (.slice Ap t.ks.length cp) t.ks.length (t.ks.flatMap prV)) (hBp : w.heap.size ≤ Bp)
    (hk : ∀ p ∈ t.ks, Len p.1 ∧ Len p.2) (hn : Len t.nm) (hb : Rng (t.b + -t.b)) (he : Rng (t.e + -t.b)) :
    Doc0 w ((w6.alloc (.cells #[str t.nm, .int .i64 (t.b + -t.b), .int .i64 (t.e + -t.b), .slice Ap t.ks.length cp] 61)).alloc (.cells #[.slice A' na ca, .slice none 0 0, .slice (some ⟨w6.heap.size, 0, none⟩) 1 1, .slice none 0 0, .slice none 0 0, .slice none 0 0, .slice none 0 0] 30)) H c t Tk g6 (.pointer (some ⟨w6.heap.size + 1, 0, none⟩)) :=
  doc0 ((E.alloc _).alloc _) (by have := E.b4.lt; omega) (by have h := Blk.new (w6.alloc (.cells #[str t.nm, .int .i64 (t.b + -t.b), .int .i64 (t.e + -t.b), .slice Ap t.ks.length cp] 61)) 30 #[.slice A' na ca, .slice none 0 0, .slice (some ⟨w6.heap.size, 0, none⟩) 1 1, .slice none 0 0, .slice none 0 0, .slice none 0 0, .slice none 0 0]; rw [World.size_alloc] at h; exact h)
    ((oa.alloc _).alloc _) ha ((Blk.new w6 _ _).alloc _) E.below.size (own_base ((op.alloc _).alloc _) hBp) hk hn hb he
theorem doc0_2 {w w6 : World} {H : CH} {c : Cor.C} {t : Cor.Txt} {Tk : Hd} {g6 na ca cp Bp : Nat} {A' Ap : Option Addr} (E : Ex0 w w6 H t Tk g6) (oa : w6.ownsRow w.heap.size 55 2 (.slice A' na ca) na (c.attrs.flatMap atV)) (ha : ∀ a ∈ c.attrs, Len a.1) (op : w6.ownsRow Bp 88 2 (.slice Ap t.ks.length cp) t.ks.length (t.ks.flatMap prV)) (hBp : w.heap.size ≤ Bp)
    (hk : ∀ p ∈ t.ks, Len p.1 ∧ Len p.2) (hn : Len t.nm) (hb : Rng (t.b + -t.b)) (he : Rng (t.e + -t.b)) :
    Doc0 w ((w6.alloc (.cells #[.slice A' na ca, .slice none 0 0, .slice (some ⟨w6.heap.size + 1, 0, none⟩) 1 1, .slice none 0 0, .slice none 0 0, .slice none 0 0, .slice none 0 0] 30)).alloc (.cells #[str t.nm, .int .i64 (t.b + -t.b), .int .i64 (t.e + -t.b), .slice Ap t.ks.length cp] 61)) H c t Tk g6 (.pointer (some ⟨w6.heap.size, 0, none⟩)) :=
  doc0 ((E.alloc _).alloc _) (by have := E.b4.lt; omega) ((Blk.new w6 _ _).alloc _)
    ((oa.alloc _).alloc _) ha (by have h := Blk.new (w6.alloc (.cells #[.slice A' na ca, .slice none 0 0, .slice (some ⟨w6.heap.size + 1, 0, none⟩) 1 1, .slice none 0 0, .slice none 0 0, .slice none 0 0, .slice none 0 0] 30)) 61 #[str t.nm, .int .i64 (t.b + -t.b), .int .i64 (t.e + -t.b), .slice Ap t.ks.length cp]; rw [World.size_alloc] at h; exact h) (by have := E.below.size; omega) (own_base ((op.alloc _).alloc _) hBp) hk hn hb he
theorem doc0_3 {w w6 : World} {H : CH} {c : Cor.C} {t : Cor.Txt} {Tk : Hd} {g6 na ca cp Bp gz : Nat} {A' Ap : Option Addr} (Z : Blk w6 gz 30 #[.slice none 0 0, .slice none 0 0, .slice none 0 0, .slice none 0 0, .slice none 0 0, .slice none 0 0, .slice none 0 0]) (hz : w.heap.size + 1 < gz) (E : Ex0 w w6 H t Tk g6) (oa : w6.ownsRow w.heap.size 55 2 (.slice A' na ca) na (c.attrs.flatMap atV)) (ha : ∀ a ∈ c.attrs, Len a.1) (op : w6.ownsRow Bp 88 2 (.slice Ap t.ks.length cp) t.ks.length (t.ks.flatMap prV)) (hBp : w.heap.size ≤ Bp)
    (hk : ∀ p ∈ t.ks, Len p.1 ∧ Len p.2) (hn : Len t.nm) (hb : Rng (t.b + -t.b)) (he : Rng (t.e + -t.b)) :
    Doc0 w ((((((((w6.setCell ⟨gz, 0, none⟩ (.slice A' na ca)).setCell ⟨gz, 1, none⟩ (.slice none 0 0)).setCell ⟨gz, 2, none⟩ (.slice (some ⟨w6.heap.size, 0, none⟩) 1 1)).setCell ⟨gz, 3, none⟩ (.slice none 0 0)).setCell ⟨gz, 4, none⟩ (.slice none 0 0)).setCell ⟨gz, 5, none⟩ (.slice none 0 0)).setCell ⟨gz, 6, none⟩ (.slice none 0 0)).alloc (.cells #[str t.nm, .int .i64 (t.b + -t.b), .int .i64 (t.e + -t.b), .slice Ap t.ks.length cp] 61)) H c t Tk g6 (.pointer (some ⟨gz, 0, none⟩)) := by
  have f := off7 Z (.slice A' na ca) (.slice none 0 0) (.slice (some ⟨w6.heap.size, 0, none⟩) 1 1) (.slice none 0 0) (.slice none 0 0) (.slice none 0 0) (.slice none 0 0)
  have hs : (((((((w6.setCell ⟨gz, 0, none⟩ (.slice A' na ca)).setCell ⟨gz, 1, none⟩ (.slice none 0 0)).setCell ⟨gz, 2, none⟩ (.slice (some ⟨w6.heap.size, 0, none⟩) 1 1)).setCell ⟨gz, 3, none⟩ (.slice none 0 0)).setCell ⟨gz, 4, none⟩ (.slice none 0 0)).setCell ⟨gz, 5, none⟩ (.slice none 0 0)).setCell ⟨gz, 6, none⟩ (.slice none 0 0)).heap.size = w6.heap.size := by simp [World.setCell]
  have E7 : Ex0 w (((((((w6.setCell ⟨gz, 0, none⟩ (.slice A' na ca)).setCell ⟨gz, 1, none⟩ (.slice none 0 0)).setCell ⟨gz, 2, none⟩ (.slice (some ⟨w6.heap.size, 0, none⟩) 1 1)).setCell ⟨gz, 3, none⟩ (.slice none 0 0)).setCell ⟨gz, 4, none⟩ (.slice none 0 0)).setCell ⟨gz, 5, none⟩ (.slice none 0 0)).setCell ⟨gz, 6, none⟩ (.slice none 0 0)) H t Tk g6 :=
    ⟨below7 E.below (by omega) _ _ _ _ _ _ _, ((((((E.bc.other (p := ⟨gz, 0, none⟩) (by show gz ≠ _; omega) _).other (p := ⟨gz, 1, none⟩) (by show gz ≠ _; omega) _).other (p := ⟨gz, 2, none⟩) (by show gz ≠ _; omega) _).other (p := ⟨gz, 3, none⟩) (by show gz ≠ _; omega) _).other (p := ⟨gz, 4, none⟩) (by show gz ≠ _; omega) _).other (p := ⟨gz, 5, none⟩) (by show gz ≠ _; omega) _).other (p := ⟨gz, 6, none⟩) (by show gz ≠ _; omega) _,
      ((((((E.b4.other (p := ⟨gz, 0, none⟩) (by show gz ≠ _; omega) _).other (p := ⟨gz, 1, none⟩) (by show gz ≠ _; omega) _).other (p := ⟨gz, 2, none⟩) (by show gz ≠ _; omega) _).other (p := ⟨gz, 3, none⟩) (by show gz ≠ _; omega) _).other (p := ⟨gz, 4, none⟩) (by show gz ≠ _; omega) _).other (p := ⟨gz, 5, none⟩) (by show gz ≠ _; omega) _).other (p := ⟨gz, 6, none⟩) (by show gz ≠ _; omega) _, E.bt.off f (by decide)⟩
  refine doc0 (E7.alloc _) hz ((((((((Z.set_ 0 _).set_ 1 _).set_ 2 _).set_ 3 _).set_ 4 _).set_ 5 _).set_ 6 _).alloc _) ((own_off oa f (by decide)).alloc _) ha ?_ E.below.size (own_base ((own_off op f (by decide)).alloc _) hBp) hk hn hb he
  have h := Blk.new (((((((w6.setCell ⟨gz, 0, none⟩ (.slice A' na ca)).setCell ⟨gz, 1, none⟩ (.slice none 0 0)).setCell ⟨gz, 2, none⟩ (.slice (some ⟨w6.heap.size, 0, none⟩) 1 1)).setCell ⟨gz, 3, none⟩ (.slice none 0 0)).setCell ⟨gz, 4, none⟩ (.slice none 0 0)).setCell ⟨gz, 5, none⟩ (.slice none 0 0)).setCell ⟨gz, 6, none⟩ (.slice none 0 0)) 61 #[str t.nm, .int .i64 (t.b + -t.b), .int .i64 (t.e + -t.b), .slice Ap t.ks.length cp]
  rw [hs] at h
  exact h
theorem slice_lh {P : Program} (t e : TypeId) (i : TypeInfo) (ht : P.underlying t = some (.slice e)) (hi : P.info? e = some i) (hsize : i.size = 1) (g o len cap p q : Nat) (hp : p ≤ q) (hq : q ≤ cap) (hlt : p < cap) (w : World) :
    (Instr.slice t (.slice (some ⟨g, o, none⟩) len cap) (some (.int .i64 (p : Nat))) (some (.int .i64 (q : Nat))) none).run P w = .ok (.slice (some ⟨g, o + p, none⟩) (q - p) (cap - p)) w := by
  have he : P.elem t = e := by simp [Program.elem, ht]
  have h := run_slice_lh (P := P) (w := w) t (some ⟨g, o, none⟩) len cap (by rw [he]; exact ht) .i64 .i64 (p : Int) (q : Int) (by omega) (by omega) (by omega)
  rw [h, he]
  have hne : ¬ cap = p := by omega
  simp [sizeOf, typeInfo, hi, sliced, hsize, Result.andThen, Addr.add, hne]
/-- The document while it grows. -/
def DocT (w wr : World) (H : CH) (t : Cor.Txt) (Tk : Hd) (g6 gd : Nat) (d : Cor.C) : Prop :=
  ∃ D : CH, Ex0 w wr H t Tk g6 ∧ OwnC wr w.heap.size gd D d ∧ D.h = ⟨none, 0, 0⟩ ∧ D.l = ⟨none, 0, 0⟩
theorem own_drew6 {w : World} {b s n : Nat} {e : TypeId} {v : Value} {xs : List Value} (h : w.ownsRow b e s v n xs) : w.drew.ownsRow b e s v n xs := own_same h (fun _ _ => rfl)
theorem ndV_one6 (x : Cor.Nod) : ∀ u ∈ ndV x, u.oneCell' = true := by
  intro u hu
  unfold ndV at hu
  simp at hu
  rcases hu with rfl | rfl | rfl | rfl <;> rfl
theorem Sl.cut {w : World} {B g o n p q : Nat} {xs : List Value} (h : Sl w B 1 (some ⟨g, o, none⟩) n xs) (hp : p < q) (hq : q ≤ n) : Sl w B 1 (some ⟨g, o + p, none⟩) (q - p) ((xs.drop p).take (q - p)) := by
  have hl : xs.length = n := by have := h.1; omega
  refine ⟨by rw [List.length_take, List.length_drop]; omega, fun _ => ?_⟩
  obtain ⟨g', o', e, hg, hc⟩ := h.2 (by omega)
  cases e
  refine ⟨g, o + p, rfl, hg, fun j u hj => ?_⟩
  rw [List.getElem?_take] at hj
  split at hj
  · rw [List.getElem?_drop] at hj
    rw [Nat.add_assoc]
    exact hc (p + j) u hj
  · cases hj
theorem Nums.cut {w : World} {B g o n c p q : Nat} {l : List Int} (h : Nums w B ⟨some ⟨g, o, none⟩, n, c⟩ l) (hp : p < q) (hq : q ≤ n) : Nums w B ⟨some ⟨g, o + p, none⟩, q - p, c - p⟩ ((l.drop p).take (q - p)) := by
  have hf := h.1
  refine ⟨⟨?_, ?_⟩, ?_, fun x hx => h.2.2 x (List.mem_of_mem_drop (List.mem_of_mem_take hx))⟩
  · have : n ≤ c := hf.1
    show q - p ≤ c - p; omega
  · have : n ≤ _ := hf.2
    show q - p ≤ _; omega
  · have := Sl.cut h.2.1 hp hq
    unfold ints at this ⊢
    rw [List.map_take, List.map_drop]; exact this
theorem Words.cut {w : World} {B g o n c p q : Nat} {l : List Bs} (h : Words w B ⟨some ⟨g, o, none⟩, n, c⟩ l) (hp : p < q) (hq : q ≤ n) : Words w B ⟨some ⟨g, o + p, none⟩, q - p, c - p⟩ ((l.drop p).take (q - p)) := by
  have hf := h.1
  refine ⟨⟨?_, ?_⟩, ?_, fun x hx => h.2.2 x (List.mem_of_mem_drop (List.mem_of_mem_take hx))⟩
  · have : n ≤ c := hf.1
    show q - p ≤ c - p; omega
  · have : n ≤ _ := hf.2
    show q - p ≤ _; omega
  · have := Sl.cut h.2.1 hp hq
    unfold strs at this ⊢
    rw [List.map_take, List.map_drop]; exact this
/-- Heads and relations while they grow: all else is as it was when they began. -/
structure HeadT (w wo wr : World) (gd : Nat) (v0 v1 v2 v3 v4 : Value) (Eh El : Hd) (hs : List Int) (ls : List Bs) : Prop where
  below : Below w.heap.size w wr
  keep : ∀ k, k < wo.heap.size → k ≠ gd → wr.heap[k]? = wo.heap[k]?
  size : wo.heap.size ≤ wr.heap.size
  blk : Blk wr gd 30 #[v0, v1, v2, v3, v4, .slice Eh.A Eh.n Eh.c, .slice El.A El.n El.c]
  h : OI wr wo.heap.size Eh hs
  l : OwnW wr wo.heap.size El ls
section
variable {w wo wr w1 : World} {gd : Nat} {v0 v1 v2 v3 v4 : Value} {Eh El : Hd} {hs : List Int} {ls : List Bs}
theorem HeadT.bel (k : HeadT w wo wr gd v0 v1 v2 v3 v4 Eh El hs ls) (hb : Below wr.heap.size wr w1) : HeadT w wo w1 gd v0 v1 v2 v3 v4 Eh El hs ls :=
  ⟨k.below.trans (hb.mono k.below.size), fun i hi hne => (hb.block i (Nat.lt_of_lt_of_le hi k.size)).trans (k.keep i hi hne), Nat.le_trans k.size hb.size, k.blk.below hb, ⟨own_below k.h.1 hb, k.h.2⟩, ⟨own_below k.l.1 hb, k.l.2⟩⟩
theorem HeadT.alloc (k : HeadT w wo wr gd v0 v1 v2 v3 v4 Eh El hs ls) (o : Obj) : HeadT w wo (wr.alloc o) gd v0 v1 v2 v3 v4 Eh El hs ls := k.bel ((Below.refl _ _).alloc (Nat.le_refl _) o)
theorem HeadT.drew (k : HeadT w wo wr gd v0 v1 v2 v3 v4 Eh El hs ls) : HeadT w wo wr.drew gd v0 v1 v2 v3 v4 Eh El hs ls := k.bel ((Below.refl _ _).drew)
theorem HeadT.head (k : HeadT w wo wr gd v0 v1 v2 v3 v4 Eh El hs ls) (hw : w.heap.size ≤ gd) (hwo : w.heap.size ≤ wo.heap.size) {z : Int} (rz : Rng z) {A' : Option Addr} {n' c' : Nat} (own' : w1.ownsRow wo.heap.size 3 1 (.slice A' n' c') n' (ints hs ++ [.int .i64 z])) (gr : wr.grownBy w1 Eh.v.ownBlock) :
    HeadT w wo (w1.setCell ⟨gd, 5, none⟩ (.slice A' n' c')) gd v0 v1 v2 v3 v4 ⟨A', n', c'⟩ El (hs ++ [z]) ls := by
  have f1 := Off.grown k.h.1 gr
  have b1 := k.blk.off f1 (by decide)
  have f2 := Off.set_ b1 5 (.slice A' n' c')
  refine ⟨(k.below.grown gr k.below.size (fun i hi => Nat.le_trans hwo (k.h.1.lt i hi).1)).setCell (p := ⟨gd, 5, none⟩) hw _, fun i hi hne => (setCell_block (by show i ≠ gd; exact hne)).trans ((gr.block i (Nat.lt_of_lt_of_le hi k.size) (fun e => ?_)).trans (k.keep i hi hne)), ?_, b1.set_ 5 _, ⟨?_, ?_⟩, (k.l.off f1 (by decide)).off f2 (by decide)⟩
  · have := (k.h.1.lt i e.symm).1; omega
  · exact Nat.le_trans k.size (Nat.le_trans f1.size f2.size)
  · have := own_off own' f2 (by decide)
    unfold ints at this ⊢
    simpa using this
  · intro x hx
    rcases List.mem_append.1 hx with hx | hx
    · exact k.h.2 x hx
    · simp at hx; subst hx; exact rz
theorem HeadT.rel (k : HeadT w wo wr gd v0 v1 v2 v3 v4 Eh El hs ls) (hw : w.heap.size ≤ gd) (hwo : w.heap.size ≤ wo.heap.size) {s : Bs} (rz : Len s) {A' : Option Addr} {n' c' : Nat} (own' : w1.ownsRow wo.heap.size 9 1 (.slice A' n' c') n' (strs ls ++ [str s])) (gr : wr.grownBy w1 El.v.ownBlock) :
    HeadT w wo (w1.setCell ⟨gd, 6, none⟩ (.slice A' n' c')) gd v0 v1 v2 v3 v4 Eh ⟨A', n', c'⟩ hs (ls ++ [s]) := by
  have f1 := Off.grown k.l.1 gr
  have b1 := k.blk.off f1 (by decide)
  have f2 := Off.set_ b1 6 (.slice A' n' c')
  refine ⟨(k.below.grown gr k.below.size (fun i hi => Nat.le_trans hwo (k.l.1.lt i hi).1)).setCell (p := ⟨gd, 6, none⟩) hw _, fun i hi hne => (setCell_block (by show i ≠ gd; exact hne)).trans ((gr.block i (Nat.lt_of_lt_of_le hi k.size) (fun e => ?_)).trans (k.keep i hi hne)), ?_, b1.set_ 6 _, (k.h.off f1 (by decide)).off f2 (by decide), ⟨?_, ?_⟩⟩
  · have := (k.l.1.lt i e.symm).1; omega
  · exact Nat.le_trans k.size (Nat.le_trans f1.size f2.size)
  · have := own_off own' f2 (by decide)
    unfold strs at this ⊢
    simpa using this
  · intro x hx
    rcases List.mem_append.1 hx with hx | hx
    · exact k.l.2 x hx
    · simp at hx; subst hx; exact rz
end
theorem info_att6 : (Tryd.prog.info? 55).map (fun i => (i.zero, i.size, i.bytes)) = some (some (.agg #[.string ⟨#[]⟩, .bool false]), 2, 24) := by kernel_rfl
theorem info_sls : (Tryd.prog.info? 28).map (fun i => (i.zero, i.size, i.bytes)) = some (some (.slice none 0 0), 1, 24) := by kernel_rfl
theorem info_txt : (Tryd.prog.info? 61).map (fun i => (i.zero, i.size, i.bytes)) = some (some (.agg #[.string ⟨#[]⟩, .int .i64 0, .int .i64 0, .slice none 0 0]), 4, 56) := by kernel_rfl
theorem info_nod : (Tryd.prog.info? 64).map (fun i => (i.zero, i.size, i.bytes)) = some (some (.agg #[.string ⟨#[]⟩, .int .i64 0, .int .i64 0, .int .i64 0]), 4, 40) := by kernel_rfl
end Go.Proofs.YtgkdaebiefhgdaaDoor
