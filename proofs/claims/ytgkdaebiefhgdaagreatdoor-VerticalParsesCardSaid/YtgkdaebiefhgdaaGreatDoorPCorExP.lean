/-
 What is known of memory while Extract runs. No conditions.
-/
import Derived.Test.YtgkdaebiefhgdaaGreatDoorPCorVfs
import Derived.Test.YtgkdaebiefhgdaaGreatDoorPCorCp
import Derived.Test.YtgkdaebiefhgdaaGreatDoorPCorOwn
import Derived.Test.YtgkdaebiefhgdaaGreatDoorPCorAtx
import Derived.Test.YtgkdaebiefhgdaaGreatDoorPCorPl
namespace Go.Proofs.YtgkdaebiefhgdaaGreatDoor
open Go.RowKit Utf
open Feat (Bs)
abbrev nilH : CH := ⟨⟨none, 0, 0⟩, ⟨none, 0, 0⟩, ⟨none, 0, 0⟩, ⟨none, 0, 0⟩, ⟨none, 0, 0⟩, ⟨none, 0, 0⟩, ⟨none, 0, 0⟩⟩
theorem reads_nil (w : World) (B : Nat) : Reads w B nilH Cor.nil := by
 have f : Fit ⟨none, 0, 0⟩ := ⟨Nat.le_refl _, Nat.zero_le _⟩
 have s : ∀ z, Sl w B z none 0 [] := fun z => ⟨by simp, fun h => by cases h⟩
 exact ⟨⟨f, s 2, fun _ h => by cases h⟩, ⟨[], rfl, f, s 1, fun _ h => by cases h⟩, ⟨[], rfl, f, s 4, fun _ h => by cases h⟩, ⟨[], rfl, f, s 4, fun _ h => by cases h⟩, ⟨f, s 4, fun _ h => by cases h⟩, ⟨f, s 1, fun _ h => by cases h⟩, ⟨f, s 1, fun _ h => by cases h⟩⟩
structure Ex0 (w0 wr : World) (H : CH) (t : Cor.Txt) (Tk : Hd) (g6 : Nat) : Prop where
 below : Below w0.heap.size w0 wr
 bc : Blk wr w0.heap.size 30 H.cs
 b4 : Blk wr (w0.heap.size + 1) 30 nilH.cs
 bt : Blk wr g6 66 #[str t.nm, .int .i64 t.b, .int .i64 t.e, .slice Tk.A Tk.n Tk.c]
section
variable {w0 wr w' : World} {H : CH} {t : Cor.Txt} {Tk : Hd} {g6 : Nat}
theorem Ex0.bel (h : Ex0 w0 wr H t Tk g6) (hb : Below wr.heap.size wr w') : Ex0 w0 w' H t Tk g6 :=
 ⟨h.below.trans (hb.mono h.below.size), h.bc.below hb, h.b4.below hb, h.bt.below hb⟩
theorem Ex0.drewN (h : Ex0 w0 wr H t Tk g6) (n : Nat) : Ex0 w0 (wr.drewN n) H t Tk g6 := ⟨below_drewN h.below n, h.bc, h.b4, h.bt⟩
theorem Ex0.drew (h : Ex0 w0 wr H t Tk g6) : Ex0 w0 wr.drew H t Tk g6 := h.drewN 1
theorem Ex0.alloc (h : Ex0 w0 wr H t Tk g6) (o : Obj) : Ex0 w0 (wr.alloc o) H t Tk g6 := h.bel ((Below.refl _ _).alloc (Nat.le_refl _) o)
theorem Ex0.off {R : TypeId} (h : Ex0 w0 wr H t Tk g6) (f : Off R wr w') (n1 : 30 ≠ R) (n2 : 66 ≠ R) (hb : Below w0.heap.size w0 w') : Ex0 w0 w' H t Tk g6 :=
 ⟨hb, h.bc.off f n1, h.b4.off f n1, h.bt.off f n2⟩
theorem Ex0.grown {e : TypeId} {s n : Nat} {v : Value} {xs : List Value} (h : Ex0 w0 wr H t Tk g6) (ho : wr.ownsRow w0.heap.size e s v n xs) (gr : wr.grownBy w' v.ownBlock) (n1 : 30 ≠ e) (n2 : 66 ≠ e) : Ex0 w0 w' H t Tk g6 :=
 h.off (Off.grown ho gr) n1 n2 (h.below.grown gr h.below.size (fun k hk => (ho.lt k hk).1))
theorem Ex0.keep {gd : Nat} {w1 : World} {cs : Array Value} (h : Ex0 w0 wr H t Tk g6) (hd : Blk wr gd 30 cs) (hg : w0.heap.size + 1 < gd) (hk : ∀ k, k < wr.heap.size → k ≠ gd → w1.heap[k]? = wr.heap[k]?) (hb : Below w0.heap.size w0 w1) : Ex0 w0 w1 H t Tk g6 :=
 ⟨hb, (hk _ h.bc.lt (by omega)).trans h.bc, (hk _ h.b4.lt (by omega)).trans h.b4, (hk _ h.bt.lt (by
  rintro rfl
  have h1 := h.bt
  unfold Blk at h1 hd
  rw [hd] at h1; cases h1)).trans h.bt⟩
end
theorem Atts.src {w : World} {B : Nat} {A : Option Addr} {n c : Nat} {l : List At} (h : Atts w B ⟨A, n, c⟩ l) : Src w A (l.flatMap atV) := by
 intro hp
 obtain ⟨g, o, e, _, hc⟩ := h.2.1.2 hp
 refine ⟨⟨g, o, none⟩, e, fun j u hj => ?_⟩
 have ea : (⟨g, o, none⟩ : Addr).add j = ⟨g, o + j, none⟩ := by unfold Addr.add; split <;> simp_all
 rw [ea]; exact hc j u hj
theorem Words.src {w : World} {B : Nat} {A : Option Addr} {n c : Nat} {l : List Bs} (h : Words w B ⟨A, n, c⟩ l) : Src w A (strs l) := by
 intro hp
 obtain ⟨g, o, e, _, hc⟩ := h.2.1.2 hp
 refine ⟨⟨g, o, none⟩, e, fun j u hj => ?_⟩
 have ea : (⟨g, o, none⟩ : Addr).add j = ⟨g, o + j, none⟩ := by unfold Addr.add; split <;> simp_all
 rw [ea]; exact hc j u hj
theorem atV_one (l : List At) : ∀ u ∈ l.flatMap atV, u.oneCell' = true := by
 intro u hu
 rw [List.mem_flatMap] at hu
 obtain ⟨p, _, hp⟩ := hu
 unfold atV at hp
 simp at hp
 rcases hp with rfl | rfl <;> rfl
theorem own_drew6 {w : World} {b s n : Nat} {e : TypeId} {v : Value} {xs : List Value} (h : w.ownsRow b e s v n xs) : w.drew.ownsRow b e s v n xs := own_same h (fun _ _ => rfl)
structure HeadT (w wo wr : World) (gd : Nat) (v0 v1 v2 v3 v4 : Value) (Eh El : Hd) (hs : List Int) (ls : List Bs) : Prop where
 below : Below w.heap.size w wr
 keep : ∀ k, k < wo.heap.size → k ≠ gd → wr.heap[k]? = wo.heap[k]?
 size : wo.heap.size ≤ wr.heap.size
 blk : Blk wr gd 30 #[v0, v1, v2, v3, v4, .slice Eh.A Eh.n Eh.c, .slice El.A El.n El.c]
 h : OI wr wo.heap.size Eh hs
 l : OwnW wr wo.heap.size El ls
section
variable {w wo wr w1 : World} {gd : Nat} {v0 v1 v2 v3 v4 : Value} {Eh El : Hd} {hs : List Int} {ls : List Bs}
theorem HeadT.bel (k : HeadT w wo wr gd v0 v1 v2 v3 v4 Eh El hs ls) (hb : Below wr.heap.size wr w1) : HeadT w wo w1 gd v0 v1 v2 v3 v4 Eh El hs ls :=
 ⟨k.below.trans (hb.mono k.below.size), fun i hi hne => (hb.block i (Nat.lt_of_lt_of_le hi k.size)).trans (k.keep i hi hne), Nat.le_trans k.size hb.size, k.blk.below hb, ⟨own_below k.h.1 hb, k.h.2⟩, ⟨own_below k.l.1 hb, k.l.2⟩⟩
theorem HeadT.alloc (k : HeadT w wo wr gd v0 v1 v2 v3 v4 Eh El hs ls) (o : Obj) : HeadT w wo (wr.alloc o) gd v0 v1 v2 v3 v4 Eh El hs ls := k.bel ((Below.refl _ _).alloc (Nat.le_refl _) o)
theorem HeadT.drew (k : HeadT w wo wr gd v0 v1 v2 v3 v4 Eh El hs ls) : HeadT w wo wr.drew gd v0 v1 v2 v3 v4 Eh El hs ls := k.bel ((Below.refl _ _).drew)
theorem HeadT.rel (k : HeadT w wo wr gd v0 v1 v2 v3 v4 Eh El hs ls) (hw : w.heap.size ≤ gd) (hwo : w.heap.size ≤ wo.heap.size) {s : Bs} (rz : Len s) {A' : Option Addr} {n' c' : Nat} (own' : w1.ownsRow wo.heap.size 9 1 (.slice A' n' c') n' (strs ls ++ [str s])) (gr : wr.grownBy w1 El.v.ownBlock) :
  HeadT w wo (w1.setCell ⟨gd, 6, none⟩ (.slice A' n' c')) gd v0 v1 v2 v3 v4 Eh ⟨A', n', c'⟩ hs (ls ++ [s]) := by
 have f1 := Off.grown k.l.1 gr
 have b1 := k.blk.off f1 (by decide)
 have f2 := Off.set_ b1 6 (.slice A' n' c')
 refine ⟨(k.below.grown gr k.below.size (fun i hi => Nat.le_trans hwo (k.l.1.lt i hi).1)).setCell (p := ⟨gd, 6, none⟩) hw _, fun i hi hne => (setCell_block (by show i ≠ gd; exact hne)).trans ((gr.block i (Nat.lt_of_lt_of_le hi k.size) (fun e => ?_)).trans (k.keep i hi hne)), ?_, b1.set_ 6 _, (k.h.off f1 (by decide)).off f2 (by decide), ⟨?_, ?_⟩⟩
 ·have := (k.l.1.lt i e.symm).1; omega
 ·exact Nat.le_trans k.size (Nat.le_trans f1.size f2.size)
 ·have := own_off own' f2 (by decide)
  unfold strs at this ⊢
  simpa using this
 ·intro x hx
  rcases List.mem_append.1 hx with hx | hx
  ·exact k.l.2 x hx
  ·simp at hx; subst hx; exact rz
end
theorem info_att6 : (Tryz.prog.info? 73).map (fun i => (i.zero, i.size, i.bytes)) = some (some (.agg #[.string ⟨#[]⟩, .bool false]), 2, 24) := by kernel_rfl
end Go.Proofs.YtgkdaebiefhgdaaGreatDoor
