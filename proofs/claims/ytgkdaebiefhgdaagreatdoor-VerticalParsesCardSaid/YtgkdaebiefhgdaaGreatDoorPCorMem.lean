/-
 Whatever the program: how a corpus reads in memory. No conditions.
-/
import Derived.Test.YtgkdaebiefhgdaaGreatDoorPCor
import Derived.Test.YtgkdaebiefhgdaaGreatDoorPBase6
import Derived.Deep.QuietTactic
namespace Go.Proofs.YtgkdaebiefhgdaaGreatDoor
open Go.RowKit
open Feat (Bs)
open Tagp (KV)
theorem quiet_s {P : Program} {f : FuncId} {args : Array Value} {w : World} {n : Nat} {v : Value} (h : Calls P f args (w.drewN n) (SameW v (w.drewN n))) : Calls P f args (w.drewN n) fun e w'' => e = .returned v ∧ ∃ m, w'' = w.drewN m :=
 h.mono fun _ _ ⟨he, hm⟩ => ⟨he, n, hm.symm⟩
theorem quiet_sa {P : Program} {f : FuncId} {args : Array Value} {w : World} {a n : Nat} {v : Value} (h : Calls P f args (w.drewN (a + n)) (SameW v (w.drewN (a + n)))) : Calls P f args (w.drewN (a + n)) fun e w'' => e = .returned v ∧ ∃ m, w'' = w.drewN (a + m) :=
 h.mono fun _ _ ⟨he, hm⟩ => ⟨he, n, hm.symm⟩
structure Hd where
 A : Option Addr
 n : Nat
 c : Nat
abbrev Hd.v (h : Hd) : Value := .slice h.A h.n h.c
def Rng (x : Int) : Prop := -9223372036854775808 ≤ x ∧ x ≤ 9223372036854775807
def Len (s : Bs) : Prop := s.length ≤ 9223372036854775807
def Fit (h : Hd) : Prop := h.n ≤ h.c ∧ h.n ≤ 9223372036854775807

theorem flat_len {α : Type} {f : α → List Value} {z : Nat} (hf : ∀ a, (f a).length = z) (l : List α) : (l.flatMap f).length = l.length * z := by
 induction l with
 | nil => simp
 | cons a l ih => rw [List.flatMap_cons, List.length_append, hf, ih, List.length_cons, Nat.succ_mul, Nat.add_comm]
theorem flat_at {α : Type} {f : α → List Value} {z : Nat} (hf : ∀ a, (f a).length = z) : ∀ (l : List α) (k : Nat) (hk : k < l.length) (j : Nat), j < z → (l.flatMap f)[k * z + j]? = (f l[k])[j]?
 | a :: l, 0, _, j, hj => by
  rw [List.flatMap_cons, Nat.zero_mul, Nat.zero_add, List.getElem?_append_left (by rw [hf]; exact hj)]; rfl
 | a :: l, k + 1, hk, j, hj => by
  rw [List.flatMap_cons, List.getElem?_append_right (by rw [hf, Nat.succ_mul]; omega), hf, Nat.succ_mul, show k * z + z + j - z = k * z + j by omega]
  exact flat_at hf l k (by simpa using hk) j hj
theorem Sl.elem {α : Type} {f : α → List Value} {z : Nat} {w : World} {B n k : Nat} {A : Option Addr} {l : List α} (hf : ∀ a, (f a).length = z) (hz : 0 < z) (h : Sl w B z A n (l.flatMap f)) (hk : k < n) :
  ∃ g o, ∃ hk : k < l.length, A = some ⟨g, o, none⟩ ∧ g < B ∧ ∀ j u, (f l[k])[j]? = some u → w.cell? ⟨g, o + (k * z + j), none⟩ = some u := by
 have hl : l.length = n := by have := h.1; rw [flat_len hf] at this; exact Nat.eq_of_mul_eq_mul_right hz this
 have hm : k * z < n * z := Nat.mul_lt_mul_of_pos_right hk hz
 obtain ⟨g, o, e, hb, hc⟩ := h.2 (by rw [h.1]; omega)
 refine ⟨g, o, by omega, e, hb, fun j u hj => hc _ _ ?_⟩
 have hjz : j < z := by
  have := (List.getElem?_eq_some_iff.1 hj).1
  rw [hf] at this; exact this
 rw [flat_at hf l k (by omega) j hjz]; exact hj
theorem Sl.flen {α : Type} {f : α → List Value} {z : Nat} {w : World} {B n : Nat} {A : Option Addr} {l : List α} (hf : ∀ a, (f a).length = z) (hz : 0 < z) (h : Sl w B z A n (l.flatMap f)) : l.length = n := by
 have := h.1; rw [flat_len hf] at this; exact Nat.eq_of_mul_eq_mul_right hz this

abbrev At := Bs × Bool
def atV (a : At) : List Value := [str a.1, .bool a.2]
theorem atV_len (a : At) : (atV a).length = 2 := rfl
def Atts (w : World) (B : Nat) (h : Hd) (l : List At) : Prop := Fit h ∧ Sl w B 2 h.A h.n (l.flatMap atV) ∧ ∀ a ∈ l, Len a.1

def prV (p : KV) : List Value := [str p.1, str p.2]
theorem prV_len (p : KV) : (prV p).length = 2 := rfl
def Keys (w : World) (B : Nat) (h : Hd) (l : List KV) : Prop := Fit h ∧ Sl w B 2 h.A h.n (l.flatMap prV) ∧ ∀ p ∈ l, Len p.1 ∧ Len p.2

abbrev TH := Cor.Txt × Hd
def txV (x : TH) : List Value := [str x.1.nm, .int .i64 x.1.b, .int .i64 x.1.e, x.2.v]
theorem txV_len (x : TH) : (txV x).length = 4 := rfl
def TxOk (w : World) (B : Nat) (x : TH) : Prop := Len x.1.nm ∧ Rng x.1.b ∧ Rng x.1.e ∧ Keys w B x.2 x.1.ks
def Txts (w : World) (B : Nat) (h : Hd) (l : List Cor.Txt) : Prop := ∃ L : List TH, L.map Prod.fst = l ∧ Fit h ∧ Sl w B 4 h.A h.n (L.flatMap txV) ∧ ∀ x ∈ L, TxOk w B x

def ndV (x : Cor.Nod) : List Value := [str x.lb, .int .i64 x.b, .int .i64 x.e, .int .i64 x.p]
theorem ndV_len (x : Cor.Nod) : (ndV x).length = 4 := rfl
def Nods (w : World) (B : Nat) (h : Hd) (l : List Cor.Nod) : Prop := Fit h ∧ Sl w B 4 h.A h.n (l.flatMap ndV) ∧ ∀ x ∈ l, Len x.lb ∧ Rng x.b ∧ Rng x.e ∧ Rng x.p

def Words (w : World) (B : Nat) (h : Hd) (l : List Bs) : Prop := Fit h ∧ Sl w B 1 h.A h.n (strs l) ∧ ∀ s ∈ l, Len s
abbrev KH := List Bs × Hd
def tkV (x : KH) : List Value := [x.2.v]
theorem tkV_len (x : KH) : (tkV x).length = 1 := rfl
def Toks (w : World) (B : Nat) (h : Hd) (l : List (List Bs)) : Prop := ∃ L : List KH, L.map Prod.fst = l ∧ Fit h ∧ Sl w B 1 h.A h.n (L.flatMap tkV) ∧ ∀ x ∈ L, Words w B x.2 x.1
def Nums (w : World) (B : Nat) (h : Hd) (l : List Int) : Prop := Fit h ∧ Sl w B 1 h.A h.n (ints l) ∧ ∀ x ∈ l, Rng x

structure CH where
 a : Hd
 t : Hd
 x : Hd
 r : Hd
 n : Hd
 h : Hd
 l : Hd
abbrev CH.cs (c : CH) : Array Value := #[c.a.v, c.t.v, c.x.v, c.r.v, c.n.v, c.h.v, c.l.v]
abbrev CH.v (c : CH) : Value := .agg c.cs
structure Reads (w : World) (B : Nat) (H : CH) (c : Cor.C) : Prop where
 a : Atts w B H.a c.attrs
 t : Toks w B H.t c.toks
 x : Txts w B H.x c.texts
 r : Txts w B H.r c.regs
 n : Nods w B H.n c.nods
 h : Nums w B H.h c.heads
 l : Words w B H.l c.rels

section
variable {w w' : World} {B B' : Nat}
theorem Atts.under {h : Hd} {l : List At} (k : Atts w B h l) (hb : Below B w w') : Atts w' B h l := ⟨k.1, k.2.1.under hb, k.2.2⟩
theorem Atts.up {h : Hd} {l : List At} (k : Atts w B h l) (hb : B ≤ B') : Atts w B' h l := ⟨k.1, k.2.1.up hb, k.2.2⟩
theorem Keys.under {h : Hd} {l : List KV} (k : Keys w B h l) (hb : Below B w w') : Keys w' B h l := ⟨k.1, k.2.1.under hb, k.2.2⟩
theorem Keys.up {h : Hd} {l : List KV} (k : Keys w B h l) (hb : B ≤ B') : Keys w B' h l := ⟨k.1, k.2.1.up hb, k.2.2⟩
theorem TxOk.under {x : TH} (k : TxOk w B x) (hb : Below B w w') : TxOk w' B x := ⟨k.1, k.2.1, k.2.2.1, k.2.2.2.under hb⟩
theorem TxOk.up {x : TH} (k : TxOk w B x) (hb : B ≤ B') : TxOk w B' x := ⟨k.1, k.2.1, k.2.2.1, k.2.2.2.up hb⟩
theorem Txts.under {h : Hd} {l : List Cor.Txt} (k : Txts w B h l) (hb : Below B w w') : Txts w' B h l := by
 obtain ⟨L, e, f, s, o⟩ := k; exact ⟨L, e, f, s.under hb, fun x hx => (o x hx).under hb⟩
theorem Txts.up {h : Hd} {l : List Cor.Txt} (k : Txts w B h l) (hb : B ≤ B') : Txts w B' h l := by
 obtain ⟨L, e, f, s, o⟩ := k; exact ⟨L, e, f, s.up hb, fun x hx => (o x hx).up hb⟩
theorem Nods.under {h : Hd} {l : List Cor.Nod} (k : Nods w B h l) (hb : Below B w w') : Nods w' B h l := ⟨k.1, k.2.1.under hb, k.2.2⟩
theorem Nods.up {h : Hd} {l : List Cor.Nod} (k : Nods w B h l) (hb : B ≤ B') : Nods w B' h l := ⟨k.1, k.2.1.up hb, k.2.2⟩
theorem Words.under {h : Hd} {l : List Bs} (k : Words w B h l) (hb : Below B w w') : Words w' B h l := ⟨k.1, k.2.1.under hb, k.2.2⟩
theorem Words.up {h : Hd} {l : List Bs} (k : Words w B h l) (hb : B ≤ B') : Words w B' h l := ⟨k.1, k.2.1.up hb, k.2.2⟩
theorem Toks.under {h : Hd} {l : List (List Bs)} (k : Toks w B h l) (hb : Below B w w') : Toks w' B h l := by
 obtain ⟨L, e, f, s, o⟩ := k; exact ⟨L, e, f, s.under hb, fun x hx => (o x hx).under hb⟩
theorem Toks.up {h : Hd} {l : List (List Bs)} (k : Toks w B h l) (hb : B ≤ B') : Toks w B' h l := by
 obtain ⟨L, e, f, s, o⟩ := k; exact ⟨L, e, f, s.up hb, fun x hx => (o x hx).up hb⟩
theorem Nums.under {h : Hd} {l : List Int} (k : Nums w B h l) (hb : Below B w w') : Nums w' B h l := ⟨k.1, k.2.1.under hb, k.2.2⟩
theorem Nums.up {h : Hd} {l : List Int} (k : Nums w B h l) (hb : B ≤ B') : Nums w B' h l := ⟨k.1, k.2.1.up hb, k.2.2⟩
theorem Reads.under {H : CH} {c : Cor.C} (k : Reads w B H c) (hb : Below B w w') : Reads w' B H c :=
 ⟨k.a.under hb, k.t.under hb, k.x.under hb, k.r.under hb, k.n.under hb, k.h.under hb, k.l.under hb⟩
theorem Reads.up {H : CH} {c : Cor.C} (k : Reads w B H c) (hb : B ≤ B') : Reads w B' H c :=
 ⟨k.a.up hb, k.t.up hb, k.x.up hb, k.r.up hb, k.n.up hb, k.h.up hb, k.l.up hb⟩
end
section
variable {w : World} {B : Nat} {h : Hd}
theorem Atts.len {l : List At} (k : Atts w B h l) : l.length = h.n := k.2.1.flen atV_len (by omega)
theorem Keys.len {l : List KV} (k : Keys w B h l) : l.length = h.n := k.2.1.flen prV_len (by omega)
theorem Txts.len {l : List Cor.Txt} (k : Txts w B h l) : l.length = h.n := by obtain ⟨L, rfl, _, s, _⟩ := k; rw [List.length_map]; exact s.flen txV_len (by omega)
theorem Nods.len {l : List Cor.Nod} (k : Nods w B h l) : l.length = h.n := k.2.1.flen ndV_len (by omega)
theorem Words.len {l : List Bs} (k : Words w B h l) : l.length = h.n := Sl.len k.2.1
theorem Toks.len {l : List (List Bs)} (k : Toks w B h l) : l.length = h.n := by obtain ⟨L, rfl, _, s, _⟩ := k; rw [List.length_map]; exact s.flen tkV_len (by omega)
theorem Nums.len {l : List Int} (k : Nums w B h l) : l.length = h.n := k.2.1.ilen
theorem Atts.fit {l : List At} (k : Atts w B h l) : Fit h := k.1
theorem Txts.fit {l : List Cor.Txt} (k : Txts w B h l) : Fit h := by obtain ⟨_, _, f, _⟩ := k; exact f
theorem Toks.fit {l : List (List Bs)} (k : Toks w B h l) : Fit h := by obtain ⟨_, _, f, _⟩ := k; exact f
theorem Atts.at_ {l : List At} (q : Atts w B h l) {k : Nat} (hk : k < h.n) :
  ∃ g o, ∃ hk : k < l.length, h.A = some ⟨g, o, none⟩ ∧ g < B ∧ Len l[k].1 ∧ w.cell? ⟨g, o + k * 2, none⟩ = some (str l[k].1) ∧ w.cell? ⟨g, o + k * 2 + 1, none⟩ = some (.bool l[k].2) := by
 obtain ⟨g, o, hk', e, hg, hc⟩ := q.2.1.elem atV_len (by omega) hk
 exact ⟨g, o, hk', e, hg, q.2.2 _ (List.getElem_mem _), hc 0 _ rfl, hc 1 _ rfl⟩
theorem Keys.at_ {l : List KV} (q : Keys w B h l) {k : Nat} (hk : k < h.n) :
  ∃ g o, ∃ hk : k < l.length, h.A = some ⟨g, o, none⟩ ∧ g < B ∧ (Len l[k].1 ∧ Len l[k].2) ∧ w.cell? ⟨g, o + k * 2, none⟩ = some (str l[k].1) ∧ w.cell? ⟨g, o + k * 2 + 1, none⟩ = some (str l[k].2) := by
 obtain ⟨g, o, hk', e, hg, hc⟩ := q.2.1.elem prV_len (by omega) hk
 exact ⟨g, o, hk', e, hg, q.2.2 _ (List.getElem_mem _), hc 0 _ rfl, hc 1 _ rfl⟩
theorem Txts.at_ {l : List Cor.Txt} (q : Txts w B h l) {k : Nat} (hk : k < h.n) :
  ∃ g o H, ∃ hk : k < l.length, h.A = some ⟨g, o, none⟩ ∧ g < B ∧ TxOk w B (l[k], H) ∧ w.cell? ⟨g, o + k * 4, none⟩ = some (str l[k].nm) ∧ w.cell? ⟨g, o + k * 4 + 1, none⟩ = some (.int .i64 l[k].b) ∧
   w.cell? ⟨g, o + k * 4 + 2, none⟩ = some (.int .i64 l[k].e) ∧ w.cell? ⟨g, o + k * 4 + 3, none⟩ = some (.slice H.A H.n H.c) := by
 obtain ⟨L, rfl, _, s, ho⟩ := q
 obtain ⟨g, o, hk', e, hg, hc⟩ := s.elem txV_len (by omega) hk
 have hm : (L.map Prod.fst)[k]'(by simpa using hk') = L[k].1 := by simp
 refine ⟨g, o, L[k].2, by simpa using hk', e, hg, ?_⟩
 rw [hm]
 exact ⟨ho _ (List.getElem_mem _), hc 0 _ rfl, hc 1 _ rfl, hc 2 _ rfl, hc 3 _ rfl⟩
theorem Nods.at_ {l : List Cor.Nod} (q : Nods w B h l) {k : Nat} (hk : k < h.n) :
  ∃ g o, ∃ hk : k < l.length, h.A = some ⟨g, o, none⟩ ∧ g < B ∧ (Len l[k].lb ∧ Rng l[k].b ∧ Rng l[k].e ∧ Rng l[k].p) ∧ w.cell? ⟨g, o + k * 4, none⟩ = some (str l[k].lb) ∧ w.cell? ⟨g, o + k * 4 + 1, none⟩ = some (.int .i64 l[k].b) ∧
   w.cell? ⟨g, o + k * 4 + 2, none⟩ = some (.int .i64 l[k].e) ∧ w.cell? ⟨g, o + k * 4 + 3, none⟩ = some (.int .i64 l[k].p) := by
 obtain ⟨g, o, hk', e, hg, hc⟩ := q.2.1.elem ndV_len (by omega) hk
 exact ⟨g, o, hk', e, hg, q.2.2 _ (List.getElem_mem _), hc 0 _ rfl, hc 1 _ rfl, hc 2 _ rfl, hc 3 _ rfl⟩
theorem Words.at_ {l : List Bs} (q : Words w B h l) {k : Nat} (hk : k < h.n) :
  ∃ g o, ∃ hk : k < l.length, h.A = some ⟨g, o, none⟩ ∧ g < B ∧ Len l[k] ∧ w.cell? ⟨g, o + k, none⟩ = some (str l[k]) := by
 obtain ⟨g, o, hk', e, hg, hc⟩ := Sl.at_ q.2.1 hk
 exact ⟨g, o, hk', e, hg, q.2.2 _ (List.getElem_mem _), hc⟩
theorem Toks.at_ {l : List (List Bs)} (q : Toks w B h l) {k : Nat} (hk : k < h.n) :
  ∃ g o H, ∃ hk : k < l.length, h.A = some ⟨g, o, none⟩ ∧ g < B ∧ Words w B H l[k] ∧ w.cell? ⟨g, o + k, none⟩ = some (.slice H.A H.n H.c) := by
 obtain ⟨L, rfl, _, s, ho⟩ := q
 obtain ⟨g, o, hk', e, hg, hc⟩ := s.elem tkV_len (by omega) hk
 have hm : (L.map Prod.fst)[k]'(by simpa using hk') = L[k].1 := by simp
 refine ⟨g, o, L[k].2, by simpa using hk', e, hg, ?_⟩
 rw [hm]
 have := hc 0 _ rfl
 rw [Nat.mul_one, Nat.add_zero] at this
 exact ⟨ho _ (List.getElem_mem _), this⟩
theorem Nums.at_ {l : List Int} (q : Nums w B h l) {k : Nat} (hk : k < h.n) :
  ∃ g o, ∃ hk : k < l.length, h.A = some ⟨g, o, none⟩ ∧ g < B ∧ Rng l[k] ∧ w.cell? ⟨g, o + k, none⟩ = some (.int .i64 l[k]) := by
 obtain ⟨g, o, hk', e, hg, hc⟩ := q.2.1.int hk
 exact ⟨g, o, hk', e, hg, q.2.2 _ (List.getElem_mem _), hc⟩
end
end Go.Proofs.YtgkdaebiefhgdaaGreatDoor
