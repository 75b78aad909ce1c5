/-
  Plain words for the sorting of regions, and what a shift and a store leave in a row of regions. No conditions.
-/
import Derived.Test.YtgkdaebiefhgdaaDoorCorOwn
import Derived.Test.YtgkdaebiefhgdaaDoorCorOrd
import Derived.Test.YtgkdaebiefhgdaaDoorCorCmp
import Derived.Test.YtgkdaebiefhgdaaDoorBase6
namespace Go.Proofs.YtgkdaebiefhgdaaDoor
set_option linter.unusedSimpArgs false
set_option linter.unusedVariables false
open Go.RowKit
open Feat (Bs)
open Tagp (KV)
open Cor (cmpR)

/-- Where x is put, sought from place i down. -/
def spot (x : Cor.Reg) (m : List Cor.Reg) : Nat → Nat
  | 0 => 0
  | i + 1 => match m[i]? with
    | none => i + 1
    | some y => if cmpR x y < 0 then spot x m i else i + 1
theorem spot_le (x : Cor.Reg) (m : List Cor.Reg) : ∀ i, spot x m i ≤ i
  | 0 => Nat.le_refl _
  | i + 1 => by
    unfold spot
    split
    · exact Nat.le_refl _
    · split
      · exact Nat.le_succ_of_le (spot_le x m i)
      · exact Nat.le_refl _
theorem spot_down {x : Cor.Reg} {m : List Cor.Reg} {i : Nat} (h : i < m.length) (hc : cmpR x m[i] < 0) : spot x m (i + 1) = spot x m i := by
  rw [spot, List.getElem?_eq_getElem h]; simp only []; rw [if_pos hc]
theorem spot_stay {x : Cor.Reg} {m : List Cor.Reg} {i : Nat} (h : i < m.length) (hc : ¬ cmpR x m[i] < 0) : spot x m (i + 1) = i + 1 := by
  rw [spot, List.getElem?_eq_getElem h]; simp only []; rw [if_neg hc]
def insT (x : Cor.Reg) (m : List Cor.Reg) : List Cor.Reg := m.take (spot x m m.length) ++ x :: m.drop (spot x m m.length)
theorem insT_len (x : Cor.Reg) (m : List Cor.Reg) : (insT x m).length = m.length + 1 := by
  have := spot_le x m m.length
  unfold insT; simp; omega
def sortT (l : List Cor.Reg) : List Cor.Reg := l.foldl (fun m x => insT x m) []
theorem sortT_take (l : List Cor.Reg) (k : Nat) (h : k < l.length) : sortT (l.take (k + 1)) = insT l[k] (sortT (l.take k)) := by
  rw [List.take_succ_eq_append_getElem h]; unfold sortT; rw [List.foldl_append]; rfl
theorem sortT_len (l : List Cor.Reg) : (sortT l).length = l.length := by
  have : ∀ (l m : List Cor.Reg), (l.foldl (fun m x => insT x m) m).length = m.length + l.length := by
    intro l
    induction l with
    | nil => intro m; rfl
    | cons a l ih => intro m; rw [List.foldl_cons, ih, insT_len, List.length_cons]; omega
  have h := this l []
  unfold sortT; simpa using h

/-- Four cells set one by one. -/
theorem set_four (cur : List Value) (a : Nat) (v0 v1 v2 v3 : Value) (h : a + 4 ≤ cur.length) : (((cur.set a v0).set (a + 1) v1).set (a + 2) v2).set (a + 3) v3 = cur.take a ++ ([v0, v1, v2, v3] ++ cur.drop (a + 4)) := by
  obtain ⟨b, c0, c1, c2, c3, r, e, hb⟩ : ∃ b c0 c1 c2 c3 r, cur = b ++ c0 :: c1 :: c2 :: c3 :: r ∧ b.length = a := by
    refine ⟨cur.take a, cur[a], cur[a + 1], cur[a + 2], cur[a + 3], cur.drop (a + 4), ?_, by rw [List.length_take]; omega⟩
    rw [← List.drop_eq_getElem_cons, ← List.drop_eq_getElem_cons, ← List.drop_eq_getElem_cons, ← List.drop_eq_getElem_cons, List.take_append_drop]
  subst e hb
  rw [List.set_append_right _ _ (Nat.le_refl _), List.set_append_right _ _ (by omega), List.set_append_right _ _ (by omega), List.set_append_right _ _ (by omega), List.take_left' rfl, List.drop_append]
  simp [show b.length + 1 - b.length = 1 by omega, show b.length + 2 - b.length = 2 by omega, show b.length + 3 - b.length = 3 by omega, show b.length + 4 - b.length = 4 by omega, show b.drop (b.length + 4) = [] from List.drop_eq_nil_of_le (by omega)]
theorem flat_len4 (L : List TH) : (L.flatMap txV).length = L.length * 4 := flat_len txV_len L
theorem shifted_txt (cur : List Value) (L : List TH) (p z : TH) (i : Nat) (hi : i ≤ L.length) (hc : cur.take ((L.length + 1) * 4) = (L ++ [z]).flatMap txV) :
    (((((splice cur ((i + 1) * 4) ((L.drop i).flatMap txV)).set (i * 4) (str p.1.nm)).set (i * 4 + 1) (.int .i64 p.1.b)).set (i * 4 + 2) (.int .i64 p.1.e)).set (i * 4 + 3) p.2.v).take ((L.length + 1) * 4) = (L.take i ++ p :: L.drop i).flatMap txV := by
  have hlen : (L.length + 1) * 4 ≤ cur.length := by
    have := congrArg List.length hc
    rw [flat_len4, List.length_take] at this
    simp only [List.length_append, List.length_cons, List.length_nil] at this
    omega
  have h1 : cur.take (i * 4) = (L.take i).flatMap txV := by
    have : (cur.take ((L.length + 1) * 4)).take (i * 4) = cur.take (i * 4) := by rw [List.take_take]; congr 1; omega
    rw [← this, hc]
    conv => lhs; rw [show L ++ [z] = L.take i ++ (L.drop i ++ [z]) by rw [← List.append_assoc, List.take_append_drop]]
    rw [List.flatMap_append]
    exact List.take_left' (by rw [flat_len4, List.length_take]; omega)
  have hd : ((L.drop i).flatMap txV).length = (L.length - i) * 4 := by rw [flat_len4, List.length_drop]
  have hsl := length_splice cur ((i + 1) * 4) ((L.drop i).flatMap txV) (by omega)
  have hs1 : (splice cur ((i + 1) * 4) ((L.drop i).flatMap txV)).take (i * 4) = (L.take i).flatMap txV := by
    unfold splice
    rw [List.take_append_of_le_length (by rw [List.length_take]; omega), List.take_take, show min (i * 4) ((i + 1) * 4) = i * 4 by omega, h1]
  have hs2 : (splice cur ((i + 1) * 4) ((L.drop i).flatMap txV)).drop (i * 4 + 4) = (L.drop i).flatMap txV ++ cur.drop ((i + 1) * 4 + ((L.drop i).flatMap txV).length) := by
    unfold splice
    rw [show i * 4 + 4 = (i + 1) * 4 by omega, List.drop_left' (by rw [List.length_take]; omega)]
  rw [set_four _ _ _ _ _ _ (by rw [hsl]; omega), hs1, hs2]
  rw [show (L.take i).flatMap txV ++ ([str p.1.nm, .int .i64 p.1.b, .int .i64 p.1.e, p.2.v] ++ ((L.drop i).flatMap txV ++ cur.drop ((i + 1) * 4 + ((L.drop i).flatMap txV).length))) = (L.take i ++ p :: L.drop i).flatMap txV ++ cur.drop ((i + 1) * 4 + ((L.drop i).flatMap txV).length) by simp [txV]]
  refine List.take_left' ?_
  rw [flat_len4]
  simp
  omega
theorem own_after_txt {w : World} {base g cap i : Nat} {cur : List Value} {L : List TH} {p z : TH} {E : TypeId} (hb : base ≤ g) (hB : Blk w g E (splice cur ((i + 1) * 4) ((L.drop i).flatMap txV)).toArray)
    (hi : i ≤ L.length) (hk : (i + 1) * 4 + ((L.drop i).flatMap txV).length ≤ cur.length) (ht : cur.take ((L.length + 1) * 4) = (L ++ [z]).flatMap txV) (hs : cur.length = cap * 4 ∧ cap ≤ maxLen ∧ L.length + 1 ≤ cap) :
    ((((w.setCell ⟨g, i * 4, none⟩ (str p.1.nm)).setCell ⟨g, i * 4 + 1, none⟩ (.int .i64 p.1.b)).setCell ⟨g, i * 4 + 2, none⟩ (.int .i64 p.1.e)).setCell ⟨g, i * 4 + 3, none⟩ p.2.v).ownsRow base E 4 (.slice (some ⟨g, 0, none⟩) (L.length + 1) cap) (L.length + 1) ((L.take i ++ p :: L.drop i).flatMap txV) := by
  have hl := length_splice cur ((i + 1) * 4) ((L.drop i).flatMap txV) hk
  have hln : (L.take i ++ p :: L.drop i).length = L.length + 1 := by simp; omega
  refine ⟨by rw [flat_len4, hln], .inr ⟨g, cap, _, rfl, hb, (((hB.set_ _ (str p.1.nm)).set_ _ (.int .i64 p.1.b)).set_ _ (.int .i64 p.1.e)).set_ _ p.2.v, by omega, hs.2.1, by simp [hl, hs.1], ?_⟩⟩
  rw [← shifted_txt cur L p z i hi ht]
  simp
theorem after_cells {w : World} {g cap i : Nat} {cur : List Value} {L : List TH} {E : TypeId} (hB : Blk w g E (splice cur ((i + 1) * 4) ((L.drop i).flatMap txV)).toArray)
    (hi : i ≤ L.length) (hk : (i + 1) * 4 + ((L.drop i).flatMap txV).length ≤ cur.length) (hs : cur.length = cap * 4 ∧ cap ≤ maxLen ∧ L.length + 1 ≤ cap) (j : Nat) (hj : j < 4) : (∃ old, w.cell? ⟨g, i * 4 + j, none⟩ = some old) ∧ w.frozen? ⟨g, i * 4 + j, none⟩ = false := by
  have hl := length_splice cur ((i + 1) * 4) ((L.drop i).flatMap txV) hk
  exact ⟨⟨_, (hB.cell _).trans (by rw [List.getElem?_toArray]; exact List.getElem?_eq_getElem (by omega))⟩, hB.free _⟩
theorem txV_one7 (L : List TH) : ∀ u ∈ L.flatMap txV, u.oneCell' = true := by
  intro u hu
  rw [List.mem_flatMap] at hu
  obtain ⟨p, _, hp⟩ := hu
  unfold txV at hp
  simp at hp
  rcases hp with rfl | rfl | rfl | rfl <;> rfl
abbrev zeroT : TH := (⟨[], 0, 0, []⟩, ⟨none, 0, 0⟩)
theorem news_four {w : World} {t : TypeId} {a b c d : Value} {k : Nat} (h : w.heap.size = k) : ∀ j u, [a, b, c, d][j]? = some u → (w.alloc (.cells #[a, b, c, d] t)).cell? ((⟨k, 0, none⟩ : Addr).add j) = some u := by
  subst h
  exact news_new w t [a, b, c, d]
theorem own_four {w : World} {base : Nat} {e : TypeId} {g n cap : Nat} {L : List TH} (h : w.ownsRow base e 4 (.slice (some ⟨g, 0, none⟩) n cap) n (L.flatMap txV)) (k : Nat) (hk : k < L.length) :
    w.cell? ⟨g, k * 4, none⟩ = some (str L[k].1.nm) ∧ w.cell? ⟨g, k * 4 + 1, none⟩ = some (.int .i64 L[k].1.b) ∧ w.cell? ⟨g, k * 4 + 2, none⟩ = some (.int .i64 L[k].1.e) ∧ w.cell? ⟨g, k * 4 + 3, none⟩ = some (.slice L[k].2.A L[k].2.n L[k].2.c) := by
  have hl : L.length * 4 = n * 4 := by rw [← flat_len4]; exact h.1
  have q := fun j hj => flat_at txV_len L k hk j hj
  refine ⟨?_, ?_, ?_, ?_⟩
  · rw [h.cellAt (k * 4) (by omega)]; exact q 0 (by omega)
  · rw [h.cellAt (k * 4 + 1) (by omega)]; exact q 1 (by omega)
  · rw [h.cellAt (k * 4 + 2) (by omega)]; exact q 2 (by omega)
  · rw [h.cellAt (k * 4 + 3) (by omega)]; exact q 3 (by omega)
theorem ins_at {M : List TH} {x : Cor.Reg} {i : Nat} {y : TH} (hy : y.1 = x) (h : spot x (M.map Prod.fst) M.length = i) : (M.take i ++ y :: M.drop i).map Prod.fst = insT x (M.map Prod.fst) := by
  unfold insT
  rw [List.length_map, h]
  simp [hy]
theorem ins_mem {M : List TH} {i : Nat} {y z : TH} (h : z ∈ M.take i ++ y :: M.drop i) : z ∈ M ∨ z = y := by
  rcases List.mem_append.1 h with h | h
  · exact .inl (List.mem_of_mem_take h)
  · rcases List.mem_cons.1 h with h | h
    · exact .inr h
    · exact .inl (List.mem_of_mem_drop h)
theorem off4 {w : World} {g : Nat} {t : TypeId} {cs : Array Value} (h : Blk w g t cs) (a b c d : Nat) (v0 v1 v2 v3 : Value) :
    Off t w ((((w.setCell ⟨g, a, none⟩ v0).setCell ⟨g, b, none⟩ v1).setCell ⟨g, c, none⟩ v2).setCell ⟨g, d, none⟩ v3) := by
  have h1 := h.set_ a v0
  have h2 := h1.set_ b v1
  have h3 := h2.set_ c v2
  exact (((Off.set_ h a v0).trans (Off.set_ h1 b v1)).trans (Off.set_ h2 c v2)).trans (Off.set_ h3 d v3)
theorem below4 {B g : Nat} {w w' : World} (h : Below B w w') (hg : B ≤ g) (a b c d : Nat) (v0 v1 v2 v3 : Value) :
    Below B w ((((w'.setCell ⟨g, a, none⟩ v0).setCell ⟨g, b, none⟩ v1).setCell ⟨g, c, none⟩ v2).setCell ⟨g, d, none⟩ v3) :=
  (((h.setCell (p := ⟨g, a, none⟩) hg _).setCell (p := ⟨g, b, none⟩) hg _).setCell (p := ⟨g, c, none⟩) hg _).setCell (p := ⟨g, d, none⟩) hg _
theorem size_reg : (Tryd.prog.info? 58).map (·.size) = some 4 := by kernel_rfl
/-- Regions in their order, in memory. -/
def Sorted (l : List Cor.Reg) (w : World) (e : Ending) (w' : World) : Prop := ∃ h : Hd, e = .returned h.v ∧ Txts w' w'.heap.size h (sortT l) ∧ Below w.heap.size w w'
end Go.Proofs.YtgkdaebiefhgdaaDoor
