/-
  Plain laws: projective heads have no crossing arcs; the mirror image of heads. No conditions.
-/
import Derived.Test.YtnbnmomichegaaaDepProj
namespace Go.Proofs.Ytnbnmomichegaaa
namespace Dep

theorem way_trans {h : Hs} (hg : Dep.Good h) {i x y : Int} (hi : i < h.length) (hx : x ∈ way h i) (hy : y ∈ way h x) : y ∈ way h i := by
  obtain ⟨h0, k, hk⟩ := (mem_way hg hi).1 hx
  have hi0 : 0 ≤ i := by
    by_cases hn : i < 0
    · rw [way_neg hn] at hx; cases hx
    · omega
  have hxl : x < h.length := by rw [← hk]; exact (up_ok hg.ok k i (by omega) hi).2
  obtain ⟨h1, m, hm⟩ := (mem_way hg hxl).1 hy
  exact (mem_way hg hi).2 ⟨h1, k + m, by rw [up_add, hk, hm]⟩
theorem way_loop {h : Hs} (hg : Dep.Good h) {p q : Nat} (_hp : p < h.length) (hq : q < h.length) (h1 : (p : Int) ∈ way h (nx h (q : Nat))) (h2 : (q : Int) ∈ way h (p : Nat)) : False :=
  desc_ne hg hq (way_trans hg (nx_ok hg.ok _).2 h1 h2)
/-- Two arcs of projective heads do not cross. -/
theorem no_cross {h : Hs} (hp : Proj h) {a c p q : Nat} (ha : a < h.length) (hc : c < h.length) (e1 : nx h (a : Nat) = (p : Nat)) (e2 : nx h (c : Nat) = (q : Nat)) :
    ¬ (min a p < min c q ∧ min c q < max a p ∧ max a p < max c q) := by
  rintro ⟨h1, h2, h3⟩
  have hg := hp.1
  have hpl : p < h.length := by have := (nx_ok hg.ok (a : Nat)).2; omega
  have hql : q < h.length := by have := (nx_ok hg.ok (c : Nat)).2; omega
  have b1 := hp.2 a (min c q) ha (by omega) p e1 h1 h2
  have b2 := hp.2 c (max a p) hc (by omega) q e2 h2 h3
  by_cases l2 : q < c
  · have m1 : min c q = q := by omega
    rw [m1] at b1
    by_cases r1 : a < p
    · have m2 : max a p = p := by omega
      rw [m2] at b2
      exact way_loop hg hpl hql b1 (desc_iff hg b2)
    · have m2 : max a p = a := by omega
      rw [m2, e1] at b2
      exact way_loop hg hpl hql b1 b2
  · have m1 : min c q = c := by omega
    rw [m1, e2] at b1
    by_cases r1 : a < p
    · have m2 : max a p = p := by omega
      rw [m2] at b2
      exact way_loop hg hql hpl b2 b1
    · have m2 : max a p = a := by omega
      rw [m2, e1] at b2
      have hne : q ≠ p := by omega
      exact way_loop hg hpl hql (desc_of hg hne b1) b2

/-- The mirror image. -/
def mir (h : Hs) : Hs := (h.map fun x => if 0 ≤ x then (h.length : Int) - 1 - x else -1).reverse
theorem mir_len (h : Hs) : (mir h).length = h.length := by simp [mir]
theorem mir_at {h : Hs} {i : Nat} (hi : i < h.length) (hi' : h.length - 1 - i < (mir h).length) : (mir h)[h.length - 1 - i] = if 0 ≤ h[i] then (h.length : Int) - 1 - h[i] else -1 := by
  have e : h.length - 1 - (h.length - 1 - i) = i := by omega
  simp only [mir, List.getElem_reverse, List.getElem_map, List.length_map, e]
theorem mir_nx {h : Hs} {i : Nat} (hi : i < h.length) : nx (mir h) ((h.length - 1 - i : Nat) : Int) = if 0 ≤ nx h (i : Nat) then (h.length : Int) - 1 - nx h (i : Nat) else -1 := by
  rw [nx_at (show h.length - 1 - i < (mir h).length by rw [mir_len]; omega), nx_at hi]
  exact mir_at hi _
theorem mir_ok {h : Hs} (ho : Ok h) : Ok (mir h) := by
  intro x hx
  unfold mir at hx
  rw [List.mem_reverse, List.mem_map] at hx
  obtain ⟨y, hy, rfl⟩ := hx
  have := ho y hy
  rw [mir_len]
  split <;> omega
theorem mir_mir {h : Hs} (ho : Ok h) : mir (mir h) = h := by
  apply List.ext_getElem (by rw [mir_len, mir_len])
  intro i h1 h2
  have e : i = (mir h).length - 1 - ((h.length - 1 - i)) := by rw [mir_len]; omega
  have h3 : h.length - 1 - i < (mir h).length := by rw [mir_len]; omega
  have := mir_at h3 (by rw [mir_len]; omega)
  simp only [← e] at this
  rw [this, mir_at h2 h3, mir_len]
  have := ho _ (List.getElem_mem h2)
  split
  · split <;> omega
  · split <;> omega
theorem mir_up {h : Hs} (ho : Ok h) {i : Nat} (hi : i < h.length) : ∀ k, (0 ≤ up h k (i : Nat) → up (mir h) k ((h.length - 1 - i : Nat) : Int) = (h.length : Int) - 1 - up h k (i : Nat)) ∧ (up h k (i : Nat) < 0 → up (mir h) k ((h.length - 1 - i : Nat) : Int) < 0)
  | 0 => ⟨fun _ => by simp only [up]; omega, fun h0 => by simp only [up] at h0; omega⟩
  | k + 1 => by
    obtain ⟨ih1, ih2⟩ := mir_up ho hi k
    by_cases h0 : 0 ≤ up h k (i : Nat)
    · obtain ⟨a, hal, ea⟩ := up_nat ho hi h0
      have e1 := ih1 h0
      have e2 : up (mir h) k ((h.length - 1 - i : Nat) : Int) = ((h.length - 1 - a : Nat) : Int) := by rw [e1, ea]; omega
      rw [up_succ, up_succ, e2, ea, mir_nx hal]
      refine ⟨fun h1 => by rw [if_pos h1], fun h1 => by rw [if_neg (by omega)]; decide⟩
    · have e := ih2 (by omega)
      have n1 : up h (k + 1) (i : Nat) < 0 := up_neg_le (k := k) (by omega) (by omega)
      have n2 : up (mir h) (k + 1) ((h.length - 1 - i : Nat) : Int) < 0 := up_neg_le e (by omega)
      exact ⟨fun h1 => by omega, fun _ => n2⟩
theorem mir_good {h : Hs} (hg : Dep.Good h) : Dep.Good (mir h) := by
  refine ⟨by rw [mir_len]; exact hg.len, mir_ok hg.ok, ?_⟩
  intro x hx
  rw [mir_len] at hx
  rintro ⟨h0, k, hk⟩
  have e : x = h.length - 1 - (h.length - 1 - x) := by omega
  have hi : h.length - 1 - x < h.length := by omega
  obtain ⟨m1, m2⟩ := mir_up hg.ok hi (k + 1)
  rw [← e] at m1 m2
  by_cases hn : up h (k + 1) ((h.length - 1 - x : Nat) : Int) < 0
  · have := m2 hn; omega
  · have := m1 (by omega)
    exact hg.none _ hi ⟨by omega, k, by omega⟩
theorem mir_way {h : Hs} (hg : Dep.Good h) {i p : Nat} (hi : i < h.length) (hp : p < h.length) (hm : (p : Int) ∈ way h (i : Nat)) : ((h.length - 1 - p : Nat) : Int) ∈ way (mir h) ((h.length - 1 - i : Nat) : Int) := by
  obtain ⟨_, k, hk⟩ := (mem_way hg (by omega)).1 hm
  refine (mem_way (mir_good hg) (by rw [mir_len]; omega)).2 ⟨by omega, k, ?_⟩
  rw [(mir_up hg.ok hi k).1 (by omega), hk]; omega
theorem mir_proj {h : Hs} (hp : Proj h) : Proj (mir h) := by
  have hg := hp.1
  refine ⟨mir_good hg, fun d x hd hx p hpd h1 h2 => ?_⟩
  rw [mir_len] at hd hx
  have hpl : p < h.length := by have := (nx_ok (mir_ok hg.ok) (d : Nat)).2; rw [mir_len] at this; omega
  have ed : d = h.length - 1 - (h.length - 1 - d) := by omega
  have ex : x = h.length - 1 - (h.length - 1 - x) := by omega
  have ep : p = h.length - 1 - (h.length - 1 - p) := by omega
  have hdl : h.length - 1 - d < h.length := by omega
  have hxl : h.length - 1 - x < h.length := by omega
  have n1 := mir_nx hdl
  rw [← ed, hpd] at n1
  have hnd : nx h ((h.length - 1 - d : Nat) : Int) = ((h.length - 1 - p : Nat) : Int) := by
    split at n1
    · omega
    · omega
  have hb := hp.2 (h.length - 1 - d) (h.length - 1 - x) hdl hxl (h.length - 1 - p) hnd (by omega) (by omega)
  have n2 := mir_nx hxl
  rw [← ex] at n2
  have h0 : 0 ≤ nx h ((h.length - 1 - x : Nat) : Int) := by
    by_cases hn : nx h ((h.length - 1 - x : Nat) : Int) < 0
    · rw [way_neg hn] at hb; cases hb
    · omega
  rw [if_pos h0] at n2
  have hlt := (nx_ok hg.ok ((h.length - 1 - x : Nat) : Int)).2
  obtain ⟨y, hy⟩ : ∃ y : Nat, nx h ((h.length - 1 - x : Nat) : Int) = (y : Nat) := ⟨(nx h ((h.length - 1 - x : Nat) : Int)).toNat, by omega⟩
  rw [hy] at hb n2 hlt
  have := mir_way hg (by omega) (by omega) hb
  rw [n2, show (h.length : Int) - 1 - (y : Int) = ((h.length - 1 - y : Nat) : Int) by omega, ep]
  exact this
theorem mir_iff {h : Hs} (hg : Dep.Good h) : Proj (mir h) ↔ Proj h :=
  ⟨fun hp => by have := mir_proj hp; rwa [mir_mir hg.ok] at this, mir_proj⟩
end Dep
end Go.Proofs.Ytnbnmomichegaaa
