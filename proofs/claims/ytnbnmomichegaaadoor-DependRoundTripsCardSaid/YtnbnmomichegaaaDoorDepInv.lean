/-
  Plain: what depend.Check's marks say after each step, and that the least token on a cycle comes out. No conditions.
-/
import Derived.Test.YtnbnmomichegaaaDoorDep
namespace Go.Proofs.YtnbnmomichegaaaDoor
namespace Dep

/-- A token that some way from a token before i passes. -/
def R (h : Hs) (i : Nat) (x : Int) : Prop := ∃ j, j < i ∧ ∃ k, up h k (j : Nat) = x
theorem R_succ {h : Hs} {i : Nat} {x : Int} : R h (i + 1) x ↔ R h i x ∨ ∃ k, up h k (i : Nat) = x := by
  constructor
  · rintro ⟨j, hj, k, e⟩
    by_cases hi : j = i
    · subst hi; exact .inr ⟨k, e⟩
    · exact .inl ⟨j, by omega, k, e⟩
  · rintro (⟨j, hj, k, e⟩ | ⟨k, e⟩)
    · exact ⟨j, by omega, k, e⟩
    · exact ⟨i, by omega, k, e⟩
theorem R_up {h : Hs} {i : Nat} {x : Int} (hr : R h i x) (m : Nat) : R h i (up h m x) := by
  obtain ⟨j, hj, k, rfl⟩ := hr
  exact ⟨j, hj, k + m, up_add h k m _⟩
/-- The least one of S, or -1. -/
def Lst (S : Int → Prop) (v : Int) : Prop := (v = -1 ∧ ∀ x, ¬ S x) ∨ (0 ≤ v ∧ S v ∧ ∀ x, S x → v ≤ x)
theorem Lst.congr {S T : Int → Prop} {v : Int} (h : Lst S v) (e : ∀ x, S x ↔ T x) : Lst T v := by
  rcases h with ⟨h1, h2⟩ | ⟨h1, h2, h3⟩
  · exact .inl ⟨h1, fun x hx => h2 x ((e x).2 hx)⟩
  · exact .inr ⟨h1, (e v).1 h2, fun x hx => h3 x ((e x).2 hx)⟩
theorem Lst.add {S : Int → Prop} {v x : Int} (h : Lst S v) (h0 : 0 ≤ x) : Lst (fun y => S y ∨ y = x) (if v < 0 ∨ x < v then x else v) := by
  rcases h with ⟨h1, h2⟩ | ⟨h1, h2, h3⟩
  · rw [if_pos (by omega)]
    exact .inr ⟨h0, .inr rfl, fun y hy => by rcases hy with hy | rfl; exact absurd hy (h2 y); exact Int.le_refl _⟩
  · by_cases hx : x < v
    · rw [if_pos (.inr hx)]
      exact .inr ⟨h0, .inr rfl, fun y hy => by rcases hy with hy | rfl; have := h3 y hy; omega; exact Int.le_refl _⟩
    · rw [if_neg (by omega)]
      exact .inr ⟨h1, .inl h2, fun y hy => by rcases hy with hy | rfl; exact h3 y hy; omega⟩
theorem Lst.lo {S : Int → Prop} {v : Int} (h : Lst S v) : -1 ≤ v := by rcases h with ⟨h1, _⟩ | ⟨h1, _⟩ <;> omega

structure Inv (h : Hs) (i : Nat) (seen : List Int) (least : Int) : Prop where
  len : seen.length = h.length
  bnd : ∀ x (hx : x < seen.length), 0 ≤ seen[x] ∧ seen[x] ≤ i
  zero : ∀ x (hx : x < seen.length), seen[x] = 0 ↔ ¬ R h i x
  lst : Lst (fun x => Cyc h x ∧ R h i x) least
theorem inv_start (h : Hs) : Inv h 0 (List.replicate h.length 0) (-1) := by
  refine ⟨by simp, fun x hx => by simp, fun x hx => ?_, .inl ⟨rfl, ?_⟩⟩
  · simp; rintro ⟨j, hj, _⟩; omega
  · rintro x ⟨_, j, hj, _⟩; omega

structure Inn (h : Hs) (i k : Nat) (seen0 seen : List Int) : Prop where
  len : seen.length = seen0.length
  pos : ∀ m, m < k → 0 ≤ up h m (i : Nat)
  dis : ∀ a b, a < b → b < k → up h a (i : Nat) ≠ up h b (i : Nat)
  val : ∀ x (hx : x < seen.length), ((∃ m, m < k ∧ up h m (i : Nat) = x) ∧ seen[x] = i + 1) ∨ ((¬ ∃ m, m < k ∧ up h m (i : Nat) = x) ∧ seen[x] = seen0[x]'(by omega))
theorem inn_start (h : Hs) (i : Nat) (seen : List Int) : Inn h i 0 seen seen :=
  ⟨rfl, fun m hm => by omega, fun a b _ hb => by omega, fun x hx => .inr ⟨by rintro ⟨m, hm, _⟩; omega, rfl⟩⟩
theorem inn_step {h : Hs} {i k at_ : Nat} {seen0 seen : List Int} (hn : Inn h i k seen0 seen) (ha : up h k (i : Nat) = (at_ : Nat)) (hl : at_ < seen.length) (hz : seen[at_] = 0) :
    Inn h i (k + 1) seen0 (seen.set at_ (i + 1)) := by
  have hno : ¬ ∃ m, m < k ∧ up h m (i : Nat) = (at_ : Nat) := by
    rcases hn.val at_ hl with ⟨_, e⟩ | ⟨e, _⟩
    · omega
    · exact e
  refine ⟨by simp [hn.len], fun m hm => ?_, fun a b hab hb => ?_, fun x hx => ?_⟩
  · by_cases e : m = k
    · rw [e, ha]; omega
    · exact hn.pos m (by omega)
  · by_cases e : b = k
    · subst e; intro e; exact hno ⟨a, hab, by rw [e, ha]⟩
    · exact hn.dis a b hab (by omega)
  · have hx' : x < seen.length := by simpa using hx
    by_cases e : at_ = x
    · subst e; exact .inl ⟨⟨k, by omega, ha⟩, by simp⟩
    · rw [List.getElem_set_ne e]
      rcases hn.val x hx' with ⟨⟨m, hm, hm2⟩, h2⟩ | ⟨h1, h2⟩
      · exact .inl ⟨⟨m, by omega, hm2⟩, h2⟩
      · refine .inr ⟨?_, h2⟩
        rintro ⟨m, hm, hm2⟩
        by_cases em : m = k
        · subst em; omega
        · exact h1 ⟨m, by omega, hm2⟩
theorem inn_le {h : Hs} (ho : Ok h) {i k : Nat} {seen0 seen : List Int} (hn : Inn h i k seen0 seen) (hi : i < h.length) : k ≤ h.length := way_bound ho (by omega) hn.pos hn.dis

/-- What a step of the outer loop comes to, from what it knows of the ways. -/
theorem inv_next {h : Hs} {i k : Nat} {seen0 seen : List Int} {least v : Int} (hv : Inv h i seen0 least) (hn : Inn h i k seen0 seen)
    (hall : ∀ m, 0 ≤ up h m (i : Nat) → (∃ m', m' < k ∧ up h m' (i : Nat) = up h m (i : Nat)) ∨ R h i (up h m (i : Nat)))
    (hl : Lst (fun x => Cyc h x ∧ R h (i + 1) x) v) : Inv h (i + 1) seen v := by
  refine ⟨by rw [hn.len, hv.len], fun x hx => ?_, fun x hx => ?_, hl⟩
  · rcases hn.val x hx with ⟨_, e⟩ | ⟨_, e⟩
    · omega
    · have := hv.bnd x (by have := hn.len; omega); omega
  · have hx0 : x < seen0.length := by have := hn.len; omega
    have hz := hv.zero x hx0
    rw [R_succ]
    rcases hn.val x hx with ⟨⟨m, hm, hm2⟩, e⟩ | ⟨e1, e⟩
    · constructor
      · omega
      · intro hc; exact absurd (.inr ⟨m, hm2⟩) hc
    · rw [e, hz]
      constructor
      · intro hr hc
        rcases hc with hc | ⟨m, hm⟩
        · exact hr hc
        · rcases hall m (by omega) with ⟨m', h1, h2⟩ | h1
          · exact e1 ⟨m', h1, by omega⟩
          · rw [hm] at h1; exact hr h1
      · exact fun hc hr => hc (.inl hr)
theorem inn_neg {h : Hs} {i k : Nat} {seen0 seen : List Int} {least : Int} (hv : Inv h i seen0 least) (hn : Inn h i k seen0 seen) (hneg : up h k (i : Nat) < 0) : Inv h (i + 1) seen least := by
  refine inv_next hv hn (fun m hm => .inl ⟨m, ?_, rfl⟩) (hv.lst.congr fun x => ?_)
  · by_cases e : k ≤ m
    · have := up_neg_le hneg e; omega
    · omega
  · rw [R_succ]
    constructor
    · rintro ⟨h1, h2⟩; exact ⟨h1, .inl h2⟩
    · rintro ⟨h1, h2 | ⟨m, hm⟩⟩
      · exact ⟨h1, h2⟩
      · exfalso
        have h3 := (cyc_step h1 k).1
        rw [← hm, ← up_add, Nat.add_comm, up_add] at h3
        have := up_neg (h := h) hneg m
        omega
theorem cyc_far {h : Hs} {x : Int} {i m : Nat} (hc : Cyc h x) (hm : up h m (i : Nat) = x) (k : Nat) : ∃ t, x = up h t (up h k (i : Nat)) := by
  obtain ⟨h0, p, hp⟩ := hc
  refine ⟨m + (p + 1) * k - k, ?_⟩
  have hle : k ≤ (p + 1) * k := Nat.le_mul_of_pos_left k (by omega)
  rw [← up_add, show k + (m + (p + 1) * k - k) = m + (p + 1) * k by omega, up_add, hm, cyc_mul hp]
theorem inn_old {h : Hs} {i k at_ : Nat} {seen0 seen : List Int} {least : Int} (hv : Inv h i seen0 least) (hn : Inn h i k seen0 seen) (ha : up h k (i : Nat) = (at_ : Nat)) (hl : at_ < seen.length)
    (h0 : seen[at_] ≠ 0) (h1 : seen[at_] ≠ i + 1) : Inv h (i + 1) seen least := by
  have hr : R h i (at_ : Nat) := by
    rcases hn.val at_ hl with ⟨_, e⟩ | ⟨_, e⟩
    · exact absurd e h1
    · rw [e] at h0
      exact Classical.byContradiction fun hc => h0 ((hv.zero at_ (by have := hn.len; omega)).2 hc)
  refine inv_next hv hn (fun m hm => ?_) (hv.lst.congr fun x => ?_)
  · by_cases e : k ≤ m
    · right
      rw [show m = k + (m - k) by omega, up_add, ha]
      exact R_up hr _
    · exact .inl ⟨m, by omega, rfl⟩
  · rw [R_succ]
    constructor
    · rintro ⟨h1, h2⟩; exact ⟨h1, .inl h2⟩
    · rintro ⟨h1, h2 | ⟨m, hm⟩⟩
      · exact ⟨h1, h2⟩
      · obtain ⟨t, ht⟩ := cyc_far h1 hm k
        rw [ha] at ht
        exact ⟨h1, by rw [ht]; exact R_up hr t⟩
/-- A mark of this way: the token is on a cycle. -/
theorem inn_on {h : Hs} {i k at_ : Nat} {seen0 seen : List Int} {least : Int} (hv : Inv h i seen0 least) (hn : Inn h i k seen0 seen) (ha : up h k (i : Nat) = (at_ : Nat)) (hl : at_ < seen.length)
    (h1 : seen[at_] = i + 1) : ∃ m0, m0 < k ∧ up h m0 (i : Nat) = (at_ : Nat) ∧ up h (k - m0) (at_ : Nat) = (at_ : Nat) := by
  rcases hn.val at_ hl with ⟨⟨m, hm, hm2⟩, _⟩ | ⟨_, e⟩
  · refine ⟨m, hm, hm2, ?_⟩
    rw [← hm2, ← up_add, show m + (k - m) = k by omega, ha, hm2]
  · have := hv.bnd at_ (by have := hn.len; omega)
    omega
theorem inn_cyc {h : Hs} {i k at_ q : Nat} {seen0 seen : List Int} {least v : Int} (hv : Inv h i seen0 least) (hn : Inn h i k seen0 seen) (ha : up h k (i : Nat) = (at_ : Nat)) (hl : at_ < seen.length)
    (h1 : seen[at_] = i + 1) (hq0 : 0 < q) (hq : up h q (at_ : Nat) = (at_ : Nat)) (hv' : Lst (fun x => (Cyc h x ∧ R h i x) ∨ ∃ s, s < q ∧ up h s (at_ : Nat) = x) v) : Inv h (i + 1) seen v := by
  obtain ⟨m0, hm0, e0, ep⟩ := inn_on hv hn ha hl h1
  have hca : Cyc h (at_ : Nat) := ⟨by omega, q - 1, by rw [show q - 1 + 1 = q by omega]; exact hq⟩
  refine inv_next hv hn (fun m hm => .inl ?_) (hv'.congr fun x => ?_)
  · induction m using Nat.strongRecOn with
    | _ m ih =>
      by_cases e : k ≤ m
      · have e1 : up h m (i : Nat) = up h (m0 + (m - k)) (i : Nat) := by
          rw [up_add h m0, e0, ← ha, ← up_add, show k + (m - k) = m by omega]
        rw [e1] at hm ⊢
        exact ih (m0 + (m - k)) (by omega) hm
      · exact ⟨m, by omega, rfl⟩
  · rw [R_succ]
    constructor
    · rintro (⟨h2, h3⟩ | ⟨s, hs, e⟩)
      · exact ⟨h2, .inl h3⟩
      · exact ⟨e ▸ cyc_step hca s, .inr ⟨k + s, by rw [up_add, ha]; exact e⟩⟩
    · rintro ⟨h2, h3 | ⟨m, hm⟩⟩
      · exact .inl ⟨h2, h3⟩
      · obtain ⟨t, ht⟩ := cyc_far h2 hm k
        rw [ha] at ht
        refine .inr ⟨t % q, Nat.mod_lt _ hq0, ?_⟩
        rw [ht]
        conv => rhs; rw [← Nat.div_add_mod t q, up_add, cyc_mul hq]

theorem chk_long {h : Hs} (hl : 4096 < h.length) : chk h = (0, 2) := by unfold chk; rw [if_pos hl]
theorem chk_bad {h : Hs} (hl : ¬ 4096 < h.length) {i : Nat} (hi : i < h.length) (hb : bad h.length h[i] = true) (hlo : ∀ j (hj : j < i), bad h.length (h[j]'(by omega)) = false) : chk h = (i, 8) := by
  have : fst (fun i => bad h.length (h.getD i 0)) h.length = some i := by
    rw [fst_some]
    refine ⟨hi, by simpa [hi] using hb, fun j hj => ?_⟩
    have := hlo j hj
    simpa [show j < h.length by omega] using this
  unfold chk; rw [if_neg hl, this]
theorem ok_all {h : Hs} (hlo : ∀ j (hj : j < h.length), bad h.length h[j] = false) : Ok h := by
  intro x hx
  obtain ⟨i, hi, rfl⟩ := List.getElem_of_mem hx
  have := hlo i hi
  simp [bad] at this
  omega
theorem chk_ok {h : Hs} (hl : ¬ 4096 < h.length) (ho : Ok h) : chk h = match fst (cyc h) h.length with | some i => (i, 12) | none => (0, 0) := by
  have : fst (fun i => bad h.length (h.getD i 0)) h.length = none := by
    rw [fst_none]; intro i hi
    have := ho h[i] (List.getElem_mem hi)
    simp [bad, hi]; omega
  unfold chk; rw [if_neg hl, this]; try rfl
theorem R_all {h : Hs} {x : Nat} (hx : x < h.length) : R h h.length (x : Nat) := ⟨x, hx, 0, rfl⟩
theorem inv_done {h : Hs} (hl : ¬ 4096 < h.length) (ho : Ok h) {seen : List Int} {least : Int} (hv : Inv h h.length seen least) :
    (0 ≤ least → chk h = (least.toNat, 12)) ∧ (least < 0 → chk h = (0, 0)) := by
  have hlt : ∀ x, Cyc h x → R h h.length x → x < h.length := by
    rintro x hc ⟨j, hj, k, rfl⟩
    exact (up_ok ho k (j : Nat) (by omega) (by omega)).2
  rw [chk_ok hl ho]
  rcases hv.lst with ⟨h1, h2⟩ | ⟨h1, h2, h3⟩
  · refine ⟨by omega, fun _ => ?_⟩
    have : fst (cyc h) h.length = none := by
      rw [fst_none]; intro i hi
      cases hc : cyc h i with
      | false => rfl
      | true => exact absurd ⟨(cyc_iff ho hi).1 hc, R_all hi⟩ (h2 (i : Nat))
    rw [this]
  · refine ⟨fun _ => ?_, by omega⟩
    have hb := hlt least h2.1 h2.2
    have : fst (cyc h) h.length = some least.toNat := by
      rw [fst_some]
      refine ⟨by omega, (cyc_iff ho (by omega)).2 (by rw [show ((least.toNat : Nat) : Int) = least by omega]; exact h2.1), fun i hi => ?_⟩
      cases hc : cyc h i with
      | false => rfl
      | true =>
        have := h3 (i : Nat) ⟨(cyc_iff ho (by omega)).1 hc, R_all (by omega)⟩
        omega
    rw [this]
end Dep
end Go.Proofs.YtnbnmomichegaaaDoor
