/-
  Plain: what the marks of cycles say after each step. No conditions.
-/
import Derived.Test.YtgkdaebiefhgdaaDoorCor
namespace Go.Proofs.YtgkdaebiefhgdaaDoor
namespace Cor
open Dep

theorem nrm_len (h : List Int) : (nrm h).length = h.length := by simp [nrm]
theorem nrm_ok (h : List Int) : Ok (nrm h) := by
  intro x hx
  rw [nrm_len]
  unfold nrm at hx
  rw [List.mem_map] at hx
  obtain ⟨y, _, rfl⟩ := hx
  split <;> omega
theorem nrm_at {h : List Int} {i : Nat} (hi : i < h.length) : nx (nrm h) (i : Nat) = if 0 ≤ h[i] ∧ h[i] < h.length then h[i] else -1 := by
  rw [nx_at (by rw [nrm_len]; exact hi)]
  simp [nrm]
/-- A way that has been walked for k steps stands at v (out of range: it has ended). -/
def At_ (h : List Int) (i k : Nat) (v : Int) : Prop := up (nrm h) k (i : Nat) = if 0 ≤ v ∧ v < h.length then v else -1
theorem at_start (h : List Int) {i : Nat} (hi : i < h.length) : At_ h i 0 (i : Nat) := by
  unfold At_; rw [if_pos (by omega)]; rfl
theorem at_step {h : List Int} {i k a : Nat} (hv : At_ h i k (a : Nat)) (ha : a < h.length) : At_ h i (k + 1) h[a] := by
  unfold At_ at hv ⊢
  rw [if_pos (by omega)] at hv
  rw [up_succ, hv, nrm_at ha]
theorem at_in {h : List Int} {i k a : Nat} (hv : At_ h i k (a : Nat)) (ha : a < h.length) : up (nrm h) k (i : Nat) = (a : Nat) := by
  unfold At_ at hv; rw [if_pos (by omega)] at hv; exact hv
theorem at_out {h : List Int} {i k : Nat} {v : Int} (hv : At_ h i k v) (hn : v < 0 ∨ (h.length : Int) ≤ v) : up (nrm h) k (i : Nat) < 0 := by
  unfold At_ at hv; rw [if_neg (by omega)] at hv; omega

/-- The marks after i ways. -/
structure Marks (h : Hs) (i : Nat) (seen : List Int) (out : List Bool) : Prop where
  len : seen.length = h.length
  olen : out.length = h.length
  bnd : ∀ x (hx : x < seen.length), 0 ≤ seen[x] ∧ seen[x] ≤ i
  zero : ∀ x (hx : x < seen.length), seen[x] = 0 ↔ ¬ R h i x
  on : ∀ x (hx : x < out.length), out[x] = true ↔ Cyc h x ∧ R h i x
theorem marks_start (h : Hs) : Marks h 0 (List.replicate h.length 0) (List.replicate h.length false) := by
  refine ⟨by simp, by simp, fun x hx => by simp, fun x hx => ?_, fun x hx => ?_⟩
  · simp; rintro ⟨j, hj, _⟩; omega
  · simp; rintro _ ⟨j, hj, _⟩; omega
theorem Marks.inv {h : Hs} {i : Nat} {seen : List Int} {out : List Bool} (hm : Marks h i seen out) : ∃ least, Inv h i seen least := by
  by_cases hS : ∃ n : Nat, Cyc h (n : Nat) ∧ R h i (n : Nat)
  · obtain ⟨n, hn⟩ := hS
    obtain ⟨m, _, h2, h3⟩ := ex_least (p := fun n : Nat => Cyc h (n : Nat) ∧ R h i (n : Nat)) hn
    refine ⟨(m : Nat), hm.len, hm.bnd, hm.zero, .inr ⟨by omega, h2, fun x hx => ?_⟩⟩
    have h0 := hx.1.1
    rcases Nat.lt_or_ge x.toNat m with k | k
    · exact absurd (by rw [show ((x.toNat : Nat) : Int) = x by omega]; exact hx) (h3 x.toNat k)
    · omega
  · refine ⟨-1, hm.len, hm.bnd, hm.zero, .inl ⟨rfl, fun x hx => hS ⟨x.toNat, ?_⟩⟩⟩
    have h0 := hx.1.1
    rw [show ((x.toNat : Nat) : Int) = x by omega]; exact hx
theorem marks_next {h : Hs} {i : Nat} {seen : List Int} {out' : List Bool} {least : Int} (hv : Inv h (i + 1) seen least) (hl : out'.length = h.length)
    (ho : ∀ x (hx : x < out'.length), out'[x] = true ↔ Cyc h x ∧ R h (i + 1) x) : Marks h (i + 1) seen out' :=
  ⟨hv.len, hl, hv.bnd, hv.zero, ho⟩
/-- What the way has passed was not marked before. -/
def Fresh (h : Hs) (i k : Nat) (seen0 : List Int) : Prop := ∀ m, m < k → ∀ a : Nat, up h m (i : Nat) = (a : Nat) → ∀ ha : a < seen0.length, seen0[a] = 0
theorem fresh_start (h : Hs) (i : Nat) (seen : List Int) : Fresh h i 0 seen := fun m hm => by omega
theorem fresh_step {h : Hs} {i k a : Nat} {seen0 seen : List Int} (hf : Fresh h i k seen0) (hn : Inn h i k seen0 seen) (ha : up h k (i : Nat) = (a : Nat)) (hl : a < seen.length) (hz : seen[a] = 0) : Fresh h i (k + 1) seen0 := by
  intro m hm b hb hbl
  by_cases e : m = k
  · subst e
    have eb : b = a := by omega
    subst eb
    rcases hn.val b hl with ⟨_, e⟩ | ⟨_, e⟩
    · omega
    · rw [← e]; exact hz
  · exact hf m (by omega) b hb hbl
/-- The way has ended: nothing new is on a cycle. -/
theorem marks_neg {h : Hs} {i k : Nat} {seen0 seen : List Int} {out : List Bool} (hm : Marks h i seen0 out) (hn : Inn h i k seen0 seen) (hneg : up h k (i : Nat) < 0) : Marks h (i + 1) seen out := by
  obtain ⟨least, hv⟩ := hm.inv
  refine marks_next (inn_neg hv hn hneg) hm.olen fun x hx => (hm.on x hx).trans ?_
  rw [R_succ]
  constructor
  · rintro ⟨h1, h2⟩; exact ⟨h1, .inl h2⟩
  · rintro ⟨h1, h2 | ⟨m, hm⟩⟩
    · exact ⟨h1, h2⟩
    · exfalso
      have h3 := (cyc_step h1 k).1
      rw [← hm, ← up_add, Nat.add_comm, up_add] at h3
      have := up_neg (h := h) hneg m
      omega
/-- The way has come to an older mark: nothing new is on a cycle. -/
theorem marks_old {h : Hs} {i k a : Nat} {seen0 seen : List Int} {out : List Bool} (hm : Marks h i seen0 out) (hn : Inn h i k seen0 seen) (ha : up h k (i : Nat) = (a : Nat)) (hl : a < seen.length)
    (h0 : seen[a] ≠ 0) (h1 : seen[a] ≠ i + 1) : Marks h (i + 1) seen out := by
  obtain ⟨least, hv⟩ := hm.inv
  have hr : R h i (a : Nat) := by
    rcases hn.val a hl with ⟨_, e⟩ | ⟨_, e⟩
    · exact absurd e h1
    · rw [e] at h0
      exact Classical.byContradiction fun hc => h0 ((hm.zero a (by have := hn.len; omega)).2 hc)
  refine marks_next (inn_old hv hn ha hl h0 h1) hm.olen fun x hx => (hm.on x hx).trans ?_
  rw [R_succ]
  constructor
  · rintro ⟨h1, h2⟩; exact ⟨h1, .inl h2⟩
  · rintro ⟨h1, h2 | ⟨m, hm⟩⟩
    · exact ⟨h1, h2⟩
    · obtain ⟨t, ht⟩ := cyc_far h1 hm k
      rw [ha] at ht
      exact ⟨h1, by rw [ht]; exact R_up hr t⟩
/-- A mark of this way is not one of the old ones. -/
theorem marks_new {h : Hs} {i k a : Nat} {seen0 seen : List Int} {out : List Bool} (hm : Marks h i seen0 out) (hn : Inn h i k seen0 seen) (hf : Fresh h i k seen0) (hl : a < seen.length) (h1 : seen[a] = i + 1) :
    (∃ m, m < k ∧ up h m (i : Nat) = (a : Nat)) ∧ ∀ t b, up h t (a : Nat) = (b : Nat) → Cyc h (a : Nat) → ∀ hb : b < out.length, out[b] = false := by
  have hs : seen0.length = seen.length := hn.len.symm
  rcases hn.val a hl with ⟨hex, _⟩ | ⟨_, e⟩
  · refine ⟨hex, fun t b hb hc hbl => ?_⟩
    cases ho : out[b] with
    | false => rfl
    | true =>
      exfalso
      obtain ⟨hcb, hr⟩ := (hm.on b hbl).1 ho
      -- a is reached again from b, so it was marked before
      obtain ⟨h0, p, hp⟩ := hc
      have hra : R h i (a : Nat) := by
        have h2 : up h ((p + 1) * t - t) (b : Nat) = (a : Nat) := by
          rw [← hb, ← up_add, show t + ((p + 1) * t - t) = (p + 1) * t by have := Nat.le_mul_of_pos_left t (show 0 < p + 1 by omega); omega, cyc_mul hp]
        rw [← h2]; exact R_up hr _
      obtain ⟨m, hmk, hma⟩ := hex
      have hz := hm.zero a (by omega)
      have hpos : seen0[a]'(by omega) ≠ 0 := fun e => (hz.1 e) hra
      -- but the way has passed a when its mark was 0
      have : seen0[a]'(by omega) = 0 := hf m hmk a hma (by omega)
      exact hpos this
  · have := hm.bnd a (by omega)
    omega
/-- Around the cycle: s steps from a, each marked, and the next one is marked. -/
theorem around {h : Hs} {a s t : Nat} (hc : Cyc h (a : Nat)) (hts : t < s) (e : up h t (a : Nat) = up h s (a : Nat)) : up h (s - t) (a : Nat) = (a : Nat) := by
  obtain ⟨h0, p, hp⟩ := hc
  have hle : t ≤ (p + 1) * t := Nat.le_mul_of_pos_left t (by omega)
  have h1 : up h ((p + 1) * t - t) (up h t (a : Nat)) = (a : Nat) := by rw [← up_add, show t + ((p + 1) * t - t) = (p + 1) * t by omega, cyc_mul hp]
  have h2 : up h ((p + 1) * t - t) (up h s (a : Nat)) = up h (s - t) (a : Nat) := by
    rw [← up_add, show s + ((p + 1) * t - t) = (p + 1) * t + (s - t) by omega, up_add, cyc_mul hp]
  rw [← h2, ← e, h1]
/-- The way has come back to a token of its own: what was marked around the cycle is all that is new. -/
theorem marks_cyc {h : Hs} {i k a s t : Nat} {seen0 seen : List Int} {out out' : List Bool} (hm : Marks h i seen0 out) (hn : Inn h i k seen0 seen) (ha : up h k (i : Nat) = (a : Nat)) (hl : a < seen.length)
    (h1 : seen[a] = i + 1) (hts : t < s) (e : up h t (a : Nat) = up h s (a : Nat)) (hlen : out'.length = out.length)
    (hout : ∀ x (hx : x < out'.length), out'[x] = true ↔ (out[x]'(by omega) = true ∨ ∃ m, m < s ∧ up h m (a : Nat) = (x : Nat))) : Marks h (i + 1) seen out' := by
  obtain ⟨least, hv⟩ := hm.inv
  obtain ⟨m0, hm0, e0, ep⟩ := inn_on hv hn ha hl h1
  have hca : Cyc h (a : Nat) := ⟨by omega, k - m0 - 1, by rw [show k - m0 - 1 + 1 = k - m0 by omega]; exact ep⟩
  have hq := around hca hts e
  have hon : ∀ x (hx : x < out'.length), out'[x] = true ↔ Cyc h x ∧ R h (i + 1) x := by
    intro x hx
    rw [hout x hx, hm.on x (by omega), R_succ]
    constructor
    · rintro (⟨h2, h3⟩ | ⟨m, _, e⟩)
      · exact ⟨h2, .inl h3⟩
      · exact ⟨e ▸ cyc_step hca m, .inr ⟨k + m, by rw [up_add, ha]; exact e⟩⟩
    · rintro ⟨h2, h3 | ⟨m, hm⟩⟩
      · exact .inl ⟨h2, h3⟩
      · obtain ⟨u, hu⟩ := cyc_far h2 hm k
        rw [ha] at hu
        have hlt := Nat.mod_lt u (show 0 < s - t by omega)
        refine .inr ⟨u % (s - t), by omega, ?_⟩
        rw [hu]
        conv => rhs; rw [← Nat.div_add_mod u (s - t), up_add, cyc_mul hq]
  refine ⟨by rw [hn.len, hm.len], by rw [hlen, hm.olen], fun x hx => ?_, fun x hx => ?_, hon⟩
  · rcases hn.val x hx with ⟨_, e⟩ | ⟨_, e⟩
    · omega
    · have := hm.bnd x (by have := hn.len; omega); omega
  · have hx0 : x < seen0.length := by have := hn.len; omega
    have hz := hm.zero x hx0
    rw [R_succ]
    rcases hn.val x hx with ⟨⟨m, hm, hm2⟩, e⟩ | ⟨e1, e⟩
    · constructor
      · omega
      · intro hc; exact absurd (.inr ⟨m, hm2⟩) hc
    · rw [e, hz]
      constructor
      · intro hr hc
        rcases hc with hc | ⟨m, hm⟩
        · exact hr hc
        · have key : ∀ m, up h m (i : Nat) = (x : Nat) → ∃ m', m' < k ∧ up h m' (i : Nat) = (x : Nat) := by
            intro m
            induction m using Nat.strongRecOn with
            | _ m ih =>
              intro hm
              by_cases e : k ≤ m
              · have e1 : up h m (i : Nat) = up h (m0 + (m - k)) (i : Nat) := by
                  rw [up_add h m0, e0, ← ha, ← up_add, show k + (m - k) = m by omega]
                rw [e1] at hm
                exact ih (m0 + (m - k)) (by omega) hm
              · exact ⟨m, by omega, hm⟩
          exact e1 (key m hm)
      · exact fun hc hr => hc (.inl hr)
theorem marks_done {h : List Int} {seen : List Int} {out : List Bool} (hm : Marks (nrm h) h.length seen out) : out = (List.range h.length).map fun i => cyc h i := by
  apply List.ext_getElem
  · rw [hm.olen, nrm_len]; simp
  · intro x h1 h2
    have hx : x < h.length := by simpa using h2
    rw [List.getElem_map, List.getElem_range, Bool.eq_iff_iff, hm.on x h1]
    unfold cyc
    rw [cyc_iff (nrm_ok h) (by rw [nrm_len]; exact hx)]
    exact ⟨fun h => h.1, fun hc => ⟨hc, x, hx, 0, rfl⟩⟩
end Cor
end Go.Proofs.YtgkdaebiefhgdaaDoor
