/-
  Plain law of chapter 4: a tag is read back from its text, with its keys sorted, also with more spaces in front of the keys. No conditions.
-/
import Derived.Test.YteccopnlpllliaaMarkLaws
import Derived.Test.YteccopnlpllliaaMarkStay
import Derived.Test.YteccopnlpllliaaMarkNum
namespace Go.Proofs.Yteccopnlpllliaa
open Go.RowKit Utf Tagp
open Feat (Bs lt)

theorem at_drop {s r : Bs} {i : Nat} {c : UInt8} (h : s.drop i = c :: r) : s[i]? = some c ∧ s.drop (i + 1) = r := by
  have h1 : (s.drop i)[0]? = some c := by rw [h]; rfl
  rw [List.getElem?_drop] at h1
  refine ⟨by simpa using h1, ?_⟩
  rw [← List.drop_drop, h]
  rfl
theorem drop_more {s a r : Bs} {i : Nat} (h : s.drop i = a ++ r) : s.drop (i + a.length) = r := by
  rw [← List.drop_drop, h]
  simp
theorem run_text {p : UInt8 → Bool} {s a r : Bs} {i : Nat} {c : UInt8} (h : s.drop i = a ++ c :: r) (ha : ∀ x ∈ a, p x = true) (hc : p c = false) : run p s i = i + a.length := by
  unfold run
  rw [h, tw_all hc r a ha]
theorem nameP_text {s nm r : Bs} {i : Nat} {c : UInt8} (h : s.drop i = nm ++ c :: r) (hn : okName nm = true) (hc : gon c = false) : nameP s i = .ok (nm, i + nm.length) := by
  have hl := okName_len hn
  have hok := hn
  unfold okName at hok
  simp only [Bool.and_eq_true] at hok
  have hall : ∀ x ∈ nm, gon x = true := List.all_eq_true.1 hok.2
  have hb := hok.1.2
  have hr := run_text h hall hc
  have h0 : s[i]? = nm.head? := by
    have e : (s.drop i)[0]? = nm.head? := by
      rw [h, List.getElem?_append_left (by omega), List.head?_eq_getElem?]
    rw [List.getElem?_drop] at e
    simpa using e
  unfold nameP
  rw [hr, h0, if_pos hb, if_neg (by omega), h]
  congr 2
  rw [show i + nm.length - i = nm.length by omega]
  exact List.take_left' rfl
theorem eatP_text {s r : Bs} {i : Nat} {c : UInt8} (h : s.drop i = c :: r) : eatP s c i = .ok (i + 1) := by
  unfold eatP
  rw [if_pos (at_drop h).1]
theorem escB_plain (c : UInt8) : ∀ x ∈ escB c, plainCh x = true := by
  unfold escB
  split
  · decide
  · split
    · decide
    · split
      · decide
      · split
        · decide
        · intro x hx
          rw [List.mem_singleton.1 hx]
          unfold plainCh
          simp_all
theorem esc_plain (v : Bs) : ∀ x ∈ esc v, plainCh x = true := by
  intro x hx
  unfold esc at hx
  obtain ⟨c, _, hc⟩ := List.mem_flatMap.1 hx
  exact escB_plain c x hc
theorem valueP_text {s v r : Bs} {i : Nat} (h : s.drop i = esc v ++ 34 :: r) (hv : vErr v = 0) : valueP s i = .ok (v, i + (esc v).length + 1) := by
  have hr := run_text (p := plainCh) h (esc_plain v) (by decide)
  have hd := drop_more h
  unfold valueP
  rw [hr, eatP_text hd, show i + (esc v).length - i = (esc v).length by omega, h]
  simp only
  rw [show (esc v ++ 34 :: r).take (esc v).length = esc v from List.take_left' rfl, unesc_esc]
  simp [hv]
theorem keyP_text {s r : Bs} {i : Nat} {p : KV} {acc : List KV} (h : s.drop i = p.1 ++ ([61, 34] ++ (esc p.2 ++ 34 :: r))) (hn : okName p.1 = true) (hv : vErr p.2 = 0) (hh : hasK acc p.1 = false) (h8 : acc.length ≠ 8) :
    ∃ j, keyP s acc i = .ok (p, j) ∧ s.drop j = r := by
  have h1 := nameP_text (c := 61) (r := [34] ++ (esc p.2 ++ 34 :: r)) (s := s) (i := i) h hn (by decide)
  have d1 := drop_more h
  have d2 : s.drop (i + p.1.length) = 61 :: 34 :: (esc p.2 ++ 34 :: r) := d1
  have e1 := eatP_text d2
  have d3 := (at_drop d2).2
  have e2 := eatP_text d3
  have d4 := (at_drop d3).2
  have e3 := valueP_text d4 hv
  have d5 := drop_more d4
  have d6 := (at_drop d5).2
  refine ⟨_, ?_, d6⟩
  unfold keyP
  rw [h1]
  simp only
  rw [if_neg (by rw [hh]; simp), if_neg h8, e1]
  simp only
  rw [e2]
  simp only
  rw [e3]
theorem keyT_at (p : KV) (r : Bs) : keyT p ++ r = 32 :: (p.1 ++ ([61, 34] ++ (esc p.2 ++ 34 :: r))) := by simp [keyT]

/-- All keys of a text: the first one behind more spaces. -/
theorem keysP_text {s r : Bs} : ∀ (ks acc : List KV) (i m : Nat), s.drop i = (if ks = [] then [] else List.replicate m 32) ++ (ks.flatMap keyT ++ 62 :: r) → acc.length + ks.length ≤ 8 →
    (∀ p ∈ ks, okName p.1 = true ∧ vErr p.2 = 0) → ((acc ++ ks).map (·.1)).Nodup → ∃ j, keysP s (9 - acc.length) acc i = .ok (acc ++ ks, j) ∧ s.drop j = 62 :: r
  | [], acc, i, m, h, hl, _, _ => by
    have h' : s.drop i = 62 :: r := by simpa using h
    refine ⟨i, ?_, h'⟩
    rw [keysP_stop _ (by rw [(at_drop h').1]; simp)]
    simp
  | p :: ks, acc, i, m, h, hl, hok, hnd => by
    rw [if_neg (by simp), List.flatMap_cons, List.append_assoc, keyT_at] at h
    have hp := hok p (by simp)
    have h32 : s[i]? = some 32 := by
      cases m with
      | zero => exact (at_drop h).1
      | succ m => rw [List.replicate_succ] at h; exact (at_drop h).1
    obtain ⟨c, t, hct⟩ : ∃ c t, p.1 = c :: t := by
      have := (okName_len hp.1).1
      cases hq : p.1 with
      | nil => rw [hq] at this; simp at this
      | cons c t => exact ⟨c, t, rfl⟩
    have hc32 : (c == 32) = false := by
      have hb := hp.1
      unfold okName at hb
      simp only [Bool.and_eq_true] at hb
      have hb2 := hb.1.2
      rw [hct] at hb2
      simp only [List.head?_cons, Option.any_some] at hb2
      rw [beq_eq_false_iff_ne]
      intro e
      rw [e] at hb2
      revert hb2
      decide
    have h2 : s.drop i = (List.replicate m 32 ++ [32]) ++ c :: (t ++ ([61, 34] ++ (esc p.2 ++ 34 :: (ks.flatMap keyT ++ 62 :: r)))) := by
      rw [h, hct]; simp
    have hr := run_text (p := (· == 32)) h2 (by
      intro x hx
      rcases List.mem_append.1 hx with e | e
      · rw [List.eq_of_mem_replicate e]; rfl
      · rw [List.mem_singleton.1 e]; rfl) hc32
    have hd := drop_more h2
    have hd' : s.drop (i + (List.replicate m (32 : UInt8) ++ [32]).length) = p.1 ++ ([61, 34] ++ (esc p.2 ++ 34 :: (ks.flatMap keyT ++ 62 :: r))) := by rw [hd, hct]; rfl
    have hhas : hasK acc p.1 = false := by
      cases hx : hasK acc p.1 with
      | false => rfl
      | true =>
        unfold hasK at hx
        obtain ⟨q, hq, he⟩ := List.any_eq_true.1 hx
        rw [List.map_append, List.map_cons] at hnd
        have := (List.nodup_append.1 hnd).2.2 q.1 (List.mem_map_of_mem hq) p.1 (by simp)
        exact absurd (eq_of_beq he) this
    obtain ⟨j, hk, hj⟩ := keyP_text hd' hp.1 hp.2 hhas (by simp at hl; omega)
    rw [← hr] at hk
    obtain ⟨j2, hk2, hj2⟩ := keysP_text (s := s) (r := r) ks (acc ++ [p]) j 0 (by rw [hj]; split <;> simp) (by simp at hl ⊢; omega) (fun q hq => hok q (by simp [hq])) (by simpa using hnd)
    refine ⟨j2, ?_, hj2⟩
    rcases keysP_go h32 hk with e | e
    · rw [e, hk2]; simp
    · simp at hl; omega

theorem foldl_self : ∀ (l m : List KV), Up (m ++ l) → l.foldl (fun m p => insP p m) m = m ++ l
  | [], m, _ => by simp
  | p :: r, m, h => by
    have hp : insP p m = m ++ [p] := by
      have := insP_place p m m.length (Nat.le_refl _) (fun j hj _ => by
        unfold Up at h
        have := (List.pairwise_append.1 h).2.2 m[j] (List.getElem_mem hj) p (by simp)
        exact this) (fun hi => by omega)
      simpa using this
    rw [List.foldl_cons, hp, foldl_self r (m ++ [p]) (by simpa using h)]
    simp
theorem sortP_self {l : List KV} (h : Up l) : sortP l = l := by
  have := foldl_self l [] (by simpa using h)
  simpa [sortP] using this
theorem insP_perm (p : KV) : ∀ l : List KV, (insP p l).Perm (p :: l)
  | [] => List.Perm.refl _
  | q :: r => by
    unfold insP
    split
    · exact List.Perm.refl _
    · exact ((insP_perm p r).cons q).trans (List.Perm.swap p q r)
theorem foldl_perm : ∀ (l m : List KV), (l.foldl (fun m p => insP p m) m).Perm (m ++ l)
  | [], m => by simp
  | p :: r, m => by
    rw [List.foldl_cons]
    refine (foldl_perm r _).trans ?_
    refine ((insP_perm p m).append_right r).trans ?_
    have : (p :: m ++ r).Perm (m ++ p :: r) := List.perm_middle.symm
    exact this
theorem sortP_perm (l : List KV) : (sortP l).Perm l := by
  have := foldl_perm l []
  simpa [sortP] using this
theorem chkKeys_nodup : ∀ (b l : List KV), chkKeys b l = 0 → (b.map (·.1)).Nodup → ((b ++ l).map (·.1)).Nodup
  | b, [], _, h => by simpa using h
  | b, p :: r, h, hb => by
    rw [chkKeys] at h
    split at h
    · cases h
    · split at h
      · cases h
      · rename_i hh
        split at h
        · rename_i h3; exact absurd h h3
        · have hnew : ((b ++ [p]).map (·.1)).Nodup := by
            rw [List.map_append, List.map_cons, List.map_nil]
            refine List.nodup_append.2 ⟨hb, by simp, ?_⟩
            intro x hx y hy e
            rw [List.mem_singleton.1 hy] at e
            obtain ⟨q, hq, he⟩ := List.mem_map.1 hx
            exact hh (by unfold hasK; exact List.any_eq_true.2 ⟨q, hq, by rw [he, e]; simp⟩)
          have := chkKeys_nodup (b ++ [p]) r h hnew
          simpa using this
theorem chk_keys {cl : Bool} {nm : Bs} {l : List KV} (h : chk cl nm l = 0) : chkKeys [] l = 0 := by
  unfold chk at h
  split at h
  · cases h
  · split at h
    · cases h
    · exact h

/-- The text with more spaces in front of the keys. -/
def gapT (nm : Bs) (m : Nat) (ks : List KV) : Bs := [60] ++ nm ++ (if ks = [] then [] else List.replicate m 32) ++ (ks.flatMap keyT ++ [62])
theorem tagP_gap {nm : Bs} {l : List KV} (m : Nat) (h : chk false nm l = 0) : tagP (gapT nm m (sortP l)) = .ok (false, nm, sortP l) := by
  obtain ⟨hn, _, h8, hall⟩ := chk_ok h
  have hnd := chkKeys_nodup [] l (chk_keys h) (by simp)
  have hks : ((sortP l).map (·.1)).Nodup := ((sortP_perm l).map _).nodup_iff.2 (by simpa using hnd)
  have hlen : (sortP l).length = l.length := sortP_len l
  have hok : ∀ p ∈ sortP l, okName p.1 = true ∧ vErr p.2 = 0 := fun p hp => hall p (mem_sortP hp)
  obtain ⟨ks, hkse⟩ : ∃ ks, sortP l = ks := ⟨_, rfl⟩
  have hup := sortP_up l
  rw [hkse] at hks hlen hok hup ⊢
  obtain ⟨s, hs⟩ : ∃ s, gapT nm m ks = s := ⟨_, rfl⟩
  rw [hs]
  have d0 : s.drop 0 = 60 :: (nm ++ ((if ks = [] then [] else List.replicate m 32) ++ (ks.flatMap keyT ++ [62]))) := by rw [← hs]; simp [gapT]
  have e0 := eatP_text d0
  have d1 := (at_drop d0).2
  obtain ⟨c, r, hcr⟩ : ∃ c r, (if ks = [] then [] else List.replicate m 32) ++ (ks.flatMap keyT ++ [62]) = c :: r ∧ (c = 32 ∨ c = 62) := by
    cases ks with
    | nil => exact ⟨62, [], rfl, .inr rfl⟩
    | cons p ks =>
      cases m with
      | zero => exact ⟨32, _, by simp [keyT]; rfl, .inl rfl⟩
      | succ m => exact ⟨32, _, by simp [List.replicate_succ]; rfl, .inl rfl⟩
  have hg : gon c = false := by rcases hcr.2 with e | e <;> rw [e] <;> decide
  have d1' : s.drop (0 + 1) = nm ++ c :: r := by rw [d1, hcr.1]
  have e1 := nameP_text d1' hn hg
  have d2 := drop_more d1'
  rw [← hcr.1] at d2
  obtain ⟨j, hk, hj⟩ := keysP_text ks [] _ m d2 (by simp; omega) hok (by simpa using hks)
  have hslash : (s[1]? == some 47) = false := by
    have h1 : s[0 + 1]? = nm.head? := by
      have e : (s.drop (0 + 1))[0]? = nm.head? := by
        rw [d1', List.getElem?_append_left (okName_len hn).1, List.head?_eq_getElem?]
      rw [List.getElem?_drop] at e
      simpa using e
    rw [Nat.zero_add] at h1
    rw [h1]
    have hb := hn
    unfold okName at hb
    simp only [Bool.and_eq_true] at hb
    have hb2 := hb.1.2
    cases nm with
    | nil => rfl
    | cons x t =>
      simp only [List.head?_cons, Option.any_some] at hb2 ⊢
      rw [beq_eq_false_iff_ne]
      intro e
      rw [Option.some.inj e] at hb2
      revert hb2
      decide
  unfold tagP
  rw [e0]
  simp only [hslash]
  rw [if_neg (by simp)]
  rw [show (1 : Nat) = 0 + 1 from rfl, e1]
  simp only
  rw [if_neg (by simp)]
  have hk' : keysP s 9 [] (0 + 1 + nm.length) = .ok ([] ++ ks, j) := hk
  rw [hk']
  simp only
  rw [eatP_text hj]
  simp only
  have hend := (at_drop hj).2
  have hle : s.length ≤ j + 1 := by
    rcases Nat.lt_or_ge (j + 1) s.length with k | k
    · have := congrArg List.length hend
      rw [List.length_drop] at this
      simp at this
      omega
    · exact k
  rw [if_neg (by omega), List.nil_append, sortP_self hup]
theorem tagP_close {nm : Bs} (hn : okName nm = true) : tagP ([60, 47] ++ nm ++ [62]) = .ok (true, nm, []) := by
  obtain ⟨s, hs⟩ : ∃ s, [60, 47] ++ nm ++ [62] = s := ⟨_, rfl⟩
  rw [hs]
  have d0 : s.drop 0 = 60 :: 47 :: (nm ++ [62]) := by rw [← hs]; simp
  have e0 := eatP_text d0
  have d1 := (at_drop d0).2
  have hslash : (s[1]? == some 47) = true := by rw [show s[1]? = some 47 from (at_drop d1).1]; rfl
  have d2 := (at_drop d1).2
  have e1 := nameP_text d2 hn (by decide)
  have d3 := drop_more d2
  unfold tagP
  rw [e0]
  simp only [hslash]
  rw [if_pos trivial]
  rw [show (2 : Nat) = 0 + 1 + 1 from rfl, e1]
  simp only
  rw [if_pos trivial]
  simp only
  rw [eatP_text d3]
  simp only
  have hend := (at_drop d3).2
  have hle : s.length ≤ 0 + 1 + 1 + nm.length + 1 := by
    rw [← hs]; simp; omega
  rw [if_neg (by omega)]
  rfl
end Go.Proofs.Yteccopnlpllliaa
