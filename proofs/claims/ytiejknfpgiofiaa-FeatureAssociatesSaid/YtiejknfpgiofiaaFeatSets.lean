/-
  The contract of feature.parseAll: the lists of each set, or the error of the first one that is wrong. Conditions: at most 1099511627776 sets, a text's length is an int.
-/
import Derived.Test.YtiejknfpgiofiaaFeatHas
namespace Go.Proofs.Ytiejknfpgiofiaa
open Go.RowKit Utf Feat
attribute [local go_sem] byte_mk ByteArray.extract_mk

theorem info_strings : (Try.prog.info? 23).map (fun i => (i.zero, i.size, i.bytes)) = some (some (.slice none 0 0), 1, 24) := by kernel_rfl
theorem own_base {w : World} {base base' n : Nat} {e : TypeId} {v : Value} {l : List Value} (h : w.ownsRow base e 1 v n l) (hb : base' ≤ base) : w.ownsRow base' e 1 v n l := by
  refine ⟨h.1, ?_⟩
  rcases h.2 with h2 | ⟨g, cap, cur, rfl, h1, h3⟩
  · exact .inl h2
  · exact .inr ⟨g, cap, cur, rfl, Nat.le_trans hb h1, h3⟩

/-- Rows of the sets before k, none in the block that holds the rows' list. -/
def Rows' (sets : List Bs) (base : Nat) (v : Value) (k : Nat) (rows : List Value) (w : World) : Prop :=
  w.ownsRow base 23 1 v k rows ∧ ∀ j (h : j < sets.length), j < k → (parse sets[j]).2 = 0 ∧ ∃ u A c, rows[j]? = some u ∧ u = .slice A (parse sets[j]).1.length c ∧
    w.ownsRow base 9 1 u (parse sets[j]).1.length (strs (parse sets[j]).1) ∧ (∀ g, u.ownBlock = some g → v.ownBlock ≠ some g)

/-- What parseAll hands back. -/
def Sets (sets : List Bs) (w : World) (e : Ending) (w' : World) : Prop :=
  Below w.heap.size w w' ∧
  ((∃ j, ∃ h : j < sets.length, (∀ i (hi : i < j), (parse (sets[i]'(by omega))).2 = 0) ∧ (parse sets[j]).2 ≠ 0 ∧ e = .returned (.tuple #[.slice none 0 0, .int .i64 ((parse sets[j]).2 : Nat)])) ∨
   (∃ v rows, e = .returned (.tuple #[v, .int .i64 0]) ∧ Rows' sets w.heap.size v sets.length rows w'))

theorem rows_step {l : List Bs} {base k cu : Nat} {rows : List Value} {v v' : Value} {wr w1 w2 : World} {m : List Bs} {Au : Option Addr} {o : Obj} (hk : k < l.length)
    (hown : wr.ownsRow base 23 1 v k rows)
    (hrows : ∀ j (h : j < l.length), j < k → (parse l[j]).2 = 0 ∧ ∃ u A c, rows[j]? = some u ∧ u = .slice A (parse l[j]).1.length c ∧
      wr.ownsRow base 9 1 u (parse l[j]).1.length (strs (parse l[j]).1) ∧ (∀ g, u.ownBlock = some g → v.ownBlock ≠ some g))
    (hp : parse l[k] = (m, 0)) (hu : w1.ownsRow wr.heap.size 9 1 (.slice Au m.length cu) m.length (strs m)) (hb : Below wr.heap.size wr w1)
    (own2 : w2.ownsRow base 23 1 v' (k + 1) (rows ++ [.slice Au m.length cu])) (gr2 : (w1.alloc o).grownBy w2 v.ownBlock)
    (ob : v'.ownBlock = v.ownBlock ∨ v'.ownBlock = some (w1.heap.size + 1)) (hB : base ≤ wr.heap.size) : Rows' l base v' (k + 1) (rows ++ [.slice Au m.length cu]) w2 := by
  have hz := hb.size
  have hlen : rows.length = k := by simpa using hown.1
  have keep : ∀ g, g < w1.heap.size → v.ownBlock ≠ some g → w2.heap[g]? = w1.heap[g]? := fun g hg hne =>
    (gr2.block g (by simp; omega) (fun e => hne e.symm)).trans (Below.heap_alloc _ _ _ hg)
  refine ⟨own2, fun j hj hjk => ?_⟩
  by_cases e : j = k
  · subst e
    rw [hp]
    refine ⟨rfl, _, Au, cu, by rw [List.getElem?_append_right (by omega), hlen, Nat.sub_self]; rfl, rfl, ?_, ?_⟩
    · refine own_base (own_same hu (fun g hg => keep g (hu.lt g hg).2 ?_)) hB
      intro hv
      have := (hown.lt g hv).2
      have := (hu.lt g hg).1
      omega
    · intro g hg hv
      have h1 := hu.lt g hg
      rcases ob with h | h
      · rw [h] at hv
        have := (hown.lt g hv).2
        omega
      · rw [h] at hv; cases hv; omega
  · obtain ⟨h0, u, A, c, hr, hsl, ho, hd⟩ := hrows j hj (by omega)
    refine ⟨h0, u, A, c, by rw [List.getElem?_append_left (by omega)]; exact hr, hsl, ?_, ?_⟩
    · refine own_same ho (fun g hg => (keep g (Nat.lt_of_lt_of_le (ho.lt g hg).2 hz) (hd g hg)).trans (hb.block g (ho.lt g hg).2))
    · intro g hg hv
      rcases ob with h | h
      · rw [h] at hv; exact hd g hg hv
      · rw [h] at hv
        have := (ho.lt g hg).2
        cases hv
        omega

set_option maxRecDepth 100000 in
set_option maxHeartbeats 2000000 in
theorem parseAll_any (A : Option Addr) (n c : Nat) (l : List Bs) (w : World) (hn : n ≤ 1099511627776) (h : Sl w w.heap.size 1 A n (strs l)) (hs : ∀ f ∈ l, f.length ≤ 9223372036854775807) :
    Calls Try.prog 35 #[.slice A n c] w (Sets l w) := by
  obtain ⟨i0, hi0, hz0, hz1, hz2⟩ := info_parts info_strings
  have hl := h.len
  go_enter Try.func35, Try.ntmps35
  go_wp2
  go_loopw [4, 11] (fun v iv wr => ∃ (k : Nat) (rows : List Value), k ≤ n ∧ iv = .int .i64 k ∧ Below w.heap.size w wr ∧ Rows' l w.heap.size v k rows wr) (fun _ iv _ => n - (intOf iv).toNat)
  case atStart => exact ⟨0, [], by omega, rfl, Below.refl _ _, World.ownsRow_nil _ _ _ _, fun j _ h => by omega⟩
  case round =>
    obtain ⟨k, rows, hk, rfl, hB, hown, hrows⟩ := hrel
    by_cases hlt : k < n
    · obtain ⟨g, o, hk', rfl, hg, hc⟩ := (h.below hB).at_ hlt
      have hfl := hs l[k] (List.getElem_mem hk')
      have hex := parse_any l[k] hfl wr
      obtain ⟨m, er, hp⟩ : ∃ m er, parse l[k] = (m, er) := ⟨_, _, rfl⟩
      have HP := Lib.hid hp
      rw [hp] at hex
      clear hp
      by_cases h0 : er = 0
      · subst h0
        go_wp2_with fail
        refine hex.mono ?_
        rintro e w1 ⟨u, rfl, hu, hb⟩
        have hB1 : Below w.heap.size w w1 := hB.trans (hb.mono hB.size)
        obtain ⟨Au, cu, rfl, _, _⟩ := sl_of_own hu
        have hown1 := own_same hown (w' := w1) (fun g hg => hb.block g (hown.lt g hg).2)
        have hlt1 := hown.lt
        have hoa := hown1.alloc (.cells #[.slice Au m.length cu] 23)
        have hba := hB1.alloc hB1.size (.cells #[.slice Au m.length cu] 23)
        clear hown1
        go_wp2_with (at_builtin; refine wpList_append_own_at _ rfl (.tmp 23) (.tmp 25) _ rfl w.heap.size 23 i0 _ 1 24 Try.underlying45 hi0 hz0 hz1 hz2 rfl (by decide) _ _ _ rfl hoa ⟨w1.heap.size, 0, none⟩ 1 1 [.slice Au m.length cu] rfl rfl ?pac1 ?pac2 ?pac3 ?pac4 (hba.size) ?_)
        try (case pac1 => exact news_new _ _ [_])
        try (case pac2 => first | rfl | (intro u hu; simp at hu; subst hu; rfl))
        try (case pac3 => simp [maxLen]; omega)
        try (case pac4 => omega)
        intro v2 w2 own2 gr2 _ ob2
        have hb2 : Below w.heap.size w w2 := hba.grown gr2 hba.size (fun k hk => (hlt1 k hk).1)
        have hnew := rows_step hk' hown hrows HP.out hu hb own2 gr2 (by simpa using ob2) hB.size
        clear hoa hba gr2 own2 hown hrows hu
        go_wp2
        go_roundw
        case rel => exact ⟨k + 1, _, by omega, by go_num, hb2, hnew⟩
        case measure => simp [intOf]; omega
      · have hn' : ((er : Int) != 0) = true := by rw [bne_iff_ne]; omega
        go_wp2_with fail
        refine hex.mono ?_
        rintro e w1 ⟨u, rfl, hu, hb⟩
        go_wp2
        go_ret2
        refine ⟨hB.trans (hb.mono hB.size), .inl ⟨k, hk', fun i hi => (hrows i (by omega) hi).1, by rw [HP.out]; exact h0, by rw [HP.out]; rfl⟩⟩
    · have hkn : l.length = k := by omega
      go_wp2
      go_ret2
      exact ⟨hB, .inr ⟨_, rows, rfl, by rw [hkn]; exact ⟨hown, hrows⟩⟩⟩
end Go.Proofs.Ytiejknfpgiofiaa
