/-
  The contract of feature.Format: for every list the same text, or the same error. Conditions: the list has at most 1099511627776 elements, a text's length is an int.
-/
import Derived.Test.YtiejknfpgiofiaaFeatUse
import Derived.Test.YtiejknfpgiofiaaFeatIns
namespace Go.Proofs.Ytiejknfpgiofiaa
open Go.RowKit Utf Feat
attribute [local go_sem] byte_mk ByteArray.extract_mk

theorem Sl.below {w w' : World} {B sz n : Nat} {A : Option Addr} {xs : List Value} (h : Sl w B sz A n xs) (hb : Below B w w') : Sl w' B sz A n xs := by
  refine ⟨h.1, fun hp => ?_⟩
  obtain ⟨g, o, e, hg, hc⟩ := h.2 hp
  exact ⟨g, o, e, hg, fun j u hj => (World.cell?_of_block (hb.block g hg)).trans (hc j u hj)⟩
theorem Sl.wide {w : World} {B C sz n : Nat} {A : Option Addr} {xs : List Value} (h : Sl w B sz A n xs) (hb : B ≤ C) : Sl w C sz A n xs := by
  refine ⟨h.1, fun hp => ?_⟩
  obtain ⟨g, o, e, hg, hc⟩ := h.2 hp
  exact ⟨g, o, e, Nat.lt_of_lt_of_le hg hb, hc⟩
theorem sl_of_own {w : World} {base n : Nat} {e : TypeId} {v : Value} {l : List Bs} (h : w.ownsRow base e 1 v n (strs l)) :
    ∃ A c, v = .slice A n c ∧ Sl w w.heap.size 1 A n (strs l) ∧ n ≤ c := by
  have h1 := h.1
  rcases h.2 with ⟨rfl, rfl⟩ | ⟨g, cap, cur, rfl, _, hb, hc, _⟩
  · exact ⟨none, 0, rfl, ⟨h1, fun hp => by omega⟩, Nat.le_refl _⟩
  · refine ⟨_, cap, rfl, ⟨h1, fun _ => ⟨g, 0, rfl, (Array.getElem?_eq_some_iff.1 hb).1, fun j u hj => ?_⟩⟩, hc⟩
    have hj' : j < l.length := by have := (List.getElem?_eq_some_iff.1 hj).1; rwa [strs_len] at this
    rw [Nat.zero_add, own_str h j hj', ← hj]
    simp [strs, hj']

/-- What Format hands back. -/
def Fmt (r : Bs × Nat) (w : World) (e : Ending) (w' : World) : Prop := e = .returned (.tuple #[str r.1, .int .i64 (r.2 : Nat)]) ∧ Below w.heap.size w w'
theorem fmt_ret {r r' : Bs × Nat} {w w' : World} (h : r' = r) (hb : Below w.heap.size w w') {e : Ending} (he : e = .returned (.tuple #[str r.1, .int .i64 (r.2 : Nat)])) : Fmt r' w e w' := by subst h; exact ⟨he, hb⟩

theorem fmt_bad {acc r : List Bs} {f : Bs} (h : vErr f ≠ 0) : fmt acc (f :: r) = ([], vErr f) := by unfold fmt; rw [if_pos h]
theorem fmt_syn {acc r : List Bs} {f : Bs} (h : vErr f = 0) (k : f = [] ∨ (124 : UInt8) ∈ f) : fmt acc (f :: r) = ([], 3) := by unfold fmt; rw [if_neg (by simpa using h), if_pos k]
theorem fmt_ins {acc r : List Bs} {f : Bs} (h : vErr f = 0) (k : ¬ (f = [] ∨ (124 : UInt8) ∈ f)) : fmt acc (f :: r) = fmt (ins f acc) r := by
  conv => lhs; unfold fmt
  rw [if_neg (by simpa using h), if_neg k]
theorem drop_at {l : List Bs} {k : Nat} (h : k < l.length) : l.drop k = l[k] :: l.drop (k + 1) := List.drop_eq_getElem_cons h

set_option maxRecDepth 100000 in
set_option maxHeartbeats 2000000 in
theorem format_any (A : Option Addr) (n c : Nat) (l : List Bs) (w : World) (hn : n ≤ 1099511627776) (h : Sl w w.heap.size 1 A n (strs l)) (hs : ∀ f ∈ l, f.length ≤ 9223372036854775807) :
    Calls Try.prog 16 #[.slice A n c] w (Fmt (format l) w) := by
  have hl := h.len
  go_enter Try.func16, Try.ntmps16
  go_wp2
  go_loopw [4, 13] (fun v iv wr => ∃ (k : Nat) (acc : List Bs), k ≤ n ∧ iv = .int .i64 k ∧ acc.length ≤ k ∧ wr.ownsRow w.heap.size 9 1 v acc.length (strs acc) ∧ Below w.heap.size w wr ∧
      Hid (Asc acc ∧ format l = fmt acc (l.drop k) ∧ ∀ f ∈ acc, f.length ≤ 120)) (fun _ iv _ => n - (intOf iv).toNat)
  case atStart => exact ⟨0, [], by omega, rfl, Nat.le_refl _, World.ownsRow_nil _ _ _ _, Below.refl _ _, by simp [Asc], rfl, by simp⟩
  case round =>
    obtain ⟨k, acc, hk, rfl, hak, hown, hB, hid⟩ := hrel
    by_cases hlt : k < n
    · obtain ⟨g, o, hk', rfl, hg, hc⟩ := (h.below hB).at_ hlt
      have hfl := hs l[k] (List.getElem_mem hk')
      have hd := Lib.hid (drop_at hk')
      have hex := value_any l[k] hfl wr
      by_cases h0 : vErr l[k] = 0
      · have E : Hid ((vErr l[k] : Int) = 0) := by show _ = _; rw [h0]; rfl
        have H0 := Lib.hid h0
        clear h0
        by_cases he : l[k] = []
        · have hee : (l[k] == []) = true := by rw [he]; rfl
          have hst := fmt_syn (acc := acc) (r := l.drop (k + 1)) H0.out (.inl he)
          have HS := Lib.hid hst
          have HE := Lib.hid he
          clear hst he
          go_wp2_with fail
          refine hex.mono ?_
          rintro e w1 ⟨rfl, hb⟩
          rw [E.out]
          go_wp2
          go_ret2
          exact fmt_ret (by rw [hid.out.2.1, hd.out, HS.out]) (hB.trans (hb.mono hB.size)) rfl
        · have hee : (l[k] == []) = false := by simpa using he
          have HE := Lib.hid he
          clear he
          go_wp2_with fail
          refine hex.mono ?_
          rintro e w1 ⟨rfl, hb⟩
          rw [E.out]
          go_wp2_with fail
          refine (bar_any l[k] _).mono ?_
          rintro e w2 ⟨rfl, rfl⟩
          have hB1 : Below w.heap.size w w1 := hB.trans (hb.mono hB.size)
          cases hbar : within l[k] 124 with
          | true =>
            have hst := fmt_syn (acc := acc) (r := l.drop (k + 1)) H0.out (.inr (List.elem_iff.1 hbar))
            have HS := Lib.hid hst
            clear hst
            go_wp2
            go_ret2
            exact fmt_ret (by rw [hid.out.2.1, hd.out, HS.out]) hB1 rfl
          | false =>
            have hst := fmt_ins (acc := acc) (r := l.drop (k + 1)) H0.out (by rintro (h | h); exact HE.out h; rw [← List.elem_iff] at h; unfold within at hbar; rw [h] at hbar; cases hbar)
            have HS := Lib.hid hst
            have hown1 := own_same hown (w' := w1) (fun g hg => hb.block g (hown.lt g hg).2)
            have hex2 := insert_any w.heap.size acc l[k] _ w1 hid.out.1 hown1 (hB1.size) (by omega)
            clear hst hown
            go_wp2_with fail
            refine hex2.mono ?_
            rintro e w2 ⟨v2, rfl, hown2, hb2⟩
            go_wp2
            go_roundw
            case rel =>
              refine ⟨k + 1, _, by omega, by go_num, ?_, hown2, hB1.trans hb2, asc_ins _ _ hid.out.1, by rw [hid.out.2.1, hd.out, HS.out], ?_⟩
              rotate_left
              · intro f hf
                rcases (mem_ins _ _ _).1 hf with rfl | hf
                · exact ((vErr_zero _).1 H0.out).1
                · exact hid.out.2.2 f hf
              have := length_ins_ge l[k] acc
              omega
            case measure => simp [intOf]; omega
      · have E : ((vErr l[k] : Int) != 0) = true := by rw [bne_iff_ne]; omega
        have hst := fmt_bad (acc := acc) (r := l.drop (k + 1)) h0
        have HS := Lib.hid hst
        clear h0 hst
        go_wp2_with fail
        refine hex.mono ?_
        rintro e w1 ⟨rfl, hb⟩
        go_wp2
        go_ret2
        exact fmt_ret (by rw [hid.out.2.1, hd.out, HS.out]) (hB.trans (hb.mono hB.size)) rfl
    · have hkl : l.drop k = [] := List.drop_eq_nil_of_le (by omega)
      have hfin : Hid (format l = fmt acc []) := by show _ = _; rw [hid.out.2.1, hkl]
      have hall := Lib.hid hid.out.2.2
      obtain ⟨wo, rfl⟩ : ∃ wo : World, wo = wr := ⟨_, rfl⟩
      obtain ⟨A2, c2, rfl, hsl, _⟩ := sl_of_own hown
      have hal : acc.length ≤ 1099511627776 := by omega
      clear hid hkl hown
      go_wp2
      go_loop [8, 34] (fun s i => ∃ k : Nat, k ≤ acc.length ∧ i = .int .i64 k ∧ s = str (text (acc.take k)) ∧ (text (acc.take k)).length ≤ 120) (fun _ i => acc.length - (intOf i).toNat)
      case atStart => exact ⟨0, by omega, rfl, rfl, by simp [text]⟩
      case round =>
        obtain ⟨j, hj, rfl, rfl, hx⟩ := hrel
        by_cases hjt : j < acc.length
        · obtain ⟨g, o, hj', rfl, hg, hc⟩ := hsl.at_ hjt
          have hs1 : text (acc.take (j + 1)) = text (acc.take j) ++ (acc[j] ++ [124]) := by rw [List.take_succ_eq_append_getElem hj', text_snoc]
          have HS := Lib.hid hs1
          have hle := len_text_take acc j hj'
          have h120 := hall.out acc[j] (List.getElem_mem hj')
          have r1 : (Op.stringOp .add ⟨acc[j].toArray⟩ ⟨#[124]⟩).run Try.prog wo = .ok (str (acc[j] ++ [124])) wo := add_str wo acc[j] [124] (by simp; omega)
          have r2 := add_str (P := Try.prog) wo (text (acc.take j)) (acc[j] ++ [124]) (by simp; omega)
          rw [← hs1] at r2
          obtain ⟨T, hT⟩ : ∃ T, text (acc.take (j + 1)) = T := ⟨_, rfl⟩
          rw [hT] at r2 hs1
          have HT := Lib.hid hT
          have hTl : T.length ≤ (text acc).length := by rw [hs1]; simpa using hle
          clear hle h120 hs1 hT
          by_cases hov : T.length ≤ 120
          · have hovi : decide ((120 : Int) < T.length) = false := by rw [decide_eq_false_iff_not]; omega
            clear hTl
            go_wp2
            go_round
            case rel => exact ⟨j + 1, by omega, by go_num, by rw [HT.out], by rw [HT.out]; exact hov⟩
            case measure => simp [intOf]; omega
          · have hovi : decide ((120 : Int) < T.length) = true := by rw [decide_eq_true_iff]; omega
            have hfe : Hid (fmt acc [] = ([], 2)) := by show _ = _; unfold fmt; rw [if_neg (by omega)]
            clear hTl
            go_wp2
            go_ret2
            exact fmt_ret (by rw [hfin.out, hfe.out]) hB rfl
        · have hje : acc.take j = acc := List.take_of_length_le (by omega)
          rw [hje] at hx
          have hfe : Hid (fmt acc [] = (text acc, 0)) := by show _ = _; unfold fmt; rw [if_pos hx]
          go_wp2
          go_ret2
          exact fmt_ret (by rw [hfin.out, hfe.out]) hB rfl
end Go.Proofs.Ytiejknfpgiofiaa
