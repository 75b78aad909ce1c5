/-
  The contract of the reference's Format: for every list the same text, or the same error. Conditions: the list has at most 1099511627776 elements, a text's length is an int.
-/
import Derived.Test.YtiejknfpgiofiaaFeatFmt
import Derived.Test.YtiejknfpgiofiaaFeatRefIns
namespace Go.Proofs.Ytiejknfpgiofiaa
open Go.RowKit Utf Feat
attribute [local go_sem] byte_mk ByteArray.extract_mk

theorem len_text_le (l : List Bs) (m : Nat) (h : ∀ f ∈ l, f.length ≤ m) : (text l).length ≤ 1 + l.length * (m + 1) := by
  induction l with
  | nil => simp [text]
  | cons x r ih =>
    have h1 := ih (fun f hf => h f (by simp [hf]))
    have h2 := h x (by simp)
    simp only [text, List.length_cons, List.flatMap_cons, List.length_append, List.length_nil] at h1 ⊢
    rw [Nat.add_mul]
    omega

set_option maxRecDepth 100000 in
set_option maxHeartbeats 2000000 in
theorem refFormat_any (A : Option Addr) (n c : Nat) (l : List Bs) (w : World) (hn : n ≤ 1099511627776) (h : Sl w w.heap.size 1 A n (strs l)) (hs : ∀ f ∈ l, f.length ≤ 9223372036854775807) :
    Calls Try.prog 17 #[.slice A n c] w (Fmt (format l) w) := by
  have hl := h.len
  go_enter Try.func17, Try.ntmps17
  go_wp2
  go_loopw [4, 11] (fun v iv wr => ∃ (k : Nat) (acc : List Bs), k ≤ n ∧ iv = .int .i64 k ∧ acc.length ≤ k ∧ wr.ownsRow w.heap.size 9 1 v acc.length (strs acc) ∧ Below w.heap.size w wr ∧
      Hid (Asc acc ∧ format l = fmt acc (l.drop k) ∧ ∀ f ∈ acc, f.length ≤ 120)) (fun _ iv _ => n - (intOf iv).toNat)
  case atStart => exact ⟨0, [], by omega, rfl, Nat.le_refl _, World.ownsRow_nil _ _ _ _, Below.refl _ _, by simp [Asc], rfl, by simp⟩
  case round =>
    obtain ⟨k, acc, hk, rfl, hak, hown, hB, hid⟩ := hrel
    by_cases hlt : k < n
    · obtain ⟨g, o, hk', rfl, hg, hc⟩ := (h.below hB).at_ hlt
      have hfl := hs l[k] (List.getElem_mem hk')
      have hd := Lib.hid (drop_at hk')
      have hex := refValue_any l[k] hfl wr
      by_cases h0 : vErr l[k] = 0
      · have E : Hid ((vErr l[k] : Int) = 0) := by show _ = _; rw [h0]; rfl
        have H0 := Lib.hid h0
        clear h0
        by_cases he : l[k] = []
        · have hee : (l[k] == []) = true := by rw [he]; rfl
          have hst := fmt_syn (acc := acc) (r := l.drop (k + 1)) H0.out (.inl he)
          have HS := Lib.hid hst
          have HE := Lib.hid he
          clear hst he
          go_wp2_with fail
          refine hex.mono ?_
          rintro e w1 ⟨rfl, hb⟩
          rw [E.out]
          go_wp2
          go_ret2
          exact fmt_ret (by rw [hid.out.2.1, hd.out, HS.out]) (hB.trans (hb.mono hB.size)) rfl
        · have hee : (l[k] == []) = false := by simpa using he
          have HE := Lib.hid he
          clear he
          go_wp2_with fail
          refine hex.mono ?_
          rintro e w1 ⟨rfl, hb⟩
          rw [E.out]
          obtain ⟨cc, W2, hcv, hb2, hz2, hcell⟩ := bytes_of (P := Try.prog) w1 9 42 5 l[k] Try.underlying9 Try.underlying42 Try.underlying5
          go_wp2_with fail
          refine (in_any _ _ _ l[k] _ rfl hfl hcell).mono ?_
          rintro e w3 ⟨rfl, rfl⟩
          have hB0 : Below w.heap.size w w1 := hB.trans (hb.mono hB.size)
          have hbw : Below wr.heap.size wr W2 := hb.trans (hb2.mono hb.size)
          have hB1 : Below w.heap.size w W2 := hB.trans (hbw.mono hB.size)
          clear hcv hcell hb2 hz2
          cases hbar : within l[k] 124 with
          | true =>
            have hst := fmt_syn (acc := acc) (r := l.drop (k + 1)) H0.out (.inr (List.elem_iff.1 hbar))
            have HS := Lib.hid hst
            clear hst
            go_wp2
            go_ret2
            exact fmt_ret (by rw [hid.out.2.1, hd.out, HS.out]) hB1 rfl
          | false =>
            have hst := fmt_ins (acc := acc) (r := l.drop (k + 1)) H0.out (by rintro (h | h); exact HE.out h; rw [← List.elem_iff] at h; unfold within at hbar; rw [h] at hbar; cases hbar)
            have HS := Lib.hid hst
            have hown1 := own_same hown (w' := W2) (fun g hg => hbw.block g (hown.lt g hg).2)
            have hex2 := refInsert_any w.heap.size acc l[k] _ W2 hid.out.1 hown1 (hB1.size) (by omega)
            clear hst hown
            go_wp2_with fail
            refine hex2.mono ?_
            rintro e w2 ⟨v2, rfl, hown2, hb2⟩
            go_wp2
            go_roundw
            case rel =>
              refine ⟨k + 1, _, by omega, by go_num, ?_, hown2, hB1.trans hb2, asc_ins _ _ hid.out.1, by rw [hid.out.2.1, hd.out, HS.out], ?_⟩
              rotate_left
              · intro f hf
                rcases (mem_ins _ _ _).1 hf with rfl | hf
                · exact ((vErr_zero _).1 H0.out).1
                · exact hid.out.2.2 f hf
              have := length_ins_ge l[k] acc
              omega
            case measure => simp [intOf]; omega
      · have E : ((vErr l[k] : Int) != 0) = true := by rw [bne_iff_ne]; omega
        have hst := fmt_bad (acc := acc) (r := l.drop (k + 1)) h0
        have HS := Lib.hid hst
        clear h0 hst
        go_wp2_with fail
        refine hex.mono ?_
        rintro e w1 ⟨rfl, hb⟩
        go_wp2
        go_ret2
        exact fmt_ret (by rw [hid.out.2.1, hd.out, HS.out]) (hB.trans (hb.mono hB.size)) rfl
    · have hkl : l.drop k = [] := List.drop_eq_nil_of_le (by omega)
      have hfin : Hid (format l = fmt acc []) := by show _ = _; rw [hid.out.2.1, hkl]
      have hall := Lib.hid hid.out.2.2
      obtain ⟨wo, rfl⟩ : ∃ wo : World, wo = wr := ⟨_, rfl⟩
      obtain ⟨A2, c2, rfl, hsl, _⟩ := sl_of_own hown
      have hal : acc.length ≤ 1099511627776 := by omega
      have htl : (text acc).length ≤ 140737488355328 := by
        have := len_text_le acc 120 hall.out
        omega
      have hex := text_any A2 acc.length c2 acc wo (by omega) hsl htl
      clear hid hkl hown
      by_cases hov : (text acc).length ≤ 120
      · have hovi : decide ((120 : Int) < (text acc).length) = false := by rw [decide_eq_false_iff_not]; omega
        have hfe : Hid (fmt acc [] = (text acc, 0)) := by show _ = _; unfold fmt; rw [if_pos hov]
        clear htl
        go_wp2_with fail
        refine hex.mono ?_
        rintro e w1 ⟨rfl, rfl⟩
        go_wp2
        go_ret2
        exact fmt_ret (by rw [hfin.out, hfe.out]) hB rfl
      · have hovi : decide ((120 : Int) < (text acc).length) = true := by rw [decide_eq_true_iff]; omega
        have hfe : Hid (fmt acc [] = ([], 2)) := by show _ = _; unfold fmt; rw [if_neg (by omega)]
        clear htl
        go_wp2_with fail
        refine hex.mono ?_
        rintro e w1 ⟨rfl, rfl⟩
        go_wp2
        go_ret2
        exact fmt_ret (by rw [hfin.out, hfe.out]) hB rfl
end Go.Proofs.Ytiejknfpgiofiaa
