/-
  The contracts of feature.contains, the reference's member, In and text, strings.Contains of a bar, and the laws' equal. Conditions: a length is an int.
-/
import Derived.Test.YtiejknfpgiofiaaFeatParse
import Derived.WalkSpells
import Derived.Lib.Bytealg
import Derived.Laws.Concat
namespace Go.Proofs.Ytiejknfpgiofiaa
open Go.RowKit Utf Feat
attribute [local go_sem] byte_mk ByteArray.extract_mk

def within {α : Type} [BEq α] (l : List α) (f : α) : Bool := l.elem f
theorem elem_succ (l : List (List UInt8)) (f : Bs) (k : Nat) (hk : k < l.length) : within (l.take (k + 1)) f = (within (l.take k) f || l[k] == f) := by
  unfold within
  rw [List.take_succ_eq_append_getElem hk, Bool.eq_iff_iff]
  simp only [List.elem_iff, List.mem_append, List.mem_singleton, Bool.or_eq_true, beq_iff_eq, eq_comm (a := f)]

set_option maxHeartbeats 400000 in
theorem contains_any (A : Option Addr) (n c : Nat) (l : List (List UInt8)) (f : Bs) (w : World) (hn : n ≤ 9223372036854775807)
    (h : Sl w w.heap.size 1 A n (strs l)) :
    Calls Try.prog 33 #[.slice A n c, str f] w (SameW (.bool (within l f)) w) := by
  have hl := h.len
  go_enter Try.func33, Try.ntmps33
  go_wp2
  go_loop [9] (fun i => ∃ k : Nat, k ≤ n ∧ i = .int .i64 k ∧ Hid (within (l.take k) f = false)) (fun i => n - (intOf i).toNat)
  case atStart => exact ⟨0, by omega, rfl, rfl⟩
  case round =>
    obtain ⟨k, hk, rfl, hno⟩ := hrel
    by_cases hlt : k < n
    · obtain ⟨g, o, hk', rfl, hb, hc⟩ := h.at_ hlt
      have hs := Lib.hid (elem_succ l f k hk')
      go_wp2
      · have hx : (l[k] == f) = true := by assumption
        go_ret
        exact ⟨ret_bool (List.elem_iff.2 (by rw [← eq_of_beq hx]; exact List.getElem_mem hk')).symm, rfl⟩
      · have hx : (l[k] == f) = false := by assumption
        go_round
        case rel => exact ⟨k + 1, by omega, by go_num, by show _ = _; rw [hs.out, hno.out, hx]; rfl⟩
        case measure => simp [intOf]; omega
    · go_wp2
      go_ret
      exact ⟨ret_bool (by rw [← hno.out, List.take_of_length_le (by omega)]), rfl⟩

set_option maxHeartbeats 400000 in
theorem member_any (A : Option Addr) (n c : Nat) (l : List (List UInt8)) (f : Bs) (w : World) (hn : n ≤ 9223372036854775807)
    (h : Sl w w.heap.size 1 A n (strs l)) :
    Calls Try.prog 34 #[.slice A n c, str f] w (SameW (.bool (within l f)) w) := by
  have hl := h.len
  go_enter Try.func34, Try.ntmps34
  go_wp2
  go_loop [9] (fun i => ∃ k : Nat, k ≤ n ∧ i = .int .i64 k ∧ Hid (within (l.take k) f = false)) (fun i => n - (intOf i).toNat)
  case atStart => exact ⟨0, by omega, rfl, rfl⟩
  case round =>
    obtain ⟨k, hk, rfl, hno⟩ := hrel
    by_cases hlt : k < n
    · obtain ⟨g, o, hk', rfl, hb, hc⟩ := h.at_ hlt
      have hs := Lib.hid (elem_succ l f k hk')
      go_wp2
      · have hx : (l[k] == f) = true := by assumption
        go_ret
        exact ⟨ret_bool (List.elem_iff.2 (by rw [← eq_of_beq hx]; exact List.getElem_mem hk')).symm, rfl⟩
      · have hx : (l[k] == f) = false := by assumption
        go_round
        case rel => exact ⟨k + 1, by omega, by go_num, by show _ = _; rw [hs.out, hno.out, hx]; rfl⟩
        case measure => simp [intOf]; omega
    · go_wp2
      go_ret
      exact ⟨ret_bool (by rw [← hno.out, List.take_of_length_le (by omega)]), rfl⟩

def same (l m : List (List UInt8)) : Bool := l == m
theorem same_succ (l m : List (List UInt8)) (k : Nat) (hk : k < l.length) (hm : k < m.length) : same (l.take (k + 1)) (m.take (k + 1)) = (same (l.take k) (m.take k) && l[k] == m[k]) := by
  unfold same
  rw [List.take_succ_eq_append_getElem hk, List.take_succ_eq_append_getElem hm, Bool.eq_iff_iff]
  simp only [beq_iff_eq, Bool.and_eq_true]
  constructor
  · intro h; have := List.append_inj h (by simp; omega); simpa using this
  · rintro ⟨h1, h2⟩; rw [h1, h2]
theorem same_no {l m : List (List UInt8)} {k : Nat} (hk : k < l.length) (hm : k < m.length) (h : (l[k] != m[k]) = true) : same l m = false := by
  unfold same
  rw [beq_eq_false_iff_ne]; rintro rfl; simp at h
theorem same_len {l m : List (List UInt8)} (h : l.length ≠ m.length) : same l m = false := by
  unfold same
  rw [beq_eq_false_iff_ne]; rintro rfl; exact h rfl

set_option maxHeartbeats 400000 in
theorem equal_any (A A' : Option Addr) (n c n' c' : Nat) (l l' : List (List UInt8)) (w : World) (hn : n ≤ 9223372036854775807) (hn' : n' ≤ 9223372036854775807)
    (h : Sl w w.heap.size 1 A n (strs l)) (h' : Sl w w.heap.size 1 A' n' (strs l')) :
    Calls Try.prog 14 #[.slice A n c, .slice A' n' c'] w (Drawn (.bool (same l l')) w) := by
  have hl := h.len
  have hl' := h'.len
  by_cases hnn : n = n'
  · subst hnn
    have hq : ((n : Int) != n) = false := by simp
    go_enter Try.func14, Try.ntmps14
    go_wp2
    go_loopw [13] (fun i wr => ∃ k q : Nat, k ≤ n ∧ i = .int .i64 k ∧ wr = w.drewN q ∧ Hid (same (l.take k) (l'.take k) = true)) (fun i _ => n - (intOf i).toNat)
    case atStart => exact ⟨0, 0, by omega, rfl, rfl, rfl⟩
    case round =>
      obtain ⟨k, q, hk, rfl, rfl, hno⟩ := hrel
      by_cases hlt : k < n
      · obtain ⟨g, o, hk', rfl, hb, hc⟩ := h.at_ hlt
        obtain ⟨g', o', hk'', rfl, hb', hc'⟩ := h'.at_ hlt
        have hs := Lib.hid (same_succ l l' k hk' hk'')
        go_wp2
        go_quiet (fail)
        go_wp2
        · have hx : (l[k] != l'[k]) = true := by assumption
          go_ret
          exact ⟨ret_bool (same_no hk' hk'' hx).symm, _, (by first | rfl | exact World.drewN_drewN ..)⟩
        · have hx : (l[k] != l'[k]) = false := by assumption
          go_roundw
          case rel => exact ⟨k + 1, _, by omega, by go_num, (by first | rfl | exact World.drewN_drewN ..), by show _ = _; rw [hs.out, hno.out]; simpa using hx⟩
          case measure => simp [intOf]; omega
      · go_wp2
        go_ret
        refine ⟨ret_bool ?_, _, rfl⟩
        have := hno.out
        rw [List.take_of_length_le (by omega), List.take_of_length_le (by omega)] at this
        exact this.symm
  · have hq : ((n : Int) != n') = true := by rw [bne_iff_ne]; omega
    go_enter Try.func14, Try.ntmps14
    go_wp2
    go_ret
    exact ⟨ret_bool (same_len (by omega)).symm, 0, rfl⟩

theorem indexByte_ge (l : List UInt8) (c : UInt8) : -1 ≤ Lib.indexByte l c ∧ (0 ≤ Lib.indexByte l c ↔ c ∈ l) := by
  induction l with
  | nil => simp [Lib.indexByte]
  | cons b l ih =>
    unfold Lib.indexByte
    by_cases h : b = c
    · subst h; simp
    · have h' : (b == c) = false := by simpa using h
      rw [h']
      by_cases k : Lib.indexByte l c = -1
      · have : ¬ c ∈ l := by rw [← ih.2]; omega
        have h2 : ¬ c = b := fun e => h e.symm
        simp [k, this, h2]
      · have k' : (Lib.indexByte l c == -1) = false := by simpa using k
        have : c ∈ l := by rw [← ih.2]; omega
        rw [k']; simp [this]; omega
theorem index_entry (s : Bs) (w : World) : (callFunc 48 #[str s, .int .u8 124]).run Try.prog w = .ok (.value (.int .i64 (Lib.indexByte s 124))) w := by
  rw [run_callFunc_extern Try.func48 (by kernel_rfl) (by kernel_rfl) (by kernel_rfl) (e := Extern.BytealgIndexByte.indexByte) (by kernel_rfl), Lib.run_indexByteString]
  rfl
set_option maxHeartbeats 1000000 in
theorem bar_any (s : Bs) (w : World) :
    Calls Try.prog 28 #[str s, str [124]] w (SameW (.bool (within s 124)) w) := by
  have hx := index_entry s
  obtain ⟨n, hn⟩ : ∃ n, Lib.indexByte s 124 = n := ⟨_, rfl⟩
  obtain ⟨h1, h2⟩ := indexByte_ge s 124
  rw [hn] at h1 h2 hx
  have HE : Hid (decide (0 ≤ n) = within s 124) := by show _ = _; unfold within; rw [Bool.eq_iff_iff]; simp [h2]
  clear hn h2
  go_enter Try.func28, Try.ntmps28
  go_wp2
  · have hx : ([124] == s) = true := by assumption
    go_ret
    exact ⟨ret_bool (by rw [← eq_of_beq hx]; rfl), rfl⟩
  · go_ret
    exact ⟨ret_bool HE.out, rfl⟩

theorem add_str {P : Program} (w : World) (a b : Bs) (h : a.length + b.length ≤ 9223372036854775807) : (Op.stringOp .add ⟨a.toArray⟩ ⟨b.toArray⟩).run P w = .ok (str (a ++ b)) w := by
  rw [run_string_add_sum w _ _ (by show a.toArray.size + b.toArray.size ≤ _; simpa using h), ByteArray.mk_append_mk]
theorem text_snoc (l : List Bs) (f : Bs) : text (l ++ [f]) = text l ++ (f ++ [124]) := by simp [text]
theorem len_text_take (l : List Bs) (k : Nat) (hk : k < l.length) : (text (l.take k)).length + (l[k].length + 1) ≤ (text l).length := by
  have h1 : text (l.take (k + 1)) = text (l.take k) ++ (l[k] ++ [124]) := by rw [List.take_succ_eq_append_getElem hk, text_snoc]
  have h2 : (text (l.take (k + 1))).length ≤ (text l).length := by
    have e : text l = text (l.take (k + 1)) ++ (l.drop (k + 1)).flatMap fun f => f ++ [124] := by
      conv => lhs; rw [← List.take_append_drop (k + 1) l]
      simp only [text, List.flatMap_append, List.cons_append]
    rw [e, List.length_append]; omega
  rw [h1] at h2
  simpa using h2
set_option maxHeartbeats 400000 in
theorem in_any (g n c : Nat) (l : Bs) (w : World) (hl : l.length = n) (hn : n ≤ 9223372036854775807)
    (h : ∀ k (hk : k < l.length), w.cell? ⟨g, k, none⟩ = some (.int .u8 (l[k].toNat : Nat))) :
    Calls Try.prog 30 #[.slice (some ⟨g, 0, none⟩) n c, .int .u8 124] w (SameW (.bool (within l 124)) w) := by
  go_enter Try.func30, Try.ntmps30
  go_wp2
  go_loop [9] (fun i => ∃ k : Nat, k ≤ n ∧ i = .int .i64 k ∧ Hid (within (l.take k) 124 = false)) (fun i => n - (intOf i).toNat)
  case atStart => exact ⟨0, by omega, rfl, rfl⟩
  case round =>
    obtain ⟨k, hk, rfl, hno⟩ := hrel
    by_cases hlt : k < n
    · have hk' : k < l.length := by omega
      have c0 := h k hk'
      have hs : within (l.take (k + 1)) 124 = (within (l.take k) 124 || l[k] == 124) := by
        unfold within; rw [List.take_succ_eq_append_getElem hk', Bool.eq_iff_iff]
        simp only [List.elem_iff, List.mem_append, List.mem_singleton, Bool.or_eq_true, beq_iff_eq, eq_comm (a := (124 : UInt8))]
      have HS := Lib.hid hs
      have hb : ((l[k].toNat : Int) == 124) = (l[k] == 124) := by
        rw [Bool.eq_iff_iff]; simp only [beq_iff_eq]
        constructor
        · intro e; exact UInt8.toNat_inj.1 (by have : l[k].toNat = 124 := by omega
                                               exact this)
        · intro e; rw [e]; rfl
      clear h hs
      cases hx : (l[k] == 124) with
      | true =>
        rw [hx] at hb
        go_wp2
        go_ret
        refine ⟨ret_bool (List.elem_iff.2 ?_).symm, rfl⟩
        rw [← eq_of_beq hx]; exact List.getElem_mem hk'
      | false =>
        rw [hx] at hb
        go_wp2
        go_round
        case rel => exact ⟨k + 1, by omega, by go_num, by show _ = _; rw [HS.out, hno.out, hx]; rfl⟩
        case measure => simp [intOf]; omega
    · go_wp2
      go_ret
      exact ⟨ret_bool (by rw [← hno.out, List.take_of_length_le (by omega)]), rfl⟩

set_option maxHeartbeats 400000 in
theorem text_any (A : Option Addr) (n c : Nat) (l : List Bs) (w : World) (hn : n ≤ 9223372036854775807) (h : Sl w w.heap.size 1 A n (strs l)) (ht : (text l).length ≤ 140737488355328) :
    Calls Try.prog 32 #[.slice A n c] w (SameW (str (text l)) w) := by
  have hl := h.len
  go_enter Try.func32, Try.ntmps32
  go_wp2
  go_loop [3, 8] (fun s i => ∃ k : Nat, k ≤ n ∧ i = .int .i64 k ∧ s = str (text (l.take k))) (fun _ i => n - (intOf i).toNat)
  case atStart => exact ⟨0, by omega, rfl, rfl⟩
  case round =>
    obtain ⟨k, hk, rfl, rfl⟩ := hrel
    by_cases hlt : k < n
    · obtain ⟨g, o, hk', rfl, hb, hc⟩ := h.at_ hlt
      have hs := Lib.hid (text_snoc (l.take k) l[k])
      have hle := len_text_take l k hk'
      have r1 : (Op.stringOp .add ⟨l[k].toArray⟩ ⟨#[124]⟩).run Try.prog w = .ok (str (l[k] ++ [124])) w := add_str w l[k] [124] (by simp; omega)
      have r2 := add_str (P := Try.prog) w (text (l.take k)) (l[k] ++ [124]) (by simp; omega)
      clear hle ht
      go_wp2
      go_round
      case rel => refine ⟨k + 1, by omega, by go_num, ?_⟩; rw [List.take_succ_eq_append_getElem hk', hs.out]
      case measure => simp [intOf]; omega
    · go_wp2
      go_ret
      refine ⟨?_, rfl⟩
      rw [List.take_of_length_le (by omega)]
      rfl
end Go.Proofs.Ytiejknfpgiofiaa
