/-
 Several texts of this seat, one behind the other: Text, MarkName, MarkEsc, MarkOne, MarkUn, MarkScan, MarkVal, MarkPair, MarkKey, MarkOrd, MarkSort, MarkTag, MarkParse. No conditions but those of each.
-/
import Derived.Test.YtgkdaebiefhgdaaGreatDoorPBase6
import Derived.Lib.AppendStr
import Derived.Laws.IdiomStrings
import Derived.Laws.BytesArg
import Derived.Laws.Concat
import Derived.Maps.AppendAt
import Derived.WalkSpells
import Derived.BigQuiet
import Derived.Deep.QuietTactic
import Derived.Laws.Cover4
import Derived.Deep.RegionLaw
import Derived.Defers
import Derived.Recover
import Derived.Laws.Pointers
namespace Go.Proofs.YtgkdaebiefhgdaaGreatDoor
open Go.RowKit
theorem info_u8 : (Tryz.prog.info? 5).map (fun i => (i.zero, i.size, i.bytes)) = some (some (.int .u8 0), 1, 1) := by kernel_rfl

def bys (l : List UInt8) : List Value := l.map fun b => Value.int .u8 (b.toNat : Nat)
theorem bys_append (l m : List UInt8) : bys (l ++ m) = bys l ++ bys m := by simp [bys]
theorem strCells_bys (l : List UInt8) : Lib.strCells ⟨l.toArray⟩ = bys l := by simp [Lib.strCells, bys]

theorem own_move {w : World} {base n m : Nat} {e : TypeId} {sz : Nat} {v : Value} {l r : List Value} (h : w.ownsRow base e sz v n l) (hl : l = r) (hn : n = m) : w.ownsRow base e sz v m r := by subst hl hn; exact h

theorem back_run {w : World} {base : Nat} {e : TypeId} {v : Value} {l : List UInt8} {n : Nat} (hn : n = l.length) (h : w.ownsRow base e 1 v n (bys l)) :
  (convert 79 9 v).run Tryz.prog w = .ok (str l) w := by
 subst hn
 rcases h.2 with ⟨rfl, h0⟩ | ⟨g, cap, cur, rfl, _, hb, hc, _⟩
 ·have : l = [] := List.eq_nil_of_length_eq_zero h0
  subst this
  exact run_convert_bytes_nil w 79 5 Tryz.underlying79 Tryz.underlying5 0 0 9 Tryz.underlying9
 ·refine run_convert_bytes_back w 79 9 5 ⟨g, 0, none⟩ cap l Tryz.underlying79 Tryz.underlying5 Tryz.underlying9 fun j hj => ?_
  refine h.cells (g := g) rfl j _ ?_
  simp [bys, hj]

theorem wpList_app_str {ops : Array Oper} {rest : List Oper} {o : Oper} {a : Act} {w : World} {Q : Exit → Act → World → Prop} (hgd : o.guard = none) (sl x : Operand)
  (ho : o.op = .call { callee := .builtin .append, args := #[sl, x], argTypes := #[79, 9] })
  (base : Nat) (v : Value) (n : Nat) (l : List UInt8) (hs : a.eval sl = v) (hown : w.ownsRow base 5 1 v n (bys l)) (s : List UInt8) (hx : a.eval x = str s)
  (hbytes : n + s.length ≤ 140737488355328 - 4096) (hbase : base ≤ w.heap.size)
  (h : ∀ v' w', w'.ownsRow base 5 1 v' (n + s.length) (bys (l ++ s)) → w.grownBy w' v.ownBlock → wpList Tryz.prog ops Q rest (a.put o.dst v') w') : wpList Tryz.prog ops Q (o :: rest) a w := by
 obtain ⟨i0, hi0, hz0, hz1, hz2⟩ := info_parts info_u8
 have hsz : (ByteArray.mk s.toArray).size = s.length := by show s.toArray.size = _; simp
 refine Lib.wpList_append_own_string w hgd sl x 79 9 ho base 5 i0 Tryz.underlying79 Tryz.underlying9 hi0 hz0 hz1 hz2 v n (bys l) hs hown ⟨s.toArray⟩ hx (by rw [hsz]; simp [maxLen]; omega) (by rw [hsz]; omega) hbase ?_
 intro v' w' h1 h2 _
 rw [hsz, strCells_bys, ← bys_append] at h1
 exact h v' w' h1 h2
end Go.Proofs.YtgkdaebiefhgdaaGreatDoor
namespace Go.Proofs.YtgkdaebiefhgdaaGreatDoor
open Go.RowKit Utf Tagp
open Feat (Bs)
attribute [local go_sem] byte_mk ByteArray.extract_mk
end Go.Proofs.YtgkdaebiefhgdaaGreatDoor
namespace Go.Proofs.YtgkdaebiefhgdaaGreatDoor
open Go.RowKit Utf Tagp
open Feat (Bs)
attribute [local go_sem] byte_mk ByteArray.extract_mk
theorem pre_no {p s : Bs} (h : s.length < p.length) : p.isPrefixOf s = false := by
 cases hp : p.isPrefixOf s with
 | false => rfl
 | true => have := prefix_len hp; omega
theorem pre_take {p s : Bs} : p.isPrefixOf s = (s.take p.length == p) := by
 rw [Bool.eq_iff_iff, List.isPrefixOf_iff_prefix, beq_iff_eq, List.prefix_iff_eq_take]
 exact ⟨fun h => h.symm, fun h => h.symm⟩

set_option maxHeartbeats 400000 in
theorem hasPrefix_any (s p : Bs) (w : World) : Calls Tryz.prog 57 #[str s, str p] w (SameW (.bool (p.isPrefixOf s)) w) := by
 by_cases h : s.length < p.length
 ·have HE := Lib.hid (pre_no h)
  have d1 : decide ((p.length : Int) ≤ s.length) = false := by rw [decide_eq_false_iff_not]; omega
  go_enter Tryz.func57, Tryz.ntmps57
  go_wp2
  go_ret
  exact ⟨ret_bool HE.out.symm, rfl⟩
 ·have HE := Lib.hid (pre_take (p := p) (s := s))
  have d1 : decide ((p.length : Int) ≤ s.length) = true := by rw [decide_eq_true_iff]; omega
  have hle : p.length ≤ s.length := by omega
  go_enter Tryz.func57, Tryz.ntmps57
  go_wp2
  go_ret
  exact ⟨ret_bool (by rw [HE.out]), rfl⟩

end Go.Proofs.YtgkdaebiefhgdaaGreatDoor
namespace Go.Proofs.YtgkdaebiefhgdaaGreatDoor
open Go.RowKit Utf Tagp
open Feat (Bs)
attribute [local go_sem] byte_mk ByteArray.extract_mk
theorem mem_tw {α : Type} (p : α → Bool) : ∀ (l : List α) (c : α), c ∈ l.takeWhile p → p c = true
 | [], c, h => by simp at h
 | x :: r, c, h => by
  cases hx : p x with
  | false => simp [hx] at h
  | true =>
   simp [hx] at h
   rcases h with rfl | h
   ·exact hx
   ·exact mem_tw p r c h
theorem digs_at (s : Bs) (j : Nat) (h : j < (digs s).length) : ∃ h2 : 2 + j < s.length, 2 + j < 9 ∧ (digs s)[j] = s[2 + j] ∧ dig s[2 + j] = true := by
 have hp : digs s <+: (s.drop 2).take 7 := List.takeWhile_prefix _
 have hl := hp.length_le
 rw [List.length_take, List.length_drop] at hl
 have h2 : 2 + j < s.length := by omega
 have he : (digs s)[j] = s[2 + j] := by
  have h3 : (digs s)[j]? = ((s.drop 2).take 7)[j]? := by
   obtain ⟨t, ht⟩ := hp
   rw [← ht, List.getElem?_append_left h]
  rw [List.getElem?_eq_getElem h, List.getElem?_take, if_pos (by omega), List.getElem?_drop, List.getElem?_eq_getElem h2] at h3
  exact Option.some.inj h3
 refine ⟨h2, by omega, he, ?_⟩
 rw [← he]
 exact mem_tw dig ((s.drop 2).take 7) _ (List.getElem_mem h)
theorem takeWhile_stop {α : Type} (p : α → Bool) : ∀ (l : List α) (h : (l.takeWhile p).length < l.length), p (l[(l.takeWhile p).length]'h) = false
 | [], h => by simp at h
 | x :: r, h => by
  cases hx : p x with
  | false => simp [hx]
  | true =>
   have h' : (r.takeWhile p).length < r.length := by simp [hx] at h; exact h
   have := takeWhile_stop p r h'
   simp only [List.takeWhile_cons, hx, if_true, List.length_cons, List.getElem_cons_succ]
   exact this
theorem digs_end (s : Bs) (h1 : 2 + (digs s).length < s.length) (h2 : 2 + (digs s).length < 9) : dig s[2 + (digs s).length] = false := by
 have h := takeWhile_stop dig ((s.drop 2).take 7) (by show (digs s).length < _; rw [List.length_take, List.length_drop]; omega)
 have e : ((s.drop 2).take 7)[(((s.drop 2).take 7).takeWhile dig).length]'(by show (digs s).length < _; rw [List.length_take, List.length_drop]; omega) = s[2 + (digs s).length] := by
  rw [List.getElem_take, List.getElem_drop]; rfl
 rw [e] at h
 exact h
theorem digs_le (s : Bs) : (digs s).length ≤ 7 ∧ (2 ≤ s.length → 2 + (digs s).length ≤ s.length) := by
 have hp : digs s <+: (s.drop 2).take 7 := List.takeWhile_prefix _
 have hl := hp.length_le
 rw [List.length_take, List.length_drop] at hl
 omega
theorem val_snoc (l : Bs) (c : UInt8) : val (l ++ [c]) = 10 * val l + (c.toNat - 48) := by simp [val]
theorem val_lt_from : ∀ (l : Bs) (n : Nat), (∀ c ∈ l, dig c = true) → l.foldl (fun n c => 10 * n + (c.toNat - 48)) n < (n + 1) * 10 ^ l.length
 | [], n, _ => by simp
 | c :: r, n, h => by
  have h2 := h c (by simp)
  unfold dig at h2
  simp at h2
  have h1 := val_lt_from r (10 * n + (c.toNat - 48)) (fun x hx => h x (by simp [hx]))
  rw [List.foldl_cons, List.length_cons]
  refine Nat.lt_of_lt_of_le h1 ?_
  rw [Nat.pow_succ, Nat.mul_comm (10 ^ r.length) 10, ← Nat.mul_assoc]
  exact Nat.mul_le_mul_right _ (by omega)
theorem val_lt (l : Bs) (h : ∀ c ∈ l, dig c = true) : val l < 10 ^ l.length := by
 have := val_lt_from l 0 h
 simpa [val] using this
theorem val_digs (s : Bs) (j : Nat) : val ((digs s).take j) < 10000000 := by
 have h1 := val_lt ((digs s).take j) (fun c hc => mem_tw dig ((s.drop 2).take 7) _ (List.mem_of_mem_take hc))
 have h2 : ((digs s).take j).length ≤ 7 := by rw [List.length_take]; have := (digs_le s).1; omega
 exact Nat.lt_of_lt_of_le h1 (Nat.pow_le_pow_right (by omega) h2 : _ ≤ 10 ^ 7)
def One (s : Bs) (w : World) (e : Ending) (w' : World) : Prop := w = w' ∧ e = .returned (.tuple #[.int .i32 ((esc1 s).1 : Nat), .int .i64 ((esc1 s).2 : Nat)])
theorem one_ret {s : Bs} {n k : Nat} {w : World} {e : Ending} (h : esc1 s = (n, k)) (he : e = .returned (.tuple #[.int .i32 (n : Nat), .int .i64 (k : Nat)])) : One s w e w := by unfold One; rw [h]; exact ⟨rfl, he⟩

theorem esc1_num {s : Bs} (h1 : [38, 97, 109, 112, 59].isPrefixOf s = false) (h2 : [38, 108, 116, 59].isPrefixOf s = false) (h3 : [38, 103, 116, 59].isPrefixOf s = false) (h4 : [38, 113, 117, 111, 116, 59].isPrefixOf s = false) (h5 : [38, 35].isPrefixOf s = true) :
  esc1 s = if 2 + (digs s).length = 2 ∨ s[2 + (digs s).length]? ≠ some 59 ∨ (s[2]? = some 48 ∧ 3 < 2 + (digs s).length) ∨ (55296 ≤ val (digs s) ∧ val (digs s) ≤ 57343) ∨ 1114111 < val (digs s) then (0, 0) else (val (digs s), 2 + (digs s).length + 1) := by
 unfold esc1
 rw [h1, h2, h3, h4, h5]
 simp only [Bool.false_eq_true, if_false, if_true]

theorem dig_parts {c : UInt8} (h : dig c = true) : decide (48 ≤ (c.toNat : Int)) = true ∧ decide ((c.toNat : Int) ≤ 57) = true := by
 unfold dig at h; simp at h ⊢; omega
theorem dig_not {c : UInt8} (h : dig c = false) : decide (48 ≤ (c.toNat : Int)) = false ∨ (decide (48 ≤ (c.toNat : Int)) = true ∧ decide ((c.toNat : Int) ≤ 57) = false) := by
 unfold dig at h; simp at h ⊢; omega

theorem one_cases {s : Bs} {i n : Nat} (hil : i < s.length) (h2 : 2 < s.length) (H : esc1 s = if i = 2 ∨ some s[i] ≠ some 59 ∨ (some s[2] = some (48 : UInt8) ∧ 3 < i) ∨ (55296 ≤ n ∧ n ≤ 57343) ∨ 1114111 < n then (0, 0) else (n, i + 1)) :
  (((i : Int) == 2) = true ∧ esc1 s = (0, 0)) ∨ (((i : Int) == 2) = false ∧ ((((s[i].toNat : Int) != 59) = true ∧ esc1 s = (0, 0)) ∨ (((s[i].toNat : Int) != 59) = false ∧
     ((((s[2].toNat : Int) == 48) = true ∧ decide ((3 : Int) < i) = true ∧ esc1 s = (0, 0)) ∨ ((((s[2].toNat : Int) == 48) = false ∨ (((s[2].toNat : Int) == 48) = true ∧ decide ((3 : Int) < i) = false)) ∧
      ((decide ((55296 : Int) ≤ n) = true ∧ decide ((n : Int) ≤ 57343) = true ∧ esc1 s = (0, 0)) ∨ ((decide ((55296 : Int) ≤ n) = false ∨ (decide ((55296 : Int) ≤ n) = true ∧ decide ((n : Int) ≤ 57343) = false)) ∧
       ((decide ((1114111 : Int) < n) = true ∧ esc1 s = (0, 0)) ∨ (decide ((1114111 : Int) < n) = false ∧ n ≤ 1114111 ∧ esc1 s = (n, i + 1)))))))))) := by
 have k59 : s[i] = 59 ↔ (s[i].toNat : Int) = 59 := ⟨fun h => by rw [h]; rfl, fun h => UInt8.toNat_inj.1 (by show _ = 59; omega)⟩
 have k48 : s[2] = 48 ↔ (s[2].toNat : Int) = 48 := ⟨fun h => by rw [h]; rfl, fun h => UInt8.toNat_inj.1 (by show _ = 48; omega)⟩
 simp only [beq_iff_eq, beq_eq_false_iff_ne, bne_iff_ne, bne_eq_false_iff_eq, decide_eq_true_eq, decide_eq_false_iff_not, ne_eq, Option.some.injEq, ← k59, ← k48] at H ⊢
 by_cases a1 : i = 2
 ·left; exact ⟨by omega, by rw [H, if_pos (.inl a1)]⟩
 ·right; refine ⟨by omega, ?_⟩
  by_cases a2 : s[i] = 59
  ·right; refine ⟨a2, ?_⟩
   by_cases a3 : s[2] = 48 ∧ 3 < i
   ·left; exact ⟨a3.1, by omega, by rw [H, if_pos (.inr (.inr (.inl a3)))]⟩
   ·right
    refine ⟨?_, ?_⟩
    ·by_cases a4 : s[2] = 48
     ·right; refine ⟨a4, fun h => a3 ⟨a4, by omega⟩⟩
     ·left; exact a4
    ·by_cases a5 : 55296 ≤ n ∧ n ≤ 57343
     ·left; exact ⟨by omega, by omega, by rw [H, if_pos (.inr (.inr (.inr (.inl a5))))]⟩
     ·right
      refine ⟨by omega, ?_⟩
      by_cases a6 : 1114111 < n
      ·left; exact ⟨by omega, by rw [H, if_pos (.inr (.inr (.inr (.inr a6))))]⟩
      ·right; refine ⟨by omega, by omega, ?_⟩
       rw [H, if_neg]
       rintro (h | h | h | h | h)
       ·exact a1 h
       ·exact h a2
       ·exact a3 h
       ·exact a5 h
       ·exact a6 h
  ·left; exact ⟨a2, by rw [H, if_pos (.inr (.inl a2))]⟩

set_option maxRecDepth 100000 in
set_option maxHeartbeats 4000000 in
theorem one_any (s : Bs) (hs : s.length ≤ 9223372036854775807) (w : World) : Calls Tryz.prog 142 #[str s] w (One s w) := by
 cases h1 : [38, 97, 109, 112, 59].isPrefixOf s with
 | true =>
  have HE : Hid (esc1 s = (38, 5)) := by show _ = _; unfold esc1; simp only [h1, if_true]
  have H0 := Lib.hid h1
  clear h1
  go_enter Tryz.func142, Tryz.ntmps142
  go_wp2_with fail
  refine (hasPrefix_any s [38, 97, 109, 112, 59] w).mono ?_
  rintro e w1 ⟨rfl, rfl⟩
  rw [H0.out]
  go_wp2
  go_ret2
  exact one_ret HE.out rfl
 | false =>
  cases h2 : [38, 108, 116, 59].isPrefixOf s with
  | true =>
   have HE : Hid (esc1 s = (60, 4)) := by show _ = _; unfold esc1; simp only [h1, h2, Bool.false_eq_true, if_false, if_true]
   have H0 := Lib.hid h1
   have H1 := Lib.hid h2
   clear h1 h2
   go_enter Tryz.func142, Tryz.ntmps142
   go_wp2_with fail
   refine (hasPrefix_any s [38, 97, 109, 112, 59] w).mono ?_
   rintro e w1 ⟨rfl, rfl⟩
   rw [H0.out]
   go_wp2_with fail
   refine (hasPrefix_any s [38, 108, 116, 59] w).mono ?_
   rintro e w1 ⟨rfl, rfl⟩
   rw [H1.out]
   go_wp2
   go_ret2
   exact one_ret HE.out rfl
  | false =>
   cases h3 : [38, 103, 116, 59].isPrefixOf s with
   | true =>
    have HE : Hid (esc1 s = (62, 4)) := by show _ = _; unfold esc1; simp only [h1, h2, h3, Bool.false_eq_true, if_false, if_true]
    have H0 := Lib.hid h1
    have H1 := Lib.hid h2
    have H2 := Lib.hid h3
    clear h1 h2 h3
    go_enter Tryz.func142, Tryz.ntmps142
    go_wp2_with fail
    refine (hasPrefix_any s [38, 97, 109, 112, 59] w).mono ?_
    rintro e w1 ⟨rfl, rfl⟩
    rw [H0.out]
    go_wp2_with fail
    refine (hasPrefix_any s [38, 108, 116, 59] w).mono ?_
    rintro e w1 ⟨rfl, rfl⟩
    rw [H1.out]
    go_wp2_with fail
    refine (hasPrefix_any s [38, 103, 116, 59] w).mono ?_
    rintro e w1 ⟨rfl, rfl⟩
    rw [H2.out]
    go_wp2
    go_ret2
    exact one_ret HE.out rfl
   | false =>
    cases h4 : [38, 113, 117, 111, 116, 59].isPrefixOf s with
    | true =>
     have HE : Hid (esc1 s = (34, 6)) := by show _ = _; unfold esc1; simp only [h1, h2, h3, h4, Bool.false_eq_true, if_false, if_true]
     have H0 := Lib.hid h1
     have H1 := Lib.hid h2
     have H2 := Lib.hid h3
     have H3 := Lib.hid h4
     clear h1 h2 h3 h4
     go_enter Tryz.func142, Tryz.ntmps142
     go_wp2_with fail
     refine (hasPrefix_any s [38, 97, 109, 112, 59] w).mono ?_
     rintro e w1 ⟨rfl, rfl⟩
     rw [H0.out]
     go_wp2_with fail
     refine (hasPrefix_any s [38, 108, 116, 59] w).mono ?_
     rintro e w1 ⟨rfl, rfl⟩
     rw [H1.out]
     go_wp2_with fail
     refine (hasPrefix_any s [38, 103, 116, 59] w).mono ?_
     rintro e w1 ⟨rfl, rfl⟩
     rw [H2.out]
     go_wp2_with fail
     refine (hasPrefix_any s [38, 113, 117, 111, 116, 59] w).mono ?_
     rintro e w1 ⟨rfl, rfl⟩
     rw [H3.out]
     go_wp2
     go_ret2
     exact one_ret HE.out rfl
    | false =>
     cases h5 : [38, 35].isPrefixOf s with
     | false =>
      have HE : Hid (esc1 s = (0, 0)) := by show _ = _; unfold esc1; simp only [h1, h2, h3, h4, h5, Bool.false_eq_true, if_false]
      have H0 := Lib.hid h1
      have H1 := Lib.hid h2
      have H2 := Lib.hid h3
      have H3 := Lib.hid h4
      have H4 := Lib.hid h5
      clear h1 h2 h3 h4 h5
      go_enter Tryz.func142, Tryz.ntmps142
      go_wp2_with fail
      refine (hasPrefix_any s [38, 97, 109, 112, 59] w).mono ?_
      rintro e w1 ⟨rfl, rfl⟩
      rw [H0.out]
      go_wp2_with fail
      refine (hasPrefix_any s [38, 108, 116, 59] w).mono ?_
      rintro e w1 ⟨rfl, rfl⟩
      rw [H1.out]
      go_wp2_with fail
      refine (hasPrefix_any s [38, 103, 116, 59] w).mono ?_
      rintro e w1 ⟨rfl, rfl⟩
      rw [H2.out]
      go_wp2_with fail
      refine (hasPrefix_any s [38, 113, 117, 111, 116, 59] w).mono ?_
      rintro e w1 ⟨rfl, rfl⟩
      rw [H3.out]
      go_wp2_with fail
      refine (hasPrefix_any s [38, 35] w).mono ?_
      rintro e w1 ⟨rfl, rfl⟩
      rw [H4.out]
      go_wp2
      go_ret2
      exact one_ret HE.out rfl
     | true =>
      have HE := Lib.hid (esc1_num h1 h2 h3 h4 h5)
      have hl2 : 2 ≤ s.length := prefix_len h5
      have H0 := Lib.hid h1
      have H1 := Lib.hid h2
      have H2 := Lib.hid h3
      have H3 := Lib.hid h4
      have H4 := Lib.hid h5
      clear h1 h2 h3 h4 h5
      go_enter Tryz.func142, Tryz.ntmps142
      go_wp2_with fail
      refine (hasPrefix_any s [38, 97, 109, 112, 59] w).mono ?_
      rintro e w1 ⟨rfl, rfl⟩
      rw [H0.out]
      go_wp2_with fail
      refine (hasPrefix_any s [38, 108, 116, 59] w).mono ?_
      rintro e w1 ⟨rfl, rfl⟩
      rw [H1.out]
      go_wp2_with fail
      refine (hasPrefix_any s [38, 103, 116, 59] w).mono ?_
      rintro e w1 ⟨rfl, rfl⟩
      rw [H2.out]
      go_wp2_with fail
      refine (hasPrefix_any s [38, 113, 117, 111, 116, 59] w).mono ?_
      rintro e w1 ⟨rfl, rfl⟩
      rw [H3.out]
      go_wp2_with fail
      refine (hasPrefix_any s [38, 35] w).mono ?_
      rintro e w1 ⟨rfl, rfl⟩
      rw [H4.out]
      go_wp2
      clear H0 H1 H2 H3 H4
      go_loop [4, 5] (fun n i => ∃ j : Nat, j ≤ (digs s).length ∧ i = .int .i64 ((2 + j : Nat) : Int) ∧ n = .int .i64 (val ((digs s).take j) : Nat)) (fun _ i => 9 - (intOf i).toNat)
      case atStart => exact ⟨0, by omega, rfl, rfl⟩
      case round =>
       obtain ⟨j, hj, rfl, rfl⟩ := hrel
       obtain ⟨hd7, hdl⟩ := digs_le s
       have hdl := hdl hl2
       obtain ⟨i, hi⟩ : ∃ i, 2 + j = i := ⟨_, rfl⟩
       rw [hi]
       by_cases hlt : j < (digs s).length
       ·obtain ⟨q1, q2, q3, q4⟩ := digs_at s j hlt
        have hv0 := val_digs s j
        have hv1 : val ((digs s).take (j + 1)) = 10 * val ((digs s).take j) + ((digs s)[j].toNat - 48) := by rw [List.take_succ_eq_append_getElem hlt, val_snoc]
        have hv2 := val_digs s (j + 1)
        rw [q3] at hv1
        simp only [hi] at q1 q2 q4 hv1
        obtain ⟨d1, d2⟩ := dig_parts q4
        have hc48 : 48 ≤ s[i].toNat := by have := of_decide_eq_true d1; omega
        have hc57 : s[i].toNat ≤ 57 := by have := of_decide_eq_true d2; omega
        obtain ⟨n, hn⟩ : ∃ n, val ((digs s).take j) = n := ⟨_, rfl⟩
        rw [hn] at hv0 hv1 ⊢
        have b9 : decide ((i : Int) < 9) = true := by rw [decide_eq_true_iff]; omega
        have u1 : IntKind.u8.wrap ((s[i].toNat : Int) - 48) = (s[i].toNat : Int) - 48 := by simp [IntKind.wrap, IntKind.signed, IntKind.bits]; omega
        have HV := Lib.hid hv1
        clear hv1 hn q3 q4
        go_wp2
        go_round
        case rel => exact ⟨j + 1, by omega, by rw [← hi]; go_num, by rw [HV.out]; go_num⟩
        case measure => simp [intOf]; omega
       ·have hje : j = (digs s).length := by omega
        subst hje
        rw [List.take_length]
        have hv0 := val_digs s (digs s).length
        rw [List.take_length] at hv0
        have hend := digs_end s
        simp only [hi] at hend
        rw [hi] at HE
        obtain ⟨n, hn⟩ : ∃ n, val (digs s) = n := ⟨_, rfl⟩
        rw [hn] at hv0 HE ⊢
        clear hn
        by_cases hil : i < s.length
        ·have hg0 : s[i]? = some s[i] := List.getElem?_eq_getElem hil
         have h2l : 2 < s.length := by omega
         have g2 : s[2]? = some s[2] := List.getElem?_eq_getElem h2l
         rw [hg0, g2] at HE
         have eil : ((i : Int) == (s.length : Int)) = false := by rw [beq_eq_false_iff_ne]; omega
         have guard9 : decide ((i : Int) < 9) = false ∨ (decide ((i : Int) < 9) = true ∧ (decide (48 ≤ (s[i].toNat : Int)) = false ∨ (decide (48 ≤ (s[i].toNat : Int)) = true ∧ decide ((s[i].toNat : Int) ≤ 57) = false))) := by
          by_cases h9 : i < 9
          ·exact .inr ⟨by rw [decide_eq_true_iff]; omega, dig_not (hend hil h9)⟩
          ·exact .inl (by rw [decide_eq_false_iff_not]; omega)
         have hcase : (((i : Int) == 2) = true ∧ esc1 s = (0, 0)) ∨ (((i : Int) == 2) = false ∧ ((((s[i].toNat : Int) != 59) = true ∧ esc1 s = (0, 0)) ∨ (((s[i].toNat : Int) != 59) = false ∧
           ((((s[2].toNat : Int) == 48) = true ∧ decide ((3 : Int) < i) = true ∧ esc1 s = (0, 0)) ∨ ((((s[2].toNat : Int) == 48) = false ∨ (((s[2].toNat : Int) == 48) = true ∧ decide ((3 : Int) < i) = false)) ∧
            ((decide ((55296 : Int) ≤ n) = true ∧ decide ((n : Int) ≤ 57343) = true ∧ esc1 s = (0, 0)) ∨ ((decide ((55296 : Int) ≤ n) = false ∨ (decide ((55296 : Int) ≤ n) = true ∧ decide ((n : Int) ≤ 57343) = false)) ∧
             ((decide ((1114111 : Int) < n) = true ∧ esc1 s = (0, 0)) ∨ (decide ((1114111 : Int) < n) = false ∧ n ≤ 1114111 ∧ esc1 s = (n, i + 1)))))))))) := one_cases hil h2l HE.out
         clear hend hd7 hdl hi hj hlt hg0 g2 HE hv0
         rcases guard9 with g9 | ⟨g9, g48 | ⟨g48, g57⟩⟩
         all_goals rcases hcase with ⟨t1, hr⟩ | ⟨t1, ⟨t2, hr⟩ | ⟨t2, ⟨t3, t4, hr⟩ | ⟨t3 | ⟨t3, t4⟩, ⟨t5, t6, hr⟩ | ⟨t5 | ⟨t5, t6⟩, ⟨t7, hr⟩ | ⟨t7, hn2, hr⟩⟩⟩⟩⟩
         all_goals have HR := Lib.hid hr
         all_goals clear hr
         all_goals go_wp2
         all_goals go_ret2
         all_goals exact one_ret HR.out rfl
        ·have eil : ((i : Int) == (s.length : Int)) = true := by rw [beq_iff_eq]; omega
         have hnil : s[i]? = none := List.getElem?_eq_none (by omega)
         rw [hnil] at HE
         have HR : Hid (esc1 s = (0, 0)) := by show _ = _; rw [HE.out, if_pos (Or.inr (Or.inl (by simp)))]
         clear hend hd7 hdl hj hlt hnil HE hv0
         by_cases hi2 : i = 2
         ·have t1 : ((i : Int) == 2) = true := by rw [beq_iff_eq]; omega
          clear hi hi2
          go_wp2
          go_ret2
          exact one_ret HR.out rfl
         ·have t1 : ((i : Int) == 2) = false := by rw [beq_eq_false_iff_ne]; omega
          clear hi hi2
          go_wp2
          go_ret2
          exact one_ret HR.out rfl
end Go.Proofs.YtgkdaebiefhgdaaGreatDoor
namespace Go.Proofs.YtgkdaebiefhgdaaGreatDoor
open Go.RowKit Utf Tagp
open Feat (Bs)
attribute [local go_sem] byte_mk ByteArray.extract_mk
theorem enc_len (n : Nat) : (enc n).length ≤ 4 := by
 unfold enc
 rw [bytesOf_len]
 exact encode_size_le _
theorem enc_back (n : Nat) : Value.string (Utf8.encode (n : Int)) = str (enc n) := bytesOf_back _
theorem esc1_min (s : Bs) : (esc1 s).2 ≠ 0 → 4 ≤ (esc1 s).2 := by
 unfold esc1
 split
 ·simp
 ·split
  ·simp
  ·split
   ·simp
   ·split
    ·simp
    ·split
     ·simp only
      split
      ·simp
      ·rename_i k
       simp only [not_or] at k
       have := k.1
       simp only
       omega
     ·simp

def Une (s : Bs) (w : World) (e : Ending) (w' : World) : Prop := Below w.heap.size w w' ∧ e = .returned (.tuple #[str (unesc s).1, .int .i64 ((unesc s).2.1 : Nat), .int .i64 ((unesc s).2.2 : Nat)])
theorem une_ok {s v : Bs} {w w' : World} {e : Ending} (hb : Below w.heap.size w w') (h : un s 0 0 = .ok v) (he : e = .returned (.tuple #[str v, .int .i64 0, .int .i64 0])) : Une s w e w' := by
 unfold Une unesc; rw [h]; exact ⟨hb, he⟩
theorem une_bad {s : Bs} {i : Nat} {w w' : World} {e : Ending} (hb : Below w.heap.size w w') (h : un s 0 0 = .error i) (he : e = .returned (.tuple #[.string ⟨#[]⟩, .int .i64 (i : Nat), .int .i64 3])) : Une s w e w' := by
 unfold Une unesc; rw [h]; exact ⟨hb, he⟩

set_option maxRecDepth 100000 in
set_option maxHeartbeats 800000 in
theorem unescape_any (s : Bs) (hs : s.length ≤ 17592186044416) (w : World) : Calls Tryz.prog 97 #[str s] w (Une s w) := by
 obtain ⟨i0, hi0, hz0, hz1, hz2⟩ := info_parts info_u8
 go_enter Tryz.func97, Tryz.ntmps97
 go_wp2
 go_loopw [5, 6] (fun v iv wr => ∃ (i : Nat) (out : Bs), i ≤ s.length ∧ out.length ≤ i ∧ iv = .int .i64 i ∧ wr.ownsRow w.heap.size 5 1 v out.length (bys out) ∧ Below w.heap.size w wr ∧
   Hid (un s 0 0 = (un (s.drop i) 0 i).map (out ++ ·))) (fun _ iv _ => s.length - (intOf iv).toNat)
 case atStart => exact ⟨0, [], by omega, by simp, rfl, World.ownsRow_nil _ _ _ _, Below.refl _ _, by show _ = _; rw [List.drop_zero]; cases un s 0 0 <;> rfl⟩
 case round =>
  obtain ⟨i, out, hi, ho, rfl, hown, hB, hun⟩ := hrel
  have hlt2 := hown.lt
  by_cases hlt : i < s.length
  ·by_cases h38 : s[i] = 38
   ·have b1 : ((s[i].toNat : Int) != 38) = false := by rw [h38]; rfl
    have hex := one_any (s.drop i) (by rw [List.length_drop]; omega) wr
    have hsl : (s.drop i).take (s.length - i) = s.drop i := List.take_of_length_le (by rw [List.length_drop]; omega)
    have hl := esc1_len (s.drop i)
    rw [List.length_drop] at hl
    by_cases hn : (esc1 (s.drop i)).2 = 0
    ·have HU := Lib.hid (un_bad s i hlt h38 hn)
     unfold One at hex
     rw [hn] at hex
     obtain ⟨c, hc⟩ : ∃ c, (esc1 (s.drop i)).1 = c := ⟨_, rfl⟩
     rw [hc] at hex
     clear h38 hn hl hc
     go_wp2_with fail
     refine hex.mono ?_
     rintro e w1 ⟨rfl, rfl⟩
     go_wp2
     go_ret3
     exact une_bad hB (by rw [hun.out, HU.out]; rfl) rfl
    ·have hmin := esc1_min _ hn
     have HU := Lib.hid (un_esc s i hlt h38 hn)
     have eq0 : (((esc1 (s.drop i)).2 : Int) == 0) = false := by rw [beq_eq_false_iff_ne]; omega
     unfold One at hex
     obtain ⟨c, n, hcn⟩ : ∃ c n, esc1 (s.drop i) = (c, n) := ⟨_, _, rfl⟩
     rw [hcn] at hex HU hl hmin eq0
     simp only at hl hmin eq0
     have hel := enc_len c
     clear h38 hn hcn
     go_wp2_with fail
     refine hex.mono ?_
     rintro e w1 ⟨rfl, rfl⟩
     go_wp2_with (at_builtin; refine wpList_app_str rfl (.tmp 35) (.tmp 37) rfl w.heap.size _ _ _ rfl hown (enc c) (enc_back c) (by omega) hB.size ?_)
     intro v2 w2 own2 gr2
     have hB2 : Below w.heap.size w w2 := hB.grown gr2 hB.size (fun k hk => (hlt2 k hk).1)
     clear hown gr2 hB hex
     go_wp2
     go_roundw
     case rel => exact ⟨i + n, out ++ enc c, by omega, by rw [List.length_append]; omega, by go_num, own_move own2 rfl (by simp), hB2, by show _ = _; rw [hun.out, HU.out, map_map]; simp⟩
     case measure => simp [intOf]; omega
   ·have b1 : ((s[i].toNat : Int) != 38) = true := by rw [bne_iff_ne]; intro h; exact h38 (UInt8.toNat_inj.1 (by show _ = 38; omega))
    have HU := Lib.hid (un_at s i hlt h38)
    have hoa := hown.alloc (.cells #[.int .u8 (s[i].toNat : Nat)] 5)
    have hba := hB.alloc hB.size (.cells #[.int .u8 (s[i].toNat : Nat)] 5)
    clear h38
    go_wp2_with (at_builtin; refine wpList_append_own_at _ rfl (.tmp 17) (.tmp 21) _ rfl w.heap.size 5 i0 _ 1 1 Tryz.underlying79 hi0 hz0 hz1 hz2 rfl (by decide) _ _ _ rfl hoa ⟨wr.heap.size, 0, none⟩ 1 1 [.int .u8 (s[i].toNat : Nat)] rfl rfl ?c1 ?c2 ?c3 ?c4 ?c5 ?_)
    try (case c1 => exact news_new _ _ [_])
    try (case c2 => first | rfl | (intro u hu; simp at hu; subst hu; rfl))
    try (case c3 => simp [maxLen]; omega)
    try (case c4 => omega)
    try (case c5 => exact hba.size)
    intro v2 w2 own2 gr2 _ _
    have hB2 : Below w.heap.size w w2 := hba.grown gr2 hba.size (fun k hk => (hlt2 k hk).1)
    clear hown gr2 hB hoa hba
    go_wp2
    go_roundw
    case rel => exact ⟨i + 1, out ++ [s[i]], by omega, by rw [List.length_append]; simp; omega, by go_num, own_move own2 (by simp [bys]) (by simp), hB2, by show _ = _; rw [hun.out, HU.out, map_map]; simp⟩
    case measure => simp [intOf]; omega
  ·have hd : s.drop i = [] := List.drop_eq_nil_of_le (by omega)
   have hfin : Hid (un s 0 0 = .ok out) := by show _ = _; rw [hun.out, hd]; simp [Tagp.un, Except.map]
   have hbk := back_run rfl hown
   clear hd hun hown
   go_wp2
   go_ret3
   exact une_ok hB hfin.out rfl
end Go.Proofs.YtgkdaebiefhgdaaGreatDoor
namespace Go.Proofs.YtgkdaebiefhgdaaGreatDoor
open Go.RowKit Utf Tagp
open Feat (Bs)
attribute [local go_sem] byte_mk ByteArray.extract_mk
def AtS (w : World) (g : Nat) (s : Bs) (i : Nat) : Prop := Blk w g 143 #[str s, .int .i64 (i : Nat)]
theorem AtS.c0 {w : World} {g i : Nat} {s : Bs} (h : AtS w g s i) : w.cell? ⟨g, 0, none⟩ = some (str s) := (Blk.cell h 0).trans rfl
theorem AtS.c1 {w : World} {g i : Nat} {s : Bs} (h : AtS w g s i) : w.cell? ⟨g, 1, none⟩ = some (.int .i64 (i : Nat)) := (Blk.cell h 1).trans rfl

set_option maxHeartbeats 800000 in
theorem sees_any (s : Bs) (g i : Nat) (c : UInt8) (w : World) (hi : i ≤ s.length) (h : AtS w g s i) :
  Calls Tryz.prog 146 #[.pointer (some ⟨g, 0, none⟩), .int .u8 (c.toNat : Nat)] w (Drawn (.bool (s[i]? == some c)) w) := by
 have k0 := h.c0
 have k1 := h.c1
 by_cases hlt : i < s.length
 ·have he : s[i]? = some s[i] := List.getElem?_eq_getElem hlt
  have hc : ((s[i].toNat : Int) == (c.toNat : Int)) = (s[i]? == some c) := by
   rw [he, Bool.eq_iff_iff]; simp only [beq_iff_eq, Option.some.injEq]
   exact ⟨fun h => UInt8.toNat_inj.1 (by omega), fun h => by rw [h]⟩
  have HC := Lib.hid hc
  clear he hc
  go_enter Tryz.func146, Tryz.ntmps146
  go_wp2
  go_quiet (fail)
  go_wp2
  go_ret
  exact ⟨ret_bool HC.out, _, rfl⟩
 ·have he : Hid ((s[i]? == some c) = false) := by show _ = _; rw [List.getElem?_eq_none (by omega)]; rfl
  go_enter Tryz.func146, Tryz.ntmps146
  go_wp2
  go_quiet (fail)
  go_wp2
  go_ret
  exact ⟨ret_bool he.out.symm, _, rfl⟩
theorem AtS.drewN {w : World} {g i : Nat} {s : Bs} (h : AtS w g s i) (q : Nat) : AtS (w.drewN q) g s i := h
theorem AtS.move {w : World} {g i : Nat} {s : Bs} (h : AtS w g s i) (j : Nat) : AtS (w.setCell ⟨g, 1, none⟩ (.int .i64 (j : Nat))) g s j := Blk.set_ h 1 _
theorem AtS.free {w : World} {g i : Nat} {s : Bs} (h : AtS w g s i) (k : Nat) : w.frozen? ⟨g, k, none⟩ = false := Blk.free h k

def fault (p : Nat × Nat) : Ending := .panicked [{ v := .iface 140 (.agg #[.int .i64 (p.1 : Nat), .int .i64 (p.2 : Nat)]), recovered := false }]
def Scan {α : Type} (s : Bs) (g : Nat) (w : World) (r : R (α × Nat)) (val : α → Value → World → Prop) (e : Ending) (w' : World) : Prop :=
 w.grownBy w' (some g) ∧ match r with
  | .ok (a, j) => AtS w' g s j ∧ ∃ v, e = .returned v ∧ val a v w'
  | .error p => e = fault p

theorem grown_drewN {w : World} {row : Option Nat} (q : Nat) : w.grownBy (w.drewN q) row := ⟨rfl, rfl, rfl, Nat.le_refl _, fun _ _ _ => rfl⟩
theorem grown_move {w : World} {g : Nat} (v : Value) : w.grownBy (w.setCell ⟨g, 1, none⟩ v) (some g) := ⟨rfl, rfl, rfl, by simp, fun k _ hk => setCell_block (fun h => hk (by rw [h]))⟩

set_option maxHeartbeats 800000 in
theorem eat_any (s : Bs) (g i : Nat) (c : UInt8) (w : World) (hs : s.length ≤ 9223372036854775807) (hi : i ≤ s.length) (h : AtS w g s i) :
  Calls Tryz.prog 145 #[.pointer (some ⟨g, 0, none⟩), .int .u8 (c.toNat : Nat)] w
   (Scan s g w ((eatP s c i).map fun j => ((), j)) fun _ v _ => v = .tuple #[]) := by
 have k1 := h.c1
 have kf := h.free 1
 by_cases hc : s[i]? = some c
 ·have hs1 : Hid ((s[i]? == some c) = true) := by show _ = _; rw [hc]; simp
  have HE : Hid (eatP s c i = .ok (i + 1)) := by show _ = _; unfold eatP; rw [if_pos hc]
  have hlt : i < s.length := (List.getElem?_eq_some_iff.1 hc).1
  clear hc
  go_enter Tryz.func145, Tryz.ntmps145
  go_wp2_with fail
  refine (sees_any s g i c w hi h).mono ?_
  rintro e w1 ⟨rfl, q, rfl⟩
  rw [hs1.out]
  go_wp2
  go_end0
  rw [HE.out]
  exact ⟨(grown_drewN q).trans (grown_move _), (h.drewN q).move (i + 1), _, rfl, rfl⟩
 ·have hs1 : Hid ((s[i]? == some c) = false) := by show _ = _; simpa using hc
  have HE : Hid (eatP s c i = .error (i, 3)) := by show _ = _; unfold eatP; rw [if_neg hc]
  clear hc
  go_enter Tryz.func145, Tryz.ntmps145
  go_wp2_with fail
  refine (sees_any s g i c w hi h).mono ?_
  rintro e w1 ⟨rfl, q, rfl⟩
  rw [hs1.out]
  go_wp2
  refine ⟨rfl, grown_drewN q, ?_⟩
  rw [HE.out]
  rfl

theorem run_ge (p : UInt8 → Bool) (s : Bs) (i : Nat) : i ≤ run p s i := by unfold run; omega
theorem run_le (p : UInt8 → Bool) (s : Bs) (i : Nat) (hi : i ≤ s.length) : run p s i ≤ s.length := by
 unfold run
 have := (List.takeWhile_prefix p (l := s.drop i)).length_le
 rw [List.length_drop] at this
 omega
theorem run_step {p : UInt8 → Bool} {s : Bs} {i : Nat} (hi : i < s.length) (h : p s[i] = true) : run p s i = run p s (i + 1) := by
 unfold run
 rw [List.drop_eq_getElem_cons hi]
 simp only [List.takeWhile_cons, h, if_true, List.length_cons]
 omega
theorem run_stop {p : UInt8 → Bool} {s : Bs} {i : Nat} (hi : i < s.length) (h : p s[i] = false) : run p s i = i := by
 unfold run
 rw [List.drop_eq_getElem_cons hi, List.takeWhile_cons, if_neg (by rw [h]; simp)]
 rfl
theorem run_end (p : UInt8 → Bool) {s : Bs} {i : Nat} (hi : s.length ≤ i) : run p s i = i := by
 unfold run
 rw [List.drop_eq_nil_of_le hi]
 simp

theorem goesOn_is {c : UInt8} {b : Bool} (h : gon c = b) (w : World) : Calls Tryz.prog 150 #[.int .u8 (c.toNat : Nat)] w fun e w' => e = .returned (.bool b) ∧ w' = w := by
 subst h
 exact (goesOn_any c w).mono fun e w' h => ⟨h.1, h.2.symm⟩
set_option maxRecDepth 100000 in
set_option maxHeartbeats 1600000 in
theorem name_any (s : Bs) (g i : Nat) (w : World) (hs : s.length ≤ 9223372036854775807) (hi : i ≤ s.length) (h : AtS w g s i) :
  Calls Tryz.prog 147 #[.pointer (some ⟨g, 0, none⟩)] w (Scan s g w (nameP s i) fun n v _ => v = str n) := by
 have k0 := h.c0
 have k1 := h.c1
 by_cases hlt : i < s.length
 ·have he : s[i]? = some s[i] := List.getElem?_eq_getElem hlt
  have hne : ((i : Int) == (s.length : Int)) = false := by rw [beq_eq_false_iff_ne]; omega
  cases hb : beg s[i] with
  | false =>
   have HE : Hid (nameP s i = .error (i, 3)) := by show _ = _; unfold nameP; rw [he]; simp [hb]
   have HB := Lib.hid hb
   clear he hb
   go_enter Tryz.func147, Tryz.ntmps147
   go_wp2_with fail
   refine (begins_any s[i] w).mono ?_
   rintro e w1 ⟨rfl, rfl⟩
   rw [HB.out]
   go_wp2
   refine ⟨rfl, grown_drewN 0, ?_⟩
   rw [HE.out]
   rfl
  | true =>
   have HE : Hid (nameP s i = if 32 < run gon s i - i then .error (i, 2) else .ok ((s.drop i).take (run gon s i - i), run gon s i)) := by show _ = _; unfold nameP; rw [he]; simp [hb]
   have HB := Lib.hid hb
   clear he hb
   go_enter Tryz.func147, Tryz.ntmps147
   go_wp2_with fail
   refine (begins_any s[i] w).mono ?_
   rintro e w1 ⟨rfl, rfl⟩
   rw [HB.out]
   go_wp2
   go_loopw [54] (fun _ wr => ∃ j : Nat, i ≤ j ∧ j ≤ s.length ∧ w.grownBy wr (some g) ∧ AtS wr g s j ∧ Hid (run gon s i = run gon s j)) (fun _ wr => s.length - (intOf ((wr.cell? ⟨g, 1, none⟩).getD undef)).toNat)
   case atStart => exact ⟨i, Nat.le_refl _, hi, grown_drewN 0, h, rfl⟩
   case round =>
    obtain ⟨j, hij, hj, hg, hat, hrun⟩ := hrel
    have c0 := hat.c0
    have c1 := hat.c1
    have cf := hat.free 1
    by_cases hjl : j < s.length
    ·cases hgn : gon s[j] with
     | true =>
      have HR := Lib.hid (run_step (p := gon) hjl hgn)
      have HG := Lib.hid hgn
      clear hgn
      go_wp2
      go_quiet (exact Calls.quiet_of_same (goesOn_is HG.out _))
      go_wp2
      go_roundw
      case rel =>
       refine ⟨j + 1, by omega, by omega, hg.trans ((grown_drewN _).trans (grown_move _)), (hat.drewN _).move (j + 1), ?_⟩
       show _ = _
       rw [hrun.out, HR.out]
      case measure =>
       have e1 : ((wr.drewN nq).setCell ⟨g, 1, none⟩ (.int .i64 ((j : Int) + 1))).cell? ⟨g, 1, none⟩ = some (.int .i64 ((j + 1 : Nat) : Int)) := ((hat.drewN nq).move (j + 1)).c1
       rw [e1, c1]
       simp [intOf]
       omega
     | false =>
      have HR := Lib.hid (run_stop (p := gon) hjl hgn)
      have HG := Lib.hid hgn
      clear hgn
      by_cases h32 : 32 < j - i
      ·have hd : decide ((32 : Int) < (j : Int) - (i : Int)) = true := by rw [decide_eq_true_iff]; omega
       have HF : Hid (nameP s i = .error (i, 2)) := by show _ = _; rw [HE.out, hrun.out, HR.out, if_pos h32]
       clear h32
       go_wp2
       go_quiet (exact Calls.quiet_of_same (goesOn_is HG.out _))
       go_wp2
       refine ⟨rfl, hg.trans (grown_drewN _), ?_⟩
       rw [HF.out]
       rfl
      ·have hd : decide ((32 : Int) < (j : Int) - (i : Int)) = false := by rw [decide_eq_false_iff_not]; omega
       have HF : Hid (nameP s i = .ok ((s.drop i).take (j - i), j)) := by show _ = _; rw [HE.out, hrun.out, HR.out, if_neg h32]
       clear h32
       go_wp2
       go_quiet (exact Calls.quiet_of_same (goesOn_is HG.out _))
       go_wp2
       go_quiet (fail)
       go_wp2
       go_ret
       rw [HF.out]
       exact ⟨hg.trans ((grown_drewN _).trans (grown_drewN _)), (hat.drewN _).drewN _, _, rfl, rfl⟩
    ·have HR := Lib.hid (run_end gon (s := s) (i := j) (by omega))
     by_cases h32 : 32 < j - i
     ·have hd : decide ((32 : Int) < (j : Int) - (i : Int)) = true := by rw [decide_eq_true_iff]; omega
      have HF : Hid (nameP s i = .error (i, 2)) := by show _ = _; rw [HE.out, hrun.out, HR.out, if_pos h32]
      clear h32
      go_wp2
      go_quiet (fail)
      go_wp2
      refine ⟨rfl, hg.trans (grown_drewN _), ?_⟩
      rw [HF.out]
      rfl
     ·have hd : decide ((32 : Int) < (j : Int) - (i : Int)) = false := by rw [decide_eq_false_iff_not]; omega
      have HF : Hid (nameP s i = .ok ((s.drop i).take (j - i), j)) := by show _ = _; rw [HE.out, hrun.out, HR.out, if_neg h32]
      clear h32
      go_wp2
      go_quiet (fail)
      go_wp2
      go_quiet (fail)
      go_wp2
      go_ret
      rw [HF.out]
      exact ⟨hg.trans ((grown_drewN _).trans (grown_drewN _)), (hat.drewN _).drewN _, _, rfl, rfl⟩
 ·have he : s[i]? = none := List.getElem?_eq_none (by omega)
  have hne : ((i : Int) == (s.length : Int)) = true := by rw [beq_iff_eq]; omega
  have HE : Hid (nameP s i = .error (i, 3)) := by show _ = _; unfold nameP; rw [he]; rfl
  clear he
  go_enter Tryz.func147, Tryz.ntmps147
  go_wp2
  refine ⟨rfl, grown_drewN 0, ?_⟩
  rw [HE.out]
  rfl
end Go.Proofs.YtgkdaebiefhgdaaGreatDoor
namespace Go.Proofs.YtgkdaebiefhgdaaGreatDoor
open Go.RowKit Utf Tagp
open Feat (Bs)
attribute [local go_sem] byte_mk ByteArray.extract_mk
theorem grown_below {w w' : World} {row : Option Nat} (h : Below w.heap.size w w') : w.grownBy w' row := ⟨h.os, h.tape, h.output, h.size, fun k hk _ => h.block k hk⟩
theorem grown_drew {w : World} {row : Option Nat} : w.grownBy w.drew row := ⟨rfl, rfl, rfl, Nat.le_refl _, fun _ _ _ => rfl⟩
theorem AtS.below {w w' : World} {g i : Nat} {s : Bs} (h : AtS w g s i) (hb : Below w.heap.size w w') : AtS w' g s i := (hb.block g (Blk.lt h)).trans h
theorem ch_of (c : UInt8) (n : UInt8) : ((c.toNat : Int) != (n.toNat : Int)) = (c != n) := by
 rw [Bool.eq_iff_iff]; simp only [bne_iff_ne]
 exact ⟨fun h e => h (by rw [e]), fun h e => h (UInt8.toNat_inj.1 (by omega))⟩
theorem plain_cases (c : UInt8) : (plainCh c = true ∧ ((c.toNat : Int) != 34) = true ∧ ((c.toNat : Int) != 60) = true ∧ ((c.toNat : Int) != 62) = true) ∨
  (plainCh c = false ∧ (((c.toNat : Int) != 34) = false ∨ (((c.toNat : Int) != 34) = true ∧ (((c.toNat : Int) != 60) = false ∨ (((c.toNat : Int) != 60) = true ∧ ((c.toNat : Int) != 62) = false))))) := by
 have h1 := ch_of c 34
 have h2 := ch_of c 60
 have h3 := ch_of c 62
 have e1 : ((34 : UInt8).toNat : Int) = 34 := rfl
 have e2 : ((60 : UInt8).toNat : Int) = 60 := rfl
 have e3 : ((62 : UInt8).toNat : Int) = 62 := rfl
 rw [e1] at h1
 rw [e2] at h2
 rw [e3] at h3
 unfold plainCh
 rw [h1, h2, h3]
 cases (c != 34) <;> cases (c != 60) <;> cases (c != 62) <;> simp

theorem unl_len : ∀ (s : Bs) (k i : Nat) (v : Bs), k ≤ s.length → Tagp.un s k i = .ok v → v.length + k ≤ s.length
 | [], k, i, v, hk, h => by simp [Tagp.un] at h; subst h; simpa using hk
 | c :: r, k + 1, i, v, hk, h => by
  rw [Tagp.un] at h
  have := unl_len r k (i + 1) v (by simpa using hk) h
  simp; omega
 | c :: r, 0, i, v, hk, h => by
  rw [Tagp.un] at h
  split at h
  ·split at h
   ·cases h
   ·rename_i hn
    have hm := esc1_min _ hn
    have hl := esc1_len (c :: r)
    simp only [List.length_cons] at hl
    cases hu : Tagp.un r ((esc1 (c :: r)).2 - 1) (i + 1) with
    | error p => rw [hu] at h; cases h
    | ok v' =>
     rw [hu] at h
     have hv := unl_len r _ (i + 1) v' (by omega) hu
     have he := enc_len (esc1 (c :: r)).1
     have hvv : enc (esc1 (c :: r)).1 ++ v' = v := Except.ok.inj h
     rw [← hvv, List.length_append, List.length_cons]
     omega
  ·cases hu : Tagp.un r 0 (i + 1) with
   | error p => rw [hu] at h; cases h
   | ok v' =>
    rw [hu] at h
    have hv := unl_len r 0 (i + 1) v' (by omega) hu
    have hvv : c :: v' = v := by cases h; rfl
    rw [← hvv]
    simp; omega
theorem unl_err : ∀ (s : Bs) (k i p : Nat), Tagp.un s k i = .error p → p < i + s.length
 | [], k, i, p, h => by simp [Tagp.un] at h
 | c :: r, k + 1, i, p, h => by
  rw [Tagp.un] at h
  have := unl_err r k (i + 1) p h
  simp; omega
 | c :: r, 0, i, p, h => by
  rw [Tagp.un] at h
  split at h
  ·split at h
   ·cases h; simp
   ·cases hu : Tagp.un r ((esc1 (c :: r)).2 - 1) (i + 1) with
    | error q =>
     rw [hu] at h
     have hq : q = p := by cases h; rfl
     subst hq
     have := unl_err r _ (i + 1) q hu
     simp; omega
    | ok v' => rw [hu] at h; cases h
  ·cases hu : Tagp.un r 0 (i + 1) with
   | error q =>
    rw [hu] at h
    have hq : q = p := by cases h; rfl
    subst hq
    have := unl_err r 0 (i + 1) q hu
    simp; omega
   | ok v' => rw [hu] at h; cases h
theorem unesc_len (s : Bs) : (unesc s).1.length ≤ s.length ∧ (unesc s).2.1 ≤ s.length := by
 unfold unesc
 cases h : Tagp.un s 0 0 with
 | ok v => exact ⟨unl_len s 0 0 v (by omega) h, by simp⟩
 | error p => have := unl_err s 0 0 p h; exact ⟨by simp, by simp only; omega⟩

set_option maxRecDepth 100000 in
set_option maxHeartbeats 3200000 in
theorem value_scan (s : Bs) (g i : Nat) (w : World) (hs : s.length ≤ 17592186044416) (hi : i ≤ s.length) (h : AtS w g s i) :
  Calls Tryz.prog 161 #[.pointer (some ⟨g, 0, none⟩)] w (Scan s g w (valueP s i) fun n v _ => v = str n) := by
 have k1 := h.c1
 have hJ := run_le plainCh s i hi
 have hJi := run_ge plainCh s i
 have HE : Hid (valueP s i = match eatP s 34 (run plainCh s i) with
  | .error e => .error e
  | .ok j => match unesc ((s.drop i).take (run plainCh s i - i)) with
   | (v, at', e) => if e ≠ 0 then .error (i + at', e) else if vErr v ≠ 0 then .error (i, vErr v) else .ok (v, j)) := rfl
 go_enter Tryz.func161, Tryz.ntmps161
 go_wp2
 go_loopw [62] (fun _ wr => ∃ j : Nat, i ≤ j ∧ j ≤ s.length ∧ w.grownBy wr (some g) ∧ AtS wr g s j ∧ Hid (run plainCh s i = run plainCh s j)) (fun _ wr => s.length - (intOf ((wr.cell? ⟨g, 1, none⟩).getD undef)).toNat)
 case atStart => exact ⟨i, Nat.le_refl _, hi, grown_drewN 0, h, rfl⟩
 case round =>
  obtain ⟨j, hij, hj, hg, hat, hrun⟩ := hrel
  have c0 := hat.c0
  have c1 := hat.c1
  have cf := hat.free 1
  by_cases hjl : j < s.length
  ·rcases plain_cases s[j] with ⟨hp, b1, b2, b3⟩ | ⟨hp, hb⟩
   ·have HR := Lib.hid (run_step (p := plainCh) hjl hp)
    clear hp
    go_wp2
    go_quiet (fail)
    go_wp2
    go_roundw
    case rel =>
     refine ⟨j + 1, by omega, by omega, hg.trans ((grown_drewN _).trans (grown_move _)), (hat.drewN _).move (j + 1), ?_⟩
     show _ = _
     rw [hrun.out, HR.out]
    case measure =>
     have e1 : ((wr.drewN nq).setCell ⟨g, 1, none⟩ (.int .i64 ((j : Int) + 1))).cell? ⟨g, 1, none⟩ = some (.int .i64 ((j + 1 : Nat) : Int)) := ((hat.drewN nq).move (j + 1)).c1
     rw [e1, c1]
     simp [intOf]
     omega
   ·have HR := Lib.hid (run_stop (p := plainCh) hjl hp)
    clear hp
    rcases hb with b1 | ⟨b1, b2 | ⟨b2, b3⟩⟩
    all_goals go_wp2
    all_goals go_quiet (fail)
    all_goals go_wp2_with fail
    all_goals refine (eat_any s g j 34 _ (by omega) hj (hat.drewN nq)).mono ?_
    all_goals rintro e w2 ⟨hg2, hm⟩
    all_goals have hg3 := hg.trans ((grown_drewN nq).trans hg2)
    all_goals cases hE : eatP s 34 j with
     | error p =>
      rw [hE] at hm
      simp only [Except.map] at hm
      subst hm
      have HF : Hid (valueP s i = .error p) := by show _ = _; rw [HE.out, hrun.out, HR.out, hE]
      clear hE
      unfold fault
      go_wp2
      refine ⟨rfl, hg3, ?_⟩
      rw [HF.out]
      rfl
     | ok J =>
      rw [hE] at hm
      simp only [Except.map] at hm
      obtain ⟨hat2, v, rfl, rfl⟩ := hm
      have hJe : J = j + 1 := by unfold eatP at hE; split at hE <;> cases hE; rfl
      subst hJe
      have HF : Hid (valueP s i = match unesc ((s.drop i).take (j - i)) with | (v, at', e) => if e ≠ 0 then .error (i + at', e) else if vErr v ≠ 0 then .error (i, vErr v) else .ok (v, j + 1)) := by show _ = _; rw [HE.out, hrun.out, HR.out, hE]
      clear hE
      have c0' := hat2.c0
      have c1' := hat2.c1
      have hul := unesc_len ((s.drop i).take (j - i))
      have hcl : ((s.drop i).take (j - i)).length ≤ s.length := by rw [List.length_take, List.length_drop]; omega
      have hexU := fun W => unescape_any ((s.drop i).take (j - i)) (by omega) W
      unfold Une at hexU
      obtain ⟨v, a', e', hu⟩ : ∃ v a' e', unesc ((s.drop i).take (j - i)) = (v, a', e') := ⟨_, _, _, rfl⟩
      rw [hu] at hexU HF hul
      simp only at hexU hul
      have hwj : IntKind.i64.wrap (j : Int) = (j : Int) := IntWalk.i64_in _ (by omega)
      have hbd : (0 : Int) ≤ (i : Int) ∧ (i : Int) ≤ (j : Int) ∧ (j : Int) ≤ (s.length : Int) := by omega
      have haw : IntKind.i64.wrap ((i : Int) + a') = ((i + a' : Nat) : Int) := by rw [IntWalk.i64_in _ (by omega)]; omega
      have hvl : v.length ≤ 9223372036854775807 := by omega
      clear hu hul hcl
      go_wp2
      go_region_law (go_simp; refine (hexU _).mono ?_; rintro e w3 ⟨hb3, rfl⟩; go_simp)
      all_goals
       have hgr := hg3.trans (grown_drew.trans (grown_below hb3))
       have hat3 : AtS w3 g s (j + 1) := AtS.below (w := w2.drew) hat2 hb3
       by_cases h0 : e' = 0
       ·have q0 : ((e' : Int) != 0) = false := by rw [h0]; rfl
        have hex := value_any v hvl
        by_cases h1 : vErr v = 0
        ·have E : Hid ((vErr v : Int) = 0) := by show _ = _; rw [h1]; rfl
         have HF2 : Hid (valueP s i = .ok (v, j + 1)) := by show _ = _; rw [HF.out]; simp [h0, h1]
         clear h0 h1
         go_wp2_with fail
         refine (hex _).mono ?_
         rintro e w4 ⟨rfl, hb4⟩
         rw [E.out]
         go_wp2
         go_ret
         rw [HF2.out]
         exact ⟨hgr.trans (grown_below hb4), hat3.below hb4, _, rfl, rfl⟩
        ·have E : ((vErr v : Int) != 0) = true := by rw [bne_iff_ne]; omega
         have HF2 : Hid (valueP s i = .error (i, vErr v)) := by show _ = _; rw [HF.out]; simp [h0, h1]
         clear h0 h1
         go_wp2_with fail
         refine (hex _).mono ?_
         rintro e w4 ⟨rfl, hb4⟩
         go_wp2
         refine ⟨rfl, hgr.trans (grown_below hb4), ?_⟩
         rw [HF2.out]
         rfl
       ·have q0 : ((e' : Int) != 0) = true := by rw [bne_iff_ne]; omega
        have HF2 : Hid (valueP s i = .error (i + a', e')) := by show _ = _; rw [HF.out]; simp [h0]
        clear h0
        go_wp2
        refine ⟨rfl, hgr, ?_⟩
        rw [HF2.out]
        rfl
  ·have HR := Lib.hid (run_end plainCh (s := s) (i := j) (by omega))
   have hE : eatP s 34 j = .error (j, 3) := by unfold eatP; rw [List.getElem?_eq_none (by omega)]; simp
   have HF : Hid (valueP s i = .error (j, 3)) := by show _ = _; rw [HE.out, hrun.out, HR.out, hE]
   go_wp2
   go_quiet (fail)
   go_wp2_with fail
   refine (eat_any s g j 34 _ (by omega) hj (hat.drewN nq)).mono ?_
   rintro e w2 ⟨hg2, hm⟩
   rw [hE] at hm
   simp only [Except.map] at hm
   subst hm
   clear hE
   unfold fault
   go_wp2
   refine ⟨rfl, hg.trans ((grown_drewN nq).trans hg2), ?_⟩
   rw [HF.out]
   rfl
end Go.Proofs.YtgkdaebiefhgdaaGreatDoor
namespace Go.Proofs.YtgkdaebiefhgdaaGreatDoor
open Go.RowKit Utf Tagp
open Feat (Bs)
attribute [local go_sem] byte_mk ByteArray.extract_mk
def prs (l : List KV) : List Value := l.flatMap fun p => [str p.1, str p.2]
theorem prs_len (l : List KV) : (prs l).length = l.length * 2 := by
 induction l with
 | nil => rfl
 | cons x r ih => simp only [prs, List.flatMap_cons, List.length_append, List.length_cons, List.length_nil] at ih ⊢; omega
theorem prs_append (l m : List KV) : prs (l ++ m) = prs l ++ prs m := by simp [prs]
theorem prs_at : ∀ (l : List KV) (k : Nat) (hk : k < l.length), (prs l)[k * 2]? = some (str l[k].1) ∧ (prs l)[k * 2 + 1]? = some (str l[k].2)
 | [], k, hk => by simp at hk
 | x :: r, 0, _ => by simp [prs]
 | x :: r, k + 1, hk => by
  have := prs_at r k (by simpa using hk)
  simp only [prs, List.flatMap_cons, List.getElem_cons_succ] at this ⊢
  rw [show (k + 1) * 2 = k * 2 + 2 by omega]
  simpa using this
theorem sl_pair {w : World} {B n k : Nat} {A : Option Addr} {l : List KV} (h : Sl w B 2 A n (prs l)) (hk : k < n) :
  ∃ g o, ∃ hk : k < l.length, A = some ⟨g, o, none⟩ ∧ g < B ∧ w.cell? ⟨g, o + k * 2, none⟩ = some (str l[k].1) ∧ w.cell? ⟨g, o + k * 2 + 1, none⟩ = some (str l[k].2) := by
 obtain ⟨h1, h2⟩ := h
 rw [prs_len] at h1
 obtain ⟨g, o, e, hb, hc⟩ := h2 (by rw [prs_len]; omega)
 have hkl : k < l.length := by omega
 obtain ⟨p1, p2⟩ := prs_at l k hkl
 exact ⟨g, o, hkl, e, hb, hc _ _ p1, hc _ _ p2⟩
theorem hasK_step {l : List KV} {n : Bs} {k : Nat} (hk : k < l.length) : hasK (l.take (k + 1)) n = (hasK (l.take k) n || l[k].1 == n) := by
 unfold hasK
 rw [List.take_succ_eq_append_getElem hk, List.any_append]
 simp

set_option maxHeartbeats 800000 in
theorem has_any (A : Option Addr) (n c : Nat) (l : List KV) (f : Bs) (w : World) (hn : n ≤ 9223372036854775807) (h : Sl w w.heap.size 2 A n (prs l)) :
  Calls Tryz.prog 152 #[.slice A n c, str f] w (fun e w' => e = .returned (.bool (hasK l f)) ∧ Below w.heap.size w w') := by
 have hl : l.length = n := by have := h.1; rw [prs_len] at this; omega
 go_enter Tryz.func152, Tryz.ntmps152
 go_wp2
 go_loopw [9] (fun i wr => ∃ k : Nat, k ≤ n ∧ i = .int .i64 k ∧ Below w.heap.size w wr ∧ Hid (hasK (l.take k) f = false)) (fun i _ => n - (intOf i).toNat)
 case atStart => exact ⟨0, by omega, rfl, Below.refl _ _, rfl⟩
 case round =>
  obtain ⟨k, hk, rfl, hB, hno⟩ := hrel
  by_cases hlt : k < n
  ·obtain ⟨g, o, hk', rfl, hg, c0, c1⟩ := sl_pair (h.under hB) hlt
   have hs := Lib.hid (hasK_step (n := f) hk')
   go_wp2
   ·have hx : (l[k].1 == f) = true := by assumption
    go_ret
    refine ⟨ret_bool ?_, hB.alloc hB.size _⟩
    symm
    unfold hasK
    exact List.any_eq_true.2 ⟨_, List.getElem_mem hk', hx⟩
   ·have hx : (l[k].1 == f) = false := by assumption
    go_roundw
    case rel => exact ⟨k + 1, by omega, by go_num, hB.alloc hB.size _, by show _ = _; rw [hs.out, hno.out, hx]; rfl⟩
    case measure => simp [intOf]; omega
  ·have hf : Hid (hasK l f = false) := by show _ = _; rw [← hno.out, List.take_of_length_le (by omega)]
   go_wp2
   go_ret
   exact ⟨ret_bool hf.out.symm, hB⟩
end Go.Proofs.YtgkdaebiefhgdaaGreatDoor
namespace Go.Proofs.YtgkdaebiefhgdaaGreatDoor
open Go.RowKit Utf Tagp
open Feat (Bs)
attribute [local go_sem] byte_mk ByteArray.extract_mk
theorem nameP_le {s : Bs} {i j : Nat} {n : Bs} (hi : i ≤ s.length) (h : nameP s i = .ok (n, j)) : j ≤ s.length ∧ i ≤ j := by
 unfold nameP at h
 split at h
 ·split at h
  ·cases h
  ·cases h; exact ⟨run_le gon s i hi, run_ge gon s i⟩
 ·cases h
theorem eatP_le {s : Bs} {c : UInt8} {i j : Nat} (h : eatP s c i = .ok j) : j ≤ s.length ∧ j = i + 1 := by
 unfold eatP at h
 split at h
 ·rename_i hc
  have := (List.getElem?_eq_some_iff.1 hc).1
  cases h; exact ⟨this, rfl⟩
 ·cases h
theorem size_pair : (Tryz.prog.info? 84).map (·.size) = some (#[str [], str []] : Array Value).size := by kernel_rfl
theorem grown_two {w w1 w2 : World} {row : Option Nat} (h : w.grownBy w1 row) (h1 : w2.os = w1.os) (h2 : w2.tape = w1.tape) (h3 : w2.output = w1.output) (h4 : w1.heap.size ≤ w2.heap.size) (h5 : ∀ k, k < w.heap.size → w2.heap[k]? = w1.heap[k]?) : w.grownBy w2 row :=
 ⟨h1.trans h.os, h2.trans h.tape, h3.trans h.output, Nat.le_trans h.size h4, fun k hk hr => (h5 k hk).trans (h.block k hk hr)⟩
set_option maxRecDepth 100000 in
set_option maxHeartbeats 1600000 in
theorem key_scan (s : Bs) (g i : Nat) (w : World) (A : Option Addr) (n c : Nat) (l : List KV) (hs : s.length ≤ 17592186044416) (hi : i ≤ s.length) (h : AtS w g s i) (hl8 : l.length ≤ 8) (hsl : Sl w w.heap.size 2 A n (prs l))
  (hne : ∀ ga o, A = some ⟨ga, o, none⟩ → ga ≠ g) :
  Calls Tryz.prog 148 #[.pointer (some ⟨g, 0, none⟩), .slice A n c] w (Scan s g w (keyP s l i) fun p v _ => v = .agg #[str p.1, str p.2]) := by
 have hln : l.length = n := by have := hsl.1; rw [prs_len] at this; omega
 have hgl : g < w.heap.size := Blk.lt h
 have hal : ∀ o, AtS (w.alloc o) g s i := fun o => h.below ((Below.refl _ w).alloc (Nat.le_refl _) o)
 have k1 := fun o => (hal o).c1
 have HE : Hid (keyP s l i = match nameP s i with
  | .error e => .error e
  | .ok (n, j) =>
   if hasK l n = true then .error (i, 5)
   else if l.length = 8 then .error (i, 2)
   else match eatP s 61 j with
   | .error e => .error e
   | .ok j => match eatP s 34 j with
    | .error e => .error e
    | .ok j => match valueP s j with
     | .error e => .error e
     | .ok (v, j) => .ok ((n, v), j)) := rfl
 go_enter Tryz.func148, Tryz.ntmps148
 go_wp2_with fail
 refine (name_any s g i _ (by omega) hi (hal _)).mono ?_
 rintro e w1 ⟨hg1, hm⟩
 have hgw : w.grownBy w1 (some g) := (grown_alloc _).trans hg1
 have hres1 := (Blk.new w 84 #[str [], str []]).grown hg1 (by omega)
 clear hal k1
 cases hN : nameP s i with
 | error p =>
  rw [hN] at hm
  simp only at hm
  subst hm
  have HF : Hid (keyP s l i = .error p) := by show _ = _; rw [HE.out, hN]
  clear hN
  unfold fault
  go_wp2
  refine ⟨rfl, hgw, ?_⟩
  rw [HF.out]
  rfl
 | ok q =>
  obtain ⟨nm, j⟩ := q
  rw [hN] at hm
  simp only at hm
  obtain ⟨hat1, v, rfl, rfl⟩ := hm
  obtain ⟨hjs, hij⟩ := nameP_le hi hN
  have HF := Lib.hid (HE.out.trans (by rw [hN]))
  clear hN HE
  simp only at HF
  have hsl1 : Sl w1 w1.heap.size 2 A n (prs l) := (hsl.grown (Nat.le_refl _) hgw hne).up hgw.size
  go_wp2_with fail
  refine (has_any A n c l nm _ (by omega) hsl1).mono ?_
  rintro e w2 ⟨rfl, hb2⟩
  have hgw2 := hgw.trans (grown_below hb2)
  have hat2 := hat1.below hb2
  have hres2 := hres1.below hb2
  cases hH : hasK l nm with
  | true =>
   have HF2 := Lib.hid (HF.out.trans (by rw [if_pos hH]))
   clear hH
   go_wp2
   refine ⟨rfl, hgw2, ?_⟩
   rw [HF2.out]
   rfl
  | false =>
   have HF2 := Lib.hid (HF.out.trans (by rw [if_neg (by rw [hH]; simp)]))
   clear hH HF
   by_cases h8 : l.length = 8
   ·have hd : ((n : Int) == 8) = true := by rw [beq_iff_eq]; omega
    have HF3 := Lib.hid (HF2.out.trans (by rw [if_pos h8]))
    clear h8
    go_wp2
    refine ⟨rfl, hgw2, ?_⟩
    rw [HF3.out]
    rfl
   ·have hd : ((n : Int) == 8) = false := by rw [beq_eq_false_iff_ne]; omega
    have HF3 := Lib.hid (HF2.out.trans (by rw [if_neg h8]))
    clear h8 HF2
    go_wp2_with fail
    refine (eat_any s g j 61 _ (by omega) hjs hat2).mono ?_
    rintro e w3 ⟨hg3, hm⟩
    have hgw3 := hgw2.trans hg3
    have hres3 := hres2.grown hg3 (by omega)
    cases hE : eatP s 61 j with
    | error p =>
     rw [hE] at hm
     simp only [Except.map] at hm
     subst hm
     have HF4 : Hid (keyP s l i = .error p) := by show _ = _; rw [HF3.out, hE]
     clear hE
     unfold fault
     go_wp2
     refine ⟨rfl, hgw3, ?_⟩
     rw [HF4.out]
     rfl
    | ok J =>
     rw [hE] at hm
     simp only [Except.map] at hm
     obtain ⟨hat3, v, rfl, rfl⟩ := hm
     obtain ⟨hJs, -⟩ := eatP_le hE
     have HF4 := Lib.hid (HF3.out.trans (by rw [hE]))
     clear hE HF3
     simp only at HF4
     go_wp2_with fail
     refine (eat_any s g J 34 _ (by omega) hJs hat3).mono ?_
     rintro e w4 ⟨hg4, hm⟩
     have hgw4 := hgw3.trans hg4
     have hres4 := hres3.grown hg4 (by omega)
     cases hE : eatP s 34 J with
     | error p =>
      rw [hE] at hm
      simp only [Except.map] at hm
      subst hm
      have HF5 : Hid (keyP s l i = .error p) := by show _ = _; rw [HF4.out, hE]
      clear hE
      unfold fault
      go_wp2
      refine ⟨rfl, hgw4, ?_⟩
      rw [HF5.out]
      rfl
     | ok K =>
      rw [hE] at hm
      simp only [Except.map] at hm
      obtain ⟨hat4, v, rfl, rfl⟩ := hm
      obtain ⟨hKs, -⟩ := eatP_le hE
      have HF5 := Lib.hid (HF4.out.trans (by rw [hE]))
      clear hE HF4
      simp only at HF5
      go_wp2_with fail
      refine (value_scan s g K _ hs hKs hat4).mono ?_
      rintro e w5 ⟨hg5, hm⟩
      have hgw5 := hgw4.trans hg5
      have hres5 := hres4.grown hg5 (by omega)
      cases hE : valueP s K with
      | error p =>
       rw [hE] at hm
       simp only at hm
       subst hm
       have HF6 : Hid (keyP s l i = .error p) := by show _ = _; rw [HF5.out, hE]
       clear hE
       unfold fault
       go_wp2
       refine ⟨rfl, hgw5, ?_⟩
       rw [HF6.out]
       rfl
      | ok q =>
       obtain ⟨vl, L⟩ := q
       rw [hE] at hm
       simp only at hm
       obtain ⟨hat5, v, rfl, rfl⟩ := hm
       have HF6 : Hid (keyP s l i = .ok ((nm, vl), L)) := by show _ = _; rw [HF5.out, hE]
       clear hE HF5
       have r0 := hres5.cell 0
       have r1 := hres5.cell 1
       have f0 := hres5.free 0
       have f1 := hres5.free 1
       have blk6 : Blk ((w5.setCell ⟨w.heap.size, 0, none⟩ (str nm)).setCell ⟨w.heap.size, 1, none⟩ (str vl)) w.heap.size 84 #[str nm, str vl] := (hres5.set_ 0 _).set_ 1 _
       have hgw6 := grown_two hgw5 (w2 := (w5.setCell ⟨w.heap.size, 0, none⟩ (str nm)).setCell ⟨w.heap.size, 1, none⟩ (str vl)) rfl rfl rfl (by simp) (fun k hk => (setCell_block (by show k ≠ w.heap.size; omega)).trans (setCell_block (by show k ≠ w.heap.size; omega)))
       have hat6 : AtS ((w5.setCell ⟨w.heap.size, 0, none⟩ (str nm)).setCell ⟨w.heap.size, 1, none⟩ (str vl)) g s L := ((setCell_block (by show g ≠ w.heap.size; omega)).trans (setCell_block (by show g ≠ w.heap.size; omega))).trans hat5
       go_wp2
       refine bodyPost_ret (results_cell_row rfl _ _ _ _ _ _ _ rfl blk6 Tryz.underlying84 rfl size_pair) rfl ?_
       rw [HF6.out]
       exact ⟨hgw6, hat6, _, rfl, rfl⟩
end Go.Proofs.YtgkdaebiefhgdaaGreatDoor
namespace Go.Proofs.YtgkdaebiefhgdaaGreatDoor.Tagp
open Utf
open Feat (Bs lt lt_irrefl lt_trans lt_tri lt_asymm)
def Up (l : List KV) : Prop := l.Pairwise fun a b => lt b.1 a.1 = false
theorem lt_of_lt_le {a b c : Bs} (h : lt a b = true) (k : lt c b = false) : lt a c = true := by
 rcases lt_tri b c with e | e | e
 ·exact lt_trans h e
 ·rw [← e]; exact h
 ·rw [e] at k; cases k
theorem mem_insP {p x : KV} : ∀ {l : List KV}, x ∈ insP p l → x = p ∨ x ∈ l
 | [], h => by simp [insP] at h; exact .inl h
 | q :: r, h => by
  unfold insP at h
  split at h
  ·simpa using h
  ·rcases List.mem_cons.1 h with e | e
   ·exact .inr (by rw [e]; exact List.mem_cons_self)
   ·rcases mem_insP e with e | e
    ·exact .inl e
    ·exact .inr (List.mem_cons_of_mem _ e)
theorem insP_up (p : KV) : ∀ (l : List KV), Up l → Up (insP p l)
 | [], _ => by simp [insP, Up]
 | q :: r, h => by
  have h' := List.pairwise_cons.1 h
  unfold insP
  split
  ·rename_i hlt
   refine List.pairwise_cons.2 ⟨fun x hx => ?_, h⟩
   rcases List.mem_cons.1 hx with e | e
   ·rw [e]; exact lt_asymm hlt
   ·exact lt_asymm (lt_of_lt_le hlt (h'.1 x e))
  ·rename_i hlt
   refine List.pairwise_cons.2 ⟨fun x hx => ?_, insP_up p r h'.2⟩
   rcases mem_insP hx with e | e
   ·rw [e]; simpa using hlt
   ·exact h'.1 x e
theorem sortP_snoc (l : List KV) (p : KV) : sortP (l ++ [p]) = insP p (sortP l) := by simp [sortP]
theorem sortP_take (l : List KV) (k : Nat) (hk : k < l.length) : sortP (l.take (k + 1)) = insP l[k] (sortP (l.take k)) := by
 rw [List.take_succ_eq_append_getElem hk, sortP_snoc]
theorem foldl_up : ∀ (l m : List KV), Up m → Up (l.foldl (fun m p => insP p m) m)
 | [], _, h => h
 | p :: r, m, h => foldl_up r _ (insP_up p m h)
theorem sortP_up (l : List KV) : Up (sortP l) := foldl_up l [] (by simp [Up])
theorem insP_len (p : KV) : ∀ (l : List KV), (insP p l).length = l.length + 1
 | [] => rfl
 | q :: r => by unfold insP; split <;> simp [insP_len p r]
theorem foldl_len : ∀ (l m : List KV), (l.foldl (fun m p => insP p m) m).length = m.length + l.length
 | [], _ => rfl
 | p :: r, m => by simp only [List.foldl_cons, foldl_len r, insP_len, List.length_cons]; omega
theorem sortP_len (l : List KV) : (sortP l).length = l.length := by unfold sortP; rw [foldl_len]; simp
theorem insP_place (p : KV) : ∀ (l : List KV) (i : Nat), i ≤ l.length → (∀ j (hj : j < l.length), j < i → lt p.1 l[j].1 = false) → (∀ hi : i < l.length, lt p.1 l[i].1 = true) →
  insP p l = l.take i ++ p :: l.drop i
 | [], i, h, _, _ => by have : i = 0 := by simpa using h
                        subst this; rfl
 | q :: r, 0, _, _, h => by
  have := h (by simp)
  simp only [List.getElem_cons_zero] at this
  unfold insP
  rw [if_pos this]
  simp
 | q :: r, i + 1, h, hlo, hhi => by
  have := hlo 0 (by simp) (by omega)
  simp only [List.getElem_cons_zero] at this
  unfold insP
  rw [if_neg (by rw [this]; simp), insP_place p r i (by simpa using h) (fun j hj hji => hlo (j + 1) (by simpa using hj) (by omega)) (fun hi => hhi (by simpa using hi))]
  simp
theorem insP_right (p : KV) (l : List KV) (hl : Up l) (i : Nat) (hi : i ≤ l.length) (hhi : ∀ j (hj : j < l.length), i ≤ j → lt p.1 l[j].1 = true) (hlo : ∀ (h0 : 0 < i), lt p.1 (l[i - 1]'(by omega)).1 = false) :
  insP p l = l.take i ++ p :: l.drop i := by
 refine insP_place p l i hi (fun j hj hji => ?_) (fun h => hhi i h (Nat.le_refl _))
 have h0 := hlo (by omega)
 by_cases e : j = i - 1
 ·subst e; exact h0
 ·unfold Up at hl
  rw [List.pairwise_iff_getElem] at hl
  have h2 := hl j (i - 1) hj (by omega) (by omega)
  cases hh : lt p.1 l[j].1 with
  | false => rfl
  | true => rw [lt_of_lt_le hh h2] at h0; cases h0
end Go.Proofs.YtgkdaebiefhgdaaGreatDoor.Tagp
namespace Go.Proofs.YtgkdaebiefhgdaaGreatDoor
open Go.RowKit Utf Tagp
open Feat (Bs lt)
attribute [local go_sem] byte_mk ByteArray.extract_mk
theorem info_pairM : (Tryz.prog.info? 84).map (fun i => (i.zero, i.size, i.bytes)) = some (some (.agg #[.string ⟨#[]⟩, .string ⟨#[]⟩]), 2, 32) := by kernel_rfl
theorem prs_one (l : List KV) : ∀ u ∈ prs l, u.oneCell' = true := by
 intro u hu
 unfold prs at hu
 rw [List.mem_flatMap] at hu
 obtain ⟨x, _, hx⟩ := hu
 simp at hx
 rcases hx with rfl | rfl <;> rfl
def Pairs (base : Nat) (l : List KV) (w : World) (e : Ending) (w' : World) : Prop :=
 ∃ v, e = .returned v ∧ w'.ownsRow base 84 2 v l.length (prs l) ∧ Below w.heap.size w w'

theorem own_pair {w : World} {base : Nat} {e : TypeId} {g n cap : Nat} {l : List KV} (h : w.ownsRow base e 2 (.slice (some ⟨g, 0, none⟩) n cap) n (prs l)) (k : Nat) (hk : k < l.length) :
  w.cell? ⟨g, k * 2, none⟩ = some (str l[k].1) ∧ w.cell? ⟨g, k * 2 + 1, none⟩ = some (str l[k].2) := by
 have hl : l.length * 2 = n * 2 := by rw [← prs_len]; exact h.1
 obtain ⟨p1, p2⟩ := prs_at l k hk
 constructor
 ·rw [h.cellAt (k * 2) (by omega), ← p1]
 ·rw [h.cellAt (k * 2 + 1) (by omega), ← p2]

theorem shifted_pair (cur : List Value) (l : List KV) (p : KV) (i : Nat) (hi : i ≤ l.length) (hc : cur.take ((l.length + 1) * 2) = prs (l ++ [([], [])])) :
  (((splice cur ((i + 1) * 2) (prs (l.drop i))).set (i * 2) (str p.1)).set (i * 2 + 1) (str p.2)).take ((l.length + 1) * 2) = prs (l.take i ++ p :: l.drop i) := by
 have hlen : (l.length + 1) * 2 ≤ cur.length := by
  have := congrArg List.length hc
  rw [prs_len, List.length_take] at this
  simp only [List.length_append, List.length_cons, List.length_nil] at this
  omega
 have h1 : cur.take (i * 2) = prs (l.take i) := by
  have : (cur.take ((l.length + 1) * 2)).take (i * 2) = cur.take (i * 2) := by rw [List.take_take]; congr 1; omega
  rw [← this, hc]
  conv => lhs; rw [show l ++ [([], [])] = l.take i ++ (l.drop i ++ [([], [])]) by rw [← List.append_assoc, List.take_append_drop]]
  rw [prs_append]
  exact List.take_left' (by rw [prs_len, List.length_take]; omega)
 have h3 : (prs (l.take i)).length = i * 2 := by rw [prs_len, List.length_take]; omega
 have h2 : cur.take ((i + 1) * 2) = prs (l.take i) ++ [cur[i * 2]'(by omega), cur[i * 2 + 1]'(by omega)] := by
  rw [show (i + 1) * 2 = i * 2 + 1 + 1 by omega, List.take_succ_eq_append_getElem (by omega), List.take_succ_eq_append_getElem (by omega), h1]
  simp
 unfold splice
 rw [h2, List.append_assoc, List.set_append_right _ _ (by omega), h3, Nat.sub_self, List.set_append_right _ _ (by omega), h3, show i * 2 + 1 - i * 2 = 1 by omega]
 simp only [List.cons_append, List.set_cons_zero, List.set_cons_succ, List.nil_append]
 rw [show prs (l.take i) ++ str p.1 :: str p.2 :: (prs (l.drop i) ++ cur.drop ((i + 1) * 2 + (prs (l.drop i)).length)) = prs (l.take i ++ p :: l.drop i) ++ cur.drop ((i + 1) * 2 + (prs (l.drop i)).length) by simp [prs]]
 refine List.take_left' ?_
 rw [prs_len]
 simp
 omega

theorem own_after_pair {w : World} {base g cap i : Nat} {cur : List Value} {l : List KV} {p : KV} (hb : base ≤ g) (hB : Blk w g 84 (splice cur ((i + 1) * 2) (prs (l.drop i))).toArray)
  (hi : i ≤ l.length) (hk : (i + 1) * 2 + (prs (l.drop i)).length ≤ cur.length) (ht : cur.take ((l.length + 1) * 2) = prs (l ++ [([], [])])) (hs : cur.length = cap * 2 ∧ cap ≤ maxLen ∧ l.length + 1 ≤ cap) :
  (∃ old, w.cell? ⟨g, i * 2, none⟩ = some old) ∧ (∃ old, w.cell? ⟨g, i * 2 + 1, none⟩ = some old) ∧ w.frozen? ⟨g, i * 2, none⟩ = false ∧ w.frozen? ⟨g, i * 2 + 1, none⟩ = false ∧
  ((w.setCell ⟨g, i * 2, none⟩ (str p.1)).setCell ⟨g, i * 2 + 1, none⟩ (str p.2)).ownsRow base 84 2 (.slice (some ⟨g, 0, none⟩) (l.length + 1) cap) (l.length + 1) (prs (l.take i ++ p :: l.drop i)) := by
 have hl := length_splice cur ((i + 1) * 2) (prs (l.drop i)) hk
 have hln : (l.take i ++ p :: l.drop i).length = l.length + 1 := by simp; omega
 refine ⟨⟨_, (hB.cell _).trans (by rw [List.getElem?_toArray]; exact List.getElem?_eq_getElem (by omega))⟩, ⟨_, (hB.cell _).trans (by rw [List.getElem?_toArray]; exact List.getElem?_eq_getElem (by omega))⟩, hB.free _, hB.free _, ?_⟩
 refine ⟨by rw [prs_len, hln], .inr ⟨g, cap, _, rfl, hb, (hB.set_ _ (str p.1)).set_ _ (str p.2), by omega, hs.2.1, by simp [hl, hs.1], ?_⟩⟩
 rw [← shifted_pair cur l p i hi ht]
 simp
theorem news_two {w : World} {t : TypeId} {a b : Value} {k : Nat} (h : w.heap.size = k) : ∀ j u, [a, b][j]? = some u → (w.alloc (.cells #[a, b] t)).cell? ((⟨k, 0, none⟩ : Addr).add j) = some u := by
 subst h
 exact news_new w t [a, b]
set_option maxRecDepth 100000 in
set_option maxHeartbeats 1600000 in
theorem sorted_any (A : Option Addr) (n c : Nat) (l : List KV) (w : World) (hn : n ≤ 1099511627776) (h : Sl w w.heap.size 2 A n (prs l)) :
  Calls Tryz.prog 125 #[.slice A n c] w (Pairs w.heap.size (sortP l) w) := by
 have hl : l.length = n := by have := h.1; rw [prs_len] at this; omega
 obtain ⟨i0, hi0, hz0, hz1, hz2⟩ := info_parts info_pairM
 go_enter Tryz.func125, Tryz.ntmps125
 go_wp2
 go_loopw [9, 3] (fun iv ov wr => ∃ (k : Nat) (A2 : Option Addr) (cap2 : Nat), k ≤ n ∧ iv = .int .i64 k ∧ ov = .slice A2 k cap2 ∧ Below w.heap.size w wr ∧ wr.ownsRow w.heap.size 84 2 (.slice A2 k cap2) k (prs (sortP (l.take k)))) (fun iv _ _ => n - (intOf iv).toNat)
 case atStart => exact ⟨0, none, 0, by omega, rfl, rfl, Below.refl _ _, World.ownsRow_nil _ _ _ _⟩
 case round =>
  obtain ⟨k, A2, cap2, hk, rfl, rfl, hB, hown⟩ := hrel
  by_cases hlt : k < n
  ·obtain ⟨g, o, hk', rfl, hg, c0, c1⟩ := sl_pair (h.under hB) hlt
   have hm : Hid (sortP (l.take (k + 1)) = insP l[k] (sortP (l.take k))) := sortP_take l k hk'
   have hml : (sortP (l.take k)).length = k := by rw [sortP_len, List.length_take]; omega
   have hup : Hid (Up (sortP (l.take k))) := sortP_up _
   obtain ⟨m, hmm⟩ : ∃ m, sortP (l.take k) = m := ⟨_, rfl⟩
   obtain ⟨p, hp⟩ : ∃ p, l[k] = p := ⟨_, rfl⟩
   rw [hmm] at hm hml hup hown
   rw [hp] at hm c0 c1
   have hA2 : ∀ j (hj : j < m.length), ∃ g2, A2 = some ⟨g2, 0, none⟩ ∧ g2 < wr.heap.size ∧ wr.cell? ⟨g2, j * 2, none⟩ = some (str m[j].1) := by
    rcases hown.2 with ⟨hv, hn0⟩ | ⟨g2, cap3, cur, hv, hbg, hblk, _⟩
    ·intro j hj; omega
    ·intro j hj
     cases hv
     exact ⟨g2, rfl, (Array.getElem?_eq_some_iff.1 hblk).1, (own_pair hown j hj).1⟩
   have HO := Lib.hid hown
   clear hown hmm hp
   go_wp2
   go_loopw [6] (fun iv wx => ∃ i : Nat, i ≤ k ∧ iv = .int .i64 i ∧ Hid (∀ j (hj : j < m.length), i ≤ j → lt p.1 m[j].1 = true) ∧ ∃ q, wx = (wr.alloc (.cells #[str p.1, str p.2] 84)).drewN q) (fun iv _ => (intOf iv).toNat)
   case atStart => exact ⟨k, Nat.le_refl _, rfl, fun j hj h => by omega, 0, rfl⟩
   case round =>
    obtain ⟨i, hi, rfl, hhi, q, rfl⟩ := hrel
    rcases Nat.eq_zero_or_pos i with h0 | h0
    ·subst h0
     have hlo : Hid (∀ (h0 : 0 < 0), lt p.1 (m[0 - 1]'(by omega)).1 = false) := fun h => absurd h (Nat.lt_irrefl _)
     go_wp2
     go_quiet (fail)
     have hoa := (show ((wr.alloc (.cells #[str p.1, str p.2] 84)).drewN (q + nq)).ownsRow _ _ _ _ _ _ from HO.out.alloc (.cells #[str p.1, str p.2] 84)).alloc (.cells #[str [], str []] 84)
     have hba : Below w.heap.size w (((wr.alloc (.cells #[str p.1, str p.2] 84)).drewN (q + nq)).alloc (.cells #[str [], str []] 84)) := Below.alloc (below_drewN (hB.alloc hB.size _) (q + nq)) (by have := hB.size; simp; omega) _
     have hbp : Blk (((wr.alloc (.cells #[str p.1, str p.2] 84)).drewN (q + nq)).alloc (.cells #[str [], str []] 84)) wr.heap.size 84 #[str p.1, str p.2] := Blk.alloc (w := (wr.alloc (.cells #[str p.1, str p.2] 84)).drewN (q + nq)) (Blk.new wr _ _) _
     go_wp2_with (at_builtin; refine wpList_append_own_at _ rfl (.tmp 30) (.tmp 32) _ rfl w.heap.size 84 i0 _ 2 32 Tryz.underlying64 hi0 hz0 hz1 hz2 rfl (by decide) _ _ _ rfl hoa ⟨_, 0, none⟩ 1 1 [str [], str []] rfl rfl ?pa1 ?pa2 ?pa3 ?pa4 hba.size ?_)
     try (case pa1 => exact news_two (by simp))
     try (case pa2 => first | rfl | (intro u hu; simp at hu; subst hu; rfl))
     try (case pa3 => simp [maxLen]; omega)
     try (case pa4 => omega)
     intro v2 w2 own2 gr2 _ hob2
     have hb2 : Below w.heap.size w w2 := hba.grown gr2 hba.size (fun k hk => (HO.out.lt k hk).1)
     have hbp2 : Blk w2 wr.heap.size 84 #[str p.1, str p.2] := (gr2.block _ hbp.lt (fun e => by have := (HO.out.lt _ e.symm).2; omega)).trans hbp
     have hob3 : ∀ b, v2.ownBlock = some b → b ≠ wr.heap.size := by
      intro b hb
      rcases hob2 with e | e
      ·rw [e] at hb
       have := (HO.out.lt _ hb).2
       omega
      ·rw [e] at hb
       have := Option.some.inj hb
       try simp at this
       omega
     rw [show prs m ++ [str [], str []] = prs (m ++ [([], [])]) by simp [prs]] at own2
     clear hoa hba gr2 hbp hob2
     rcases own2.2 with ⟨_, h⟩ | ⟨g3, cap3, cur3, rfl, hbg3, hblk3, hcap3, hm3, hsz3, htk3⟩
     ·omega
     ·have hg3p : g3 ≠ wr.heap.size := hob3 g3 rfl
      have hs1 := fun W => slice_from (P := Tryz.prog) 64 84 i0 2 Tryz.underlying64 hi0 hz1 (some ⟨g3, 0, none⟩) (k + 1) cap3 1 (by omega) W
      have hs2 := fun W => slice_from (P := Tryz.prog) 64 84 i0 2 Tryz.underlying64 hi0 hz1 (some ⟨g3, 0, none⟩) (k + 1) cap3 0 (by omega) W
      skip
      have eA : cutAt (some ⟨g3, 0, none⟩) 0 cap3 2 = some ⟨g3, 0, none⟩ := by rw [cutAt_in (by omega)]
      obtain ⟨A1, hA1⟩ : ∃ A1, cutAt (some ⟨g3, 0, none⟩) 1 cap3 2 = A1 := ⟨_, rfl⟩
      simp only [hA1, Int.cast_ofNat_Int, Nat.add_sub_cancel] at hs1
      simp only [eA, Int.cast_ofNat_Int, Nat.sub_zero] at hs2
      have hwr : IntKind.i64.wrap 1 = 1 := IntWalk.i64_in _ (by omega)
      have hin : insP p m = m.take 0 ++ p :: m.drop 0 := insP_right p m hup.out 0 (by omega) hhi.out hlo.out
      have HI := Lib.hid (hm.out.trans hin)
      have k1 : Hid ((prs (m.drop 0)).length = Nat.min (k + 1) k * 2) := by show (prs (m.drop 0)).length = min (k + 1) k * 2; rw [prs_len, List.length_drop]; omega
      have k2 : Hid (0 < (prs (m.drop 0)).length → A1 = some ⟨g3, (0 + 1) * 2, none⟩ ∧ ∃ ad, (some (⟨g3, 0, none⟩ : Addr)) = some ad ∧ ∀ j v, (prs (m.drop 0))[j]? = some v → w2.cell? (ad.add j) = some v) := by
       intro hp
       rw [prs_len, List.length_drop] at hp
       refine ⟨by rw [← hA1, cutAt_in (by omega)], _, rfl, fun j v hj => ?_⟩
       have ea : (⟨g3, 0, none⟩ : Addr).add j = ⟨g3, 0 * 2 + j, none⟩ := by unfold Addr.add; split <;> simp_all
       have hjl : j < (m.length - 0) * 2 := by
        have := (List.getElem?_eq_some_iff.1 hj).1; rw [prs_len, List.length_drop] at this; exact this
       rw [ea, own2.cellAt (0 * 2 + j) (by omega), ← hj]
       rw [show m ++ [([], [])] = m.take 0 ++ (m.drop 0 ++ [([], [])]) by rw [← List.append_assoc, List.take_append_drop], prs_append, List.getElem?_append_right (by rw [prs_len, List.length_take]; omega), prs_append, List.getElem?_append_left (by rw [prs_len, prs_len, List.length_take, List.length_drop]; omega)]
       congr 1
       rw [prs_len, List.length_take]
       omega
      have k3 : Hid ((0 + 1) * 2 + (prs (m.drop 0)).length ≤ cur3.toList.length) := by
       show _ ≤ _
       have hcl : cur3.toList.length = cur3.size := by simp
       rw [prs_len, List.length_drop]; omega
      have k4 : Hid (w2.heap[g3]? = some (.cells cur3.toList.toArray 84 (0, 0))) := by show _ = _; rw [hblk3]
      have k5 : Hid (cur3.toList.take ((m.length + 1) * 2) = prs (m ++ [([], [])])) := by show _ = _; rw [← htk3, hml]
      have k6 : Hid (cur3.size = cap3 * 2 ∧ cap3 ≤ maxLen ∧ k + 1 ≤ cap3) := ⟨hsz3, hm3, by omega⟩
      clear eA hA1 hblk3 htk3 own2 hsz3 hm3
      go_wp2
      go_region_law ((refine step_copy_sz rfl (.tmp 37) (.tmp 40) _ _ rfl 84 Tryz.underlying64 2 (by decide) size_pair A1 (some ⟨g3, 0, none⟩) k (cap3 - 1) (k + 1) cap3 (by simp [Act.eval, Act.put]) (by simp [Act.eval, Act.put]) g3 ((0 + 1) * 2) cur3.toList 84 k4.out (prs (m.drop 0)) k1.out k2.out k3.out (prs_one _) ?_; intro w4 hg4 gr4))
      have hbp4 : Blk w4 wr.heap.size 84 #[str p.1, str p.2] := (gr4.block _ hbp2.lt (fun e => hg3p (Option.some.inj e).symm)).trans hbp2
      have p0 := hbp4.cell 0
      have p1 := hbp4.cell 1
      obtain ⟨⟨old0, c40⟩, ⟨old1, c41⟩, f40, f41, own4⟩ := own_after_pair (p := p) hbg3 hg4.out (by omega) k3.out k5.out ⟨by rw [← k6.out.1]; simp, k6.out.2.1, by rw [hml]; exact k6.out.2.2⟩
      simp only [Nat.zero_mul, Nat.zero_add] at c40 c41 f40 f41
      have hb4 : Below w.heap.size w w4 := (below_drewN hb2 1).grown gr4 hb2.size (fun k hk => by cases hk; exact hbg3)
      go_wp2
      go_roundw
      case rel =>
       refine ⟨k + 1, some ⟨g3, 0, none⟩, cap3, by omega, by go_num, rfl, (hb4.setCell (p := ⟨g3, 0 * 2, none⟩) hbg3 _).setCell (p := ⟨g3, 0 * 2 + 1, none⟩) hbg3 _, ?_⟩
       rw [HI.out]
       rw [hml] at own4
       exact own4
      case measure => simp [intOf]; omega
    ·obtain ⟨g2, rfl, hg2, hc2⟩ := hA2 (i - 1) (by omega)
     have e1 : (i : Int) - 1 = ((i - 1 : Nat) : Int) := by omega
     have hd : decide ((0 : Int) < (i : Int)) = true := by rw [decide_eq_true_iff]; omega
     cases hle : Op.bytesLess p.1 m[i - 1].1 with
     | true =>
      go_wp2
      go_quiet (fail)
      go_wp2
      go_roundw
      case rel =>
       refine ⟨i - 1, by omega, by go_num, fun j hj hji => ?_, q + nq, ?_⟩
       ·by_cases e : j = i - 1
        ·subst e; exact hle
        ·exact hhi.out j hj (by omega)
       ·rfl
      case measure => simp [intOf]; omega
     | false =>
      have hlo : Hid (∀ (h0 : 0 < i), lt p.1 (m[i - 1]'(by omega)).1 = false) := fun _ => hle
      go_wp2
      go_quiet (fail)
      clear hle
      have hoa := (show ((wr.alloc (.cells #[str p.1, str p.2] 84)).drewN (q + nq)).ownsRow _ _ _ _ _ _ from HO.out.alloc (.cells #[str p.1, str p.2] 84)).alloc (.cells #[str [], str []] 84)
      have hba : Below w.heap.size w (((wr.alloc (.cells #[str p.1, str p.2] 84)).drewN (q + nq)).alloc (.cells #[str [], str []] 84)) := Below.alloc (below_drewN (hB.alloc hB.size _) (q + nq)) (by have := hB.size; simp; omega) _
      have hbp : Blk (((wr.alloc (.cells #[str p.1, str p.2] 84)).drewN (q + nq)).alloc (.cells #[str [], str []] 84)) wr.heap.size 84 #[str p.1, str p.2] := Blk.alloc (w := (wr.alloc (.cells #[str p.1, str p.2] 84)).drewN (q + nq)) (Blk.new wr _ _) _
      go_wp2_with (at_builtin; refine wpList_append_own_at _ rfl (.tmp 30) (.tmp 32) _ rfl w.heap.size 84 i0 _ 2 32 Tryz.underlying64 hi0 hz0 hz1 hz2 rfl (by decide) _ _ _ rfl hoa ⟨_, 0, none⟩ 1 1 [str [], str []] rfl rfl ?pb1 ?pb2 ?pb3 ?pb4 hba.size ?_)
      try (case pb1 => exact news_two (by simp))
      try (case pb2 => first | rfl | (intro u hu; simp at hu; subst hu; rfl))
      try (case pb3 => simp [maxLen]; omega)
      try (case pb4 => omega)
      intro v2 w2 own2 gr2 _ hob2
      have hb2 : Below w.heap.size w w2 := hba.grown gr2 hba.size (fun k hk => (HO.out.lt k hk).1)
      have hbp2 : Blk w2 wr.heap.size 84 #[str p.1, str p.2] := (gr2.block _ hbp.lt (fun e => by have := (HO.out.lt _ e.symm).2; omega)).trans hbp
      have hob3 : ∀ b, v2.ownBlock = some b → b ≠ wr.heap.size := by
       intro b hb
       rcases hob2 with e | e
       ·rw [e] at hb
        have := (HO.out.lt _ hb).2
        omega
       ·rw [e] at hb
        have := Option.some.inj hb
        try simp at this
        omega
      rw [show prs m ++ [str [], str []] = prs (m ++ [([], [])]) by simp [prs]] at own2
      clear hoa hba gr2 hbp hob2
      rcases own2.2 with ⟨_, h⟩ | ⟨g3, cap3, cur3, rfl, hbg3, hblk3, hcap3, hm3, hsz3, htk3⟩
      ·omega
      ·have hg3p : g3 ≠ wr.heap.size := hob3 g3 rfl
       have hs1 := fun W => slice_from (P := Tryz.prog) 64 84 i0 2 Tryz.underlying64 hi0 hz1 (some ⟨g3, 0, none⟩) (k + 1) cap3 (i + 1) (by omega) W
       have hs2 := fun W => slice_from (P := Tryz.prog) 64 84 i0 2 Tryz.underlying64 hi0 hz1 (some ⟨g3, 0, none⟩) (k + 1) cap3 i (by omega) W
       have ei : ((i + 1 : Nat) : Int) = (i : Int) + 1 := by omega
       have eA : cutAt (some ⟨g3, 0, none⟩) i cap3 2 = some ⟨g3, i * 2, none⟩ := by rw [cutAt_in (by omega)]; simp
       obtain ⟨A1, hA1⟩ : ∃ A1, cutAt (some ⟨g3, 0, none⟩) (i + 1) cap3 2 = A1 := ⟨_, rfl⟩
       simp only [ei, hA1] at hs1
       simp only [eA] at hs2
       have hwr : IntKind.i64.wrap ((i : Int) + 1) = (i : Int) + 1 := IntWalk.i64_in _ (by omega)
       have hin : insP p m = m.take i ++ p :: m.drop i := insP_right p m hup.out i (by omega) hhi.out hlo.out
       have HI := Lib.hid (hm.out.trans hin)
       have k1 : Hid ((prs (m.drop i)).length = Nat.min (k + 1 - i) (k + 1 - (i + 1)) * 2) := by show (prs (m.drop i)).length = min (k + 1 - i) (k + 1 - (i + 1)) * 2; rw [prs_len, List.length_drop]; omega
       have k2 : Hid (0 < (prs (m.drop i)).length → A1 = some ⟨g3, (i + 1) * 2, none⟩ ∧ ∃ ad, (some (⟨g3, i * 2, none⟩ : Addr)) = some ad ∧ ∀ j v, (prs (m.drop i))[j]? = some v → w2.cell? (ad.add j) = some v) := by
        intro hp
        rw [prs_len, List.length_drop] at hp
        refine ⟨by rw [← hA1, cutAt_in (by omega)]; simp, _, rfl, fun j v hj => ?_⟩
        have ea : (⟨g3, i * 2, none⟩ : Addr).add j = ⟨g3, i * 2 + j, none⟩ := by unfold Addr.add; split <;> simp_all
        have hjl : j < (m.length - i) * 2 := by
         have := (List.getElem?_eq_some_iff.1 hj).1; rw [prs_len, List.length_drop] at this; exact this
        rw [ea, own2.cellAt (i * 2 + j) (by omega), ← hj]
        rw [show m ++ [([], [])] = m.take i ++ (m.drop i ++ [([], [])]) by rw [← List.append_assoc, List.take_append_drop], prs_append, List.getElem?_append_right (by rw [prs_len, List.length_take]; omega), prs_append, List.getElem?_append_left (by rw [prs_len, prs_len, List.length_take, List.length_drop]; omega)]
        congr 1
        rw [prs_len, List.length_take]
        omega
       have k3 : Hid ((i + 1) * 2 + (prs (m.drop i)).length ≤ cur3.toList.length) := by
        show _ ≤ _
        have hcl : cur3.toList.length = cur3.size := by simp
        rw [prs_len, List.length_drop]; omega
       have k4 : Hid (w2.heap[g3]? = some (.cells cur3.toList.toArray 84 (0, 0))) := by show _ = _; rw [hblk3]
       have k5 : Hid (cur3.toList.take ((m.length + 1) * 2) = prs (m ++ [([], [])])) := by show _ = _; rw [← htk3, hml]
       have k6 : Hid (cur3.size = cap3 * 2 ∧ cap3 ≤ maxLen ∧ k + 1 ≤ cap3) := ⟨hsz3, hm3, by omega⟩
       clear ei eA hA1 hblk3 htk3 own2 hsz3 hm3
       go_wp2
       go_region_law ((refine step_copy_sz rfl (.tmp 37) (.tmp 40) _ _ rfl 84 Tryz.underlying64 2 (by decide) size_pair A1 (some ⟨g3, i * 2, none⟩) (k + 1 - (i + 1)) (cap3 - (i + 1)) (k + 1 - i) (cap3 - i) (by simp [Act.eval, Act.put]) (by simp [Act.eval, Act.put]) g3 ((i + 1) * 2) cur3.toList 84 k4.out (prs (m.drop i)) k1.out k2.out k3.out (prs_one _) ?_; intro w4 hg4 gr4))
       have hbp4 : Blk w4 wr.heap.size 84 #[str p.1, str p.2] := (gr4.block _ hbp2.lt (fun e => hg3p (Option.some.inj e).symm)).trans hbp2
       have p0 := hbp4.cell 0
       have p1 := hbp4.cell 1
       obtain ⟨⟨old0, c40⟩, ⟨old1, c41⟩, f40, f41, own4⟩ := own_after_pair (p := p) hbg3 hg4.out (by omega) k3.out k5.out ⟨by rw [← k6.out.1]; simp, k6.out.2.1, by rw [hml]; exact k6.out.2.2⟩
       have hb4 : Below w.heap.size w w4 := (below_drewN hb2 1).grown gr4 hb2.size (fun k hk => by cases hk; exact hbg3)
       go_wp2
       go_roundw
       case rel =>
        refine ⟨k + 1, some ⟨g3, 0, none⟩, cap3, by omega, by go_num, rfl, (hb4.setCell (p := ⟨g3, i * 2, none⟩) hbg3 _).setCell (p := ⟨g3, i * 2 + 1, none⟩) hbg3 _, ?_⟩
        rw [HI.out]
        rw [hml] at own4
        exact own4
       case measure => simp [intOf]; omega
  ·have hf : Hid (sortP (l.take k) = sortP l) := by show _ = _; rw [List.take_of_length_le (by omega)]
   rw [hf.out] at hown
   obtain rfl : k = n := by omega
   go_wp2
   go_ret
   refine ⟨_, rfl, ?_, hB⟩
   rw [sortP_len, hl]
   exact hown
end Go.Proofs.YtgkdaebiefhgdaaGreatDoor
namespace Go.Proofs.YtgkdaebiefhgdaaGreatDoor
open Go.RowKit Utf Tagp
open Feat (Bs lt)
attribute [local go_sem] byte_mk ByteArray.extract_mk
def Tagged (s : Bs) (g : Nat) (w : World) (e : Ending) (w' : World) : Prop :=
 w.grownBy w' (some g) ∧ match tagP s with
  | .ok (cl, nm, l) => ∃ v, e = .returned (.agg #[.bool cl, str nm, v]) ∧ w'.ownsRow w.heap.size 84 2 v l.length (prs l)
  | .error p => e = fault p

def Mid (w wr : World) (g : Nat) (s : Bs) (j : Nat) (cl : Bool) (nm : Bs) (v : Value) : Prop :=
 w.grownBy wr (some g) ∧ AtS wr g s j ∧ Blk wr w.heap.size 106 #[.bool false, str [], .slice none 0 0] ∧ Blk wr (w.heap.size + 1) 106 #[.bool cl, str nm, v]
theorem Mid.start {w : World} {g : Nat} {s : Bs} {j : Nat} (h : AtS w g s j) : Mid w ((w.alloc (.cells #[.bool false, str [], .slice none 0 0] 106)).alloc (.cells #[.bool false, str [], .slice none 0 0] 106)) g s j false [] (.slice none 0 0) := by
 have e : (w.alloc (.cells #[.bool false, str [], .slice none 0 0] 106)).heap.size = w.heap.size + 1 := by simp
 refine ⟨(grown_alloc _).trans (grown_alloc _), Blk.alloc (Blk.alloc h _) _, (Blk.new w _ _).alloc _, ?_⟩
 have := Blk.new (w.alloc (.cells #[.bool false, str [], .slice none 0 0] 106)) 106 #[.bool false, str [], .slice none 0 0]
 rwa [e] at this
theorem Mid.grown {w wr wx : World} {g : Nat} {s : Bs} {j k : Nat} {cl : Bool} {nm : Bs} {v : Value} (h : Mid w wr g s j cl nm v) (hg : g < w.heap.size) (hgr : wr.grownBy wx (some g)) (hat : AtS wx g s k) : Mid w wx g s k cl nm v :=
 ⟨h.1.trans hgr, hat, h.2.2.1.grown hgr (by omega), h.2.2.2.grown hgr (by omega)⟩
theorem Mid.over {w wr wx : World} {g : Nat} {s : Bs} {j : Nat} {cl : Bool} {nm : Bs} {v : Value} {row : Option Nat} (h : Mid w wr g s j cl nm v) (hg : g < w.heap.size) (hgr : wr.grownBy wx row) (hr : ∀ b, row = some b → w.heap.size + 2 ≤ b) : Mid w wx g s j cl nm v := by
 have hk : ∀ k, k < w.heap.size + 2 → k < wr.heap.size → wx.heap[k]? = wr.heap[k]? := fun k hk hlt => hgr.block k hlt (fun e => by have := hr k e.symm; omega)
 refine ⟨grown_two h.1 hgr.os hgr.tape hgr.output hgr.size (fun k hk' => hk k (by omega) (by have := h.1.size; omega)), ?_, ?_, ?_⟩
 ·exact (hk g (by omega) (Blk.lt h.2.1)).trans h.2.1
 ·exact (hk _ (by omega) (Blk.lt h.2.2.1)).trans h.2.2.1
 ·exact (hk _ (by omega) (Blk.lt h.2.2.2)).trans h.2.2.2
theorem Mid.set_ {w wr : World} {g : Nat} {s : Bs} {j : Nat} {cl cl' : Bool} {nm nm' : Bs} {v v' : Value} (h : Mid w wr g s j cl nm v) (hg : g < w.heap.size) (k : Nat) (u : Value) (hu : (#[.bool cl, str nm, v] : Array Value).setIfInBounds k u = #[.bool cl', str nm', v']) :
  Mid w (wr.setCell ⟨w.heap.size + 1, k, none⟩ u) g s j cl' nm' v' := by
 refine ⟨grown_two h.1 rfl rfl rfl (by simp) (fun i hi => setCell_block (by show i ≠ w.heap.size + 1; omega)), (setCell_block (by show g ≠ w.heap.size + 1; omega)).trans h.2.1, (setCell_block (by show w.heap.size ≠ w.heap.size + 1; omega)).trans h.2.2.1, ?_⟩
 have := h.2.2.2.set_ k u
 rwa [hu] at this
theorem Mid.move {w wr : World} {g : Nat} {s : Bs} {j : Nat} {cl : Bool} {nm : Bs} {v : Value} (h : Mid w wr g s j cl nm v) (hg : g < w.heap.size) (k : Nat) : Mid w (wr.setCell ⟨g, 1, none⟩ (.int .i64 (k : Nat))) g s k cl nm v :=
 h.grown hg (grown_move _) (h.2.1.move k)
theorem Mid.drewN {w wr : World} {g : Nat} {s : Bs} {j : Nat} {cl : Bool} {nm : Bs} {v : Value} (h : Mid w wr g s j cl nm v) (q : Nat) : Mid w (wr.drewN q) g s j cl nm v := ⟨h.1.trans (grown_drewN q), h.2⟩

theorem keyP_len {s : Bs} {l : List KV} {i j : Nat} {p : KV} (h : keyP s l i = .ok (p, j)) : l.length ≠ 8 := by
 intro h8
 unfold keyP at h
 split at h
 ·cases h
 ·split at h <;> (try rw [if_pos h8] at h) <;> cases h
theorem valueP_le {s : Bs} {i j : Nat} {v : Bs} (h : valueP s i = .ok (v, j)) : j ≤ s.length := by
 unfold valueP at h
 split at h
 ·cases h
 ·rename_i k hk
  have := (eatP_le hk).1
  split at h
  split at h
  ·cases h
  ·split at h
   ·cases h
   ·cases h; exact this
theorem keyP_le {s : Bs} {l : List KV} {i j : Nat} {p : KV} (h : keyP s l i = .ok (p, j)) : j ≤ s.length := by
 unfold keyP at h
 split at h
 ·cases h
 ·split at h
  ·cases h
  ·split at h
   ·cases h
   ·split at h
    ·cases h
    ·split at h
     ·cases h
     ·split at h
      ·cases h
      ·rename_i hv
       cases h; exact valueP_le hv
theorem keysP_go {s : Bs} {acc : List KV} {i j : Nat} {p : KV} (hi : s[i]? = some 32) (h : keyP s acc (run (· == 32) s i) = .ok (p, j)) : keysP s (9 - acc.length) acc i = keysP s (9 - (acc ++ [p]).length) (acc ++ [p]) j ∨ 9 ≤ acc.length := by
 rcases Nat.lt_or_ge acc.length 9 with hl | hl
 ·left
  rw [show 9 - acc.length = (9 - (acc ++ [p]).length) + 1 by simp; omega, keysP, if_pos hi, h]
 ·exact .inr hl
theorem keysP_stop {s : Bs} {acc : List KV} {i : Nat} (k : Nat) (hi : s[i]? ≠ some 32) : keysP s k acc i = .ok (acc, i) := by
 cases k with
 | zero => rfl
 | succ k => rw [keysP, if_neg hi]
theorem keysP_bad {s : Bs} {acc : List KV} {i : Nat} {p : Nat × Nat} (hl : acc.length < 9) (hi : s[i]? = some 32) (h : keyP s acc (run (· == 32) s i) = .error p) : keysP s (9 - acc.length) acc i = .error p := by
 rw [show 9 - acc.length = (8 - acc.length) + 1 by omega, keysP, if_pos hi, h]

def rowLen : Value → Nat | .slice _ n _ => n | _ => 0
theorem size_tag3 : (Tryz.prog.info? 106).map (·.size) = some 3 := by kernel_rfl

set_option maxRecDepth 100000 in
set_option maxHeartbeats 1600000 in
theorem tag_scan (s : Bs) (g : Nat) (w : World) (hs : s.length ≤ 17592186044416) (h : AtS w g s 0) :
  Calls Tryz.prog 100 #[.pointer (some ⟨g, 0, none⟩)] w (Tagged s g w) := by
 have hgl : g < w.heap.size := Blk.lt h
 obtain ⟨i0, hi0, hz0, hz1, hz2⟩ := info_parts info_pairM
 have HE : Hid (tagP s = match eatP s 60 0 with
  | .error e => .error e
  | .ok _ =>
   match nameP s (if (s[1]? == some 47) = true then 2 else 1) with
   | .error e => .error e
   | .ok (n, i) =>
    match (if (s[1]? == some 47) = true then .ok ([], i) else keysP s 9 [] i) with
    | .error e => .error e
    | .ok (l, i) =>
     match eatP s 62 i with
     | .error e => .error e
     | .ok i => if i < s.length then .error (i, 3) else .ok ((s[1]? == some 47), n, sortP l)) := rfl
 have hmid0 := Mid.start h
 go_enter Tryz.func100, Tryz.ntmps100
 go_wp2_with fail
 refine (eat_any s g 0 60 _ (by omega) (Nat.zero_le _) hmid0.2.1).mono ?_
 rintro e w1 ⟨hg1, hm⟩
 cases hN : eatP s 60 0 with
 | error p =>
  rw [hN] at hm
  simp only [Except.map] at hm
  subst hm
  have HF : Hid (tagP s = .error p) := by show _ = _; rw [HE.out, hN]
  clear hN HE
  unfold fault
  go_wp2
  refine ⟨rfl, hmid0.1.trans hg1, ?_⟩
  rw [HF.out]
  rfl
 | ok q =>
  rw [hN] at hm
  simp only [Except.map] at hm
  obtain ⟨hat1, v, rfl, rfl⟩ := hm
  obtain ⟨hl1, rfl⟩ := eatP_le hN
  have HF := Lib.hid (HE.out.trans (by rw [hN]))
  clear hN HE
  simp only at HF
  have hmid1 := hmid0.grown hgl hg1 hat1
  clear hmid0 hg1 hat1
  go_wp2_with fail
  refine (sees_any s g 1 47 _ hl1 hmid1.2.1).mono ?_
  rintro e w2 ⟨rfl, q, rfl⟩
  cases hcl : (s[1]? == some 47) with
  | true =>
   rw [hcl] at HF
   have h2 : 2 ≤ s.length := by
    have := eq_of_beq hcl
    have := (List.getElem?_eq_some_iff.1 this).1
    omega
   clear hcl
   have hmid2 := ((hmid1.drewN q).move hgl 2).set_ (cl' := true) (nm' := []) (v' := .slice none 0 0) hgl 0 (.bool true) rfl
   have c1 := hmid1.2.1.c1
   have cf := hmid1.2.1.free 1
   have d0 := hmid1.2.2.2.cell 0
   have df := hmid1.2.2.2.free 0
   go_wp2_with fail
   refine (name_any s g 2 _ (by omega) h2 hmid2.2.1).mono ?_
   rintro e w3 ⟨hg3, hm⟩
   cases hN : nameP s 2 with
   | error p =>
    rw [hN] at hm
    simp only at hm
    subst hm
    have HF2 : Hid (tagP s = .error p) := by show _ = _; rw [HF.out, if_pos trivial, hN]
    clear hN HF
    unfold fault
    go_wp2
    refine ⟨rfl, hmid2.1.trans hg3, ?_⟩
    rw [HF2.out]
    rfl
   | ok q =>
    obtain ⟨nm, i⟩ := q
    rw [hN] at hm
    simp only at hm
    obtain ⟨hat3, v, rfl, rfl⟩ := hm
    obtain ⟨his, -⟩ := nameP_le h2 hN
    have HF2 := Lib.hid (HF.out.trans (by rw [if_pos trivial, hN]))
    clear hN HF
    simp only at HF2
    have hmid3 := hmid2.grown hgl hg3 hat3
    have d1 := hmid3.2.2.2.cell 1
    have df1 := hmid3.2.2.2.free 1
    have hmid4 := hmid3.set_ (cl' := true) (nm' := nm) (v' := .slice none 0 0) hgl 1 (str nm) rfl
    clear hmid1 hmid2 hg3 hat3 c1 cf d0 df
    go_wp2
    go_loopw [19] (fun _ wr => Mid w wr g s i true nm (.slice none 0 0)) (fun _ _ => 0)
    case atStart => exact hmid4
    case round =>
     clear hmid3 hmid4 d1 df1
     have hmidx := hrel
     clear hrel
     have d0 := hmidx.2.2.2.cell 0
     have HF3 := Lib.hid (HF2.out.trans (by rw [if_pos trivial]))
     clear HF2
     simp only at HF3
     have hownx : wr.ownsRow (w.heap.size + 2) 84 2 (.slice none 0 0) 0 (prs []) := World.ownsRow_nil _ _ _ _
     go_wp2_with fail
     refine (eat_any s g i 62 _ (by omega) his hmidx.2.1).mono ?_
     rintro e w7 ⟨hg7, hm⟩
     cases hE : eatP s 62 i with
     | error p =>
      rw [hE] at hm
      simp only [Except.map] at hm
      subst hm
      have HF4 : Hid (tagP s = .error p) := by show _ = _; rw [HF3.out, hE]
      clear hE HF3
      unfold fault
      go_wp2
      refine ⟨rfl, hmidx.1.trans hg7, ?_⟩
      rw [HF4.out]
      rfl
     | ok J =>
      rw [hE] at hm
      simp only [Except.map] at hm
      obtain ⟨hat7, v, rfl, rfl⟩ := hm
      obtain ⟨hJs, -⟩ := eatP_le hE
      have HF4 := Lib.hid (HF3.out.trans (by rw [hE]))
      clear hE HF3
      simp only at HF4
      have hmid7 := hmidx.grown hgl hg7 hat7
      have hown7 := hownx.kept hg7 (.inr (fun e => by have := (hownx.lt _ e).1; omega))
      have e0 := hmid7.2.1.c0
      have e1 := hmid7.2.1.c1
      by_cases hJl : J < s.length
      ·have HF5 : Hid (tagP s = .error (J, 3)) := by show _ = _; rw [HF4.out, if_pos hJl]
       clear HF4
       go_wp2
       go_quiet (fail)
       go_wp2
       refine ⟨rfl, hmid7.1.trans (grown_drewN _), ?_⟩
       rw [HF5.out]
       rfl
      ·have HF5 : Hid (tagP s = .ok (true, nm, sortP [])) := by show _ = _; rw [HF4.out, if_neg hJl]
       clear HF4
       have t0 : w7.cell? ⟨w.heap.size + 1, 0, none⟩ = some (.bool true) := hmid7.2.2.2.cell 0
       have t1 : w7.cell? ⟨w.heap.size + 1, 1, none⟩ = some (str nm) := hmid7.2.2.2.cell 1
       have t2 : w7.cell? ⟨w.heap.size + 1, 2, none⟩ = some (.slice none 0 0) := hmid7.2.2.2.cell 2
       go_wp2
       go_quiet (fail)
       go_wp2_with fail
       have hown7d : (w7.drewN nq).ownsRow (w.heap.size + 2) 84 2 (.slice none ([] : List KV).length 0) ([] : List KV).length (prs []) := hown7
       refine (sorted_any none 0 0 [] (w7.drewN nq) (Nat.zero_le _) (own_sl hown7d)).mono ?_
       rintro e w8 ⟨v, rfl, own8, hb8⟩
       obtain ⟨A8, c8, rfl, -⟩ := own_slc own8
       have hmid8 : Mid w w8 g s J true nm _ := (hmid7.drewN nq).over hgl (grown_below (row := none) hb8) (fun b e => by cases e)
       have u0 : w8.cell? ⟨w.heap.size + 1, 0, none⟩ = some (.bool true) := hmid8.2.2.2.cell 0
       have u1 : w8.cell? ⟨w.heap.size + 1, 1, none⟩ = some (str nm) := hmid8.2.2.2.cell 1
       have u2 : w8.cell? ⟨w.heap.size + 1, 2, none⟩ = some (.slice none 0 0) := hmid8.2.2.2.cell 2
       have uf : w8.frozen? ⟨w.heap.size + 1, 2, none⟩ = false := hmid8.2.2.2.free 2
       have r0 : w8.cell? ⟨w.heap.size, 0, none⟩ = some (.bool false) := hmid8.2.2.1.cell 0
       have r1 : w8.cell? ⟨w.heap.size, 1, none⟩ = some (str []) := hmid8.2.2.1.cell 1
       have r2 : w8.cell? ⟨w.heap.size, 2, none⟩ = some (.slice none 0 0) := hmid8.2.2.1.cell 2
       have rf := fun k => hmid8.2.2.1.free k
       go_wp2
       have hmid9 := hmid8.set_ (cl' := true) (nm' := nm) (v' := .slice A8 (sortP []).length c8) hgl 2 _ rfl
       have hb9 := ((hmid9.2.2.1.set_ 0 (.bool true)).set_ 1 (str nm)).set_ 2 (.slice A8 (sortP []).length c8)
       have hne : ∀ (W : World) (k : Nat) (u : Value), W.grownBy (W.setCell ⟨w.heap.size, k, none⟩ u) (some w.heap.size) := fun W k u => ⟨rfl, rfl, rfl, by simp, fun j _ hj => setCell_block (fun e => hj (by rw [e]))⟩
       have hne' : ∀ (W : World) (k : Nat) (u : Value), W.grownBy (W.setCell ⟨w.heap.size + 1, k, none⟩ u) (some (w.heap.size + 1)) := fun W k u => ⟨rfl, rfl, rfl, by simp, fun j _ hj => setCell_block (fun e => hj (by rw [e]))⟩
       have h77 : w.heap.size + 2 ≤ (w7.drewN nq).heap.size := Blk.lt hmid7.2.2.2
       have own9 := own_base own8 h77
       have hob : ∀ k, k < w.heap.size + 2 → (Value.slice A8 (sortP []).length c8).ownBlock = none ∨ (Value.slice A8 (sortP []).length c8).ownBlock ≠ some k := fun k hk => .inr (fun e => by have := (own9.lt _ e).1; omega)
       have own10 := (((own9.kept (hne' w8 2 (.slice A8 (sortP []).length c8)) (hob _ (by omega))).kept (hne _ 0 (.bool true)) (hob _ (by omega))).kept (hne _ 1 (str nm)) (hob _ (by omega))).kept (hne _ 2 (.slice A8 (sortP []).length c8)) (hob _ (by omega))
       have hgr := grown_two hmid9.1 (w2 := (((w8.setCell ⟨w.heap.size + 1, 2, none⟩ (.slice A8 (sortP []).length c8)).setCell ⟨w.heap.size, 0, none⟩ (.bool true)).setCell ⟨w.heap.size, 1, none⟩ (str nm)).setCell ⟨w.heap.size, 2, none⟩ (.slice A8 (sortP []).length c8)) rfl rfl rfl (by simp) (fun k hk => ((setCell_block (by show k ≠ w.heap.size; omega)).trans (setCell_block (by show k ≠ w.heap.size; omega))).trans (setCell_block (by show k ≠ w.heap.size; omega)))
       go_wp2
       refine bodyPost_ret (results_cell_row rfl _ _ _ _ _ _ _ rfl hb9 Tryz.underlying106 rfl size_tag3) rfl ?_
       refine ⟨hgr, ?_⟩
       rw [HF5.out]
       exact ⟨_, rfl, own_base own10 (by omega)⟩
  | false =>
   rw [hcl] at HF
   clear hcl
   have hmid2 := hmid1.drewN q
   go_wp2_with fail
   refine (name_any s g 1 _ (by omega) hl1 hmid2.2.1).mono ?_
   rintro e w3 ⟨hg3, hm⟩
   cases hN : nameP s 1 with
   | error p =>
    rw [hN] at hm
    simp only at hm
    subst hm
    have HF2 : Hid (tagP s = .error p) := by show _ = _; rw [HF.out, if_neg (by simp), hN]
    clear hN HF
    unfold fault
    go_wp2
    refine ⟨rfl, hmid2.1.trans hg3, ?_⟩
    rw [HF2.out]
    rfl
   | ok q =>
    obtain ⟨nm, i⟩ := q
    rw [hN] at hm
    simp only at hm
    obtain ⟨hat3, v, rfl, rfl⟩ := hm
    obtain ⟨his, -⟩ := nameP_le hl1 hN
    have HF2 := Lib.hid (HF.out.trans (by rw [if_neg (by simp), hN]))
    clear hN HF
    simp only at HF2
    have hmid3 := hmid2.grown hgl hg3 hat3
    have d1 := hmid3.2.2.2.cell 1
    have df1 := hmid3.2.2.2.free 1
    have hmid4 := hmid3.set_ (cl' := false) (nm' := nm) (v' := .slice none 0 0) hgl 1 (str nm) rfl
    clear hmid1 hmid2 hg3 hat3
    go_wp2
    go_loopw [19] (fun _ wr => ∃ (acc : List KV) (j : Nat) (A : Option Addr) (c : Nat), acc.length ≤ 8 ∧ j ≤ s.length ∧ Mid w wr g s j false nm (.slice A acc.length c) ∧ wr.ownsRow (w.heap.size + 2) 84 2 (.slice A acc.length c) acc.length (prs acc) ∧ Hid (keysP s 9 [] i = keysP s (9 - acc.length) acc j)) (fun _ wr => 9 - rowLen ((wr.cell? ⟨w.heap.size + 1, 2, none⟩).getD undef))
    case atStart => exact ⟨[], i, none, 0, Nat.zero_le _, his, hmid4, World.ownsRow_nil _ _ _ _, rfl⟩
    case round =>
     obtain ⟨acc, j, A, c, hacc, hjs, hmid, hown, hkeys⟩ := hrel
     clear hmid3 hmid4 d1 df1
     rename World => wo
     have d0 := hmid.2.2.2.cell 0
     have d2 := hmid.2.2.2.cell 2
     have c1 := hmid.2.1.c1
     go_wp2_with fail
     refine (sees_any s g j 32 _ hjs hmid.2.1).mono ?_
     rintro e w5 ⟨rfl, q, rfl⟩
     cases hsp : (s[j]? == some 32) with
     | true =>
      have HSP := Lib.hid (eq_of_beq hsp)
      clear hsp
      go_wp2
      go_loopw [26] (fun _ wx => ∃ k : Nat, j ≤ k ∧ k ≤ s.length ∧ wo.grownBy wx (some g) ∧ AtS wx g s k ∧ Hid (run (· == 32) s j = run (· == 32) s k)) (fun _ wx => s.length - (intOf ((wx.cell? ⟨g, 1, none⟩).getD undef)).toNat)
      case atStart => exact ⟨j, Nat.le_refl _, hjs, grown_drewN q, hmid.2.1, rfl⟩
      case round =>
       obtain ⟨k, hjk, hks, hgk, hatk, hrun⟩ := hrel
       have e1 := hatk.c1
       have ef := hatk.free 1
       go_wp2_with fail
       refine (sees_any s g k 32 _ hks hatk).mono ?_
       rintro e w6 ⟨rfl, q2, rfl⟩
       cases hsk : (s[k]? == some 32) with
       | true =>
        have hk : s[k]? = some 32 := eq_of_beq hsk
        obtain ⟨hkl, hke⟩ := List.getElem?_eq_some_iff.1 hk
        have HR := Lib.hid (run_step (p := (· == 32)) hkl (by simp [hke]))
        clear hk hke hsk
        go_wp2
        go_roundw
        case rel =>
         refine ⟨k + 1, by omega, by omega, hgk.trans ((grown_drewN _).trans (grown_move _)), (hatk.drewN _).move (k + 1), ?_⟩
         show _ = _
         rw [hrun.out, HR.out]
        case measure =>
         have e2 : ((wr.drewN q2).setCell ⟨g, 1, none⟩ (.int .i64 ((k : Int) + 1))).cell? ⟨g, 1, none⟩ = some (.int .i64 ((k + 1 : Nat) : Int)) := ((hatk.drewN q2).move (k + 1)).c1
         rw [e2, e1]
         simp [intOf]
         omega
       | false =>
        have hR : run (· == 32) s j = k := by
         rw [hrun.out]
         by_cases hkl : k < s.length
         ·refine run_stop hkl ?_
          rw [List.getElem?_eq_getElem hkl] at hsk
          simpa using hsk
         ·exact run_end _ (by omega)
        have hmidk0 := hmid.grown hgl hgk hatk
        have hmidk := hmidk0.drewN q2
        have hownk0 : wr.ownsRow (w.heap.size + 2) 84 2 (.slice A acc.length c) acc.length (prs acc) := hown.kept hgk (.inr (fun e => by have := (hown.lt _ e).1; omega))
        have hownk : (wr.drewN q2).ownsRow (w.heap.size + 2) 84 2 (.slice A acc.length c) acc.length (prs acc) := hownk0
        have hge : ∀ ga o, A = some ⟨ga, o, none⟩ → ga ≠ g := by
         intro ga o e
         have := (hown.lt ga (by rw [e]; rfl)).1
         omega
        have dk2 := hmidk0.2.2.2.cell 2
        have dkf := hmidk0.2.2.2.free 2
        have hmidw : Mid w (wr.drewN (q2 + 1)) g s k false nm (.slice A acc.length c) := hmidk0.drewN (q2 + 1)
        have hownw : (wr.drewN (q2 + 1)).ownsRow (w.heap.size + 2) 84 2 (.slice A acc.length c) acc.length (prs acc) := hownk0
        have hexK := key_scan s g k _ A acc.length c acc hs hks hmidw.2.1 hacc (own_sl hownw) hge
        cases hK : keyP s acc k with
        | error p =>
         have hexE : Calls Tryz.prog 148 #[.pointer (some ⟨g, 0, none⟩), .slice A acc.length c] (wr.drewN (q2 + 1)) (fun e w7 => e = .panicked [{ v := .iface 140 (.agg #[.int .i64 (p.1 : Nat), .int .i64 (p.2 : Nat)]), recovered := false }] ∧ (wr.drewN (q2 + 1)).grownBy w7 (some g)) := hexK.mono (by
          rintro e w7 ⟨hg7, hm⟩
          rw [hK] at hm
          exact ⟨hm, hg7⟩)
         have hend : ∀ w7, (wr.drewN (q2 + 1)).grownBy w7 (some g) → Tagged s g w (fault p) w7 := by
          intro w7 hg7
          have hF : tagP s = .error p := by
           rw [HF2.out, if_neg (by simp), hkeys.out, keysP_bad (by omega) HSP.out (by rw [hR]; exact hK)]
          refine ⟨hmidw.1.trans hg7, ?_⟩
          rw [hF]
         clear hexK
         go_wp2
         go_region_law (go_simp; refine hexE.mono ?_; rintro e w7 ⟨rfl, hg7⟩; go_simp; suffices _h : wpAny Tryz.prog Region.Mode.any #[] (fun _ _ _ => True) 0 #[] ⟨#[], []⟩ w7 from (show bodyPost Tryz.prog Tryz.f100 (Tagged s g w) (Exit.panic _) _ _ from ⟨rfl, hend w7 hg7⟩))
         all_goals trivial
        | ok r =>
         obtain ⟨p, L⟩ := r
         have hexE : Calls Tryz.prog 148 #[.pointer (some ⟨g, 0, none⟩), .slice A acc.length c] (wr.drewN (q2 + 1)) (fun e w7 => e = .returned (.agg #[str p.1, str p.2]) ∧ Mid w w7 g s L false nm (.slice A acc.length c) ∧ w7.ownsRow (w.heap.size + 2) 84 2 (.slice A acc.length c) acc.length (prs acc)) := hexK.mono (by
          rintro e w7 ⟨hg7, hm⟩
          rw [hK] at hm
          obtain ⟨hat7, v, rfl, rfl⟩ := hm
          exact ⟨rfl, hmidw.grown hgl hg7 hat7, hownw.kept hg7 (.inr (fun e => by have := (hownw.lt _ e).1; omega))⟩)
         clear hexK
         go_wp2
         go_region_law (first
          | (go_simp; refine hexE.mono ?_; rintro e w7 ⟨rfl, hmid7, hown7⟩; have d72 : w7.cell? ⟨w.heap.size + 1, 2, none⟩ = some (.slice A acc.length c) := hmid7.2.2.2.cell 2; have d7a : ∀ o, (w7.alloc o).cell? ⟨w.heap.size + 1, 2, none⟩ = some (.slice A acc.length c) := fun o => (hmid7.2.2.2.alloc o).cell 2; have d7f : w7.frozen? ⟨w.heap.size + 1, 2, none⟩ = false := hmid7.2.2.2.free 2; go_simp)
          | ((refine step_app _ rfl (.tmp 36) (.tmp 41) _ rfl (w.heap.size + 2) 84 i0 _ 2 32 Tryz.underlying64 hi0 hz0 hz1 hz2 rfl (by decide) (.slice A acc.length c) acc.length (prs acc) (by simp [Act.eval]) (hown7.alloc _) (some ⟨w7.heap.size, 0, none⟩) 1 1 [str p.1, str p.2] (by simp [Act.eval]) rfl (fun _ => ⟨_, rfl, news_two rfl⟩) (prs_one [p]) (by simp [maxLen]; omega) (by omega) (by have := hmid7.1.size; have := Blk.lt hmid7.2.2.2; simp; omega) ?_; intro v8 w8 own8 gr8 ob8; obtain ⟨A8, c8, rfl, hA8⟩ := own_slc own8; have hmid8 := (hmid7.over hgl (grown_alloc (row := none) _) (fun b e => by cases e)).over hgl gr8 (fun b e => (hown7.lt b e).1); have d82 : w8.cell? ⟨w.heap.size + 1, 2, none⟩ = some (.slice A acc.length c) := hmid8.2.2.2.cell 2; have d8f : w8.frozen? ⟨w.heap.size + 1, 2, none⟩ = false := hmid8.2.2.2.free 2)))
         all_goals
          go_wp2
          go_roundw
          case rel =>
           have hne8 := keyP_len hK
           have hLs := keyP_le hK
           refine ⟨acc ++ [p], L, A8, c8, by simp; omega, hLs, ?_, ?_, ?_⟩
           ·rw [List.length_append]
            exact hmid8.set_ hgl 2 _ rfl
           ·rw [prs_append, List.length_append]
            refine own8.kept (row := some (w.heap.size + 1)) ?_ (.inr (fun e => by have := (own8.lt _ e).1; omega))
            exact ⟨rfl, rfl, rfl, by simp, fun k _ hk => setCell_block (fun e => hk (by rw [e]))⟩
           ·show _ = _
            rw [hkeys.out]
            rcases keysP_go HSP.out (by rw [hR]; exact hK) with h | h
            ·exact h
            ·omega
          case measure =>
           have hne8 := keyP_len hK
           have m1 : (w8.setCell ⟨w.heap.size + 1, 2, none⟩ (.slice A8 (acc.length + 1) c8)).cell? ⟨w.heap.size + 1, 2, none⟩ = some (.slice A8 (acc.length + 1) c8) := (hmid8.set_ (nm' := nm) (cl' := false) hgl 2 _ rfl).2.2.2.cell 2
           rw [m1, d2]
           simp [rowLen]
           omega
     | false =>
      have HSP : s[j]? ≠ some 32 := by rw [beq_eq_false_iff_ne] at hsp; exact hsp
      have hk9 : keysP s 9 [] i = .ok (acc, j) := by rw [hkeys.out, keysP_stop _ HSP]
      have HF3 := Lib.hid (HF2.out.trans (by rw [if_neg (by simp), hk9]))
      clear hsp HSP hk9 HF2 hkeys
      simp only at HF3
      have hmidx := hmid.drewN q
      have hownx0 : (wo.drewN q).ownsRow (w.heap.size + 2) 84 2 (.slice A acc.length c) acc.length (prs acc) := hown
      have hownx := hownx0
      go_wp2_with fail
      refine (eat_any s g j 62 _ (by omega) hjs hmidx.2.1).mono ?_
      rintro e w7 ⟨hg7, hm⟩
      cases hE : eatP s 62 j with
      | error p =>
       rw [hE] at hm
       simp only [Except.map] at hm
       subst hm
       have HF4 : Hid (tagP s = .error p) := by show _ = _; rw [HF3.out, hE]
       clear hE HF3
       unfold fault
       go_wp2
       refine ⟨rfl, hmidx.1.trans hg7, ?_⟩
       rw [HF4.out]
       rfl
      | ok J =>
       rw [hE] at hm
       simp only [Except.map] at hm
       obtain ⟨hat7, v, rfl, rfl⟩ := hm
       obtain ⟨hJs, -⟩ := eatP_le hE
       have HF4 := Lib.hid (HF3.out.trans (by rw [hE]))
       clear hE HF3
       simp only at HF4
       have hmid7 := hmidx.grown hgl hg7 hat7
       have hown7 := hownx.kept hg7 (.inr (fun e => by have := (hownx.lt _ e).1; omega))
       have e0 := hmid7.2.1.c0
       have e1 := hmid7.2.1.c1
       by_cases hJl : J < s.length
       ·have HF5 : Hid (tagP s = .error (J, 3)) := by show _ = _; rw [HF4.out, if_pos hJl]
        clear HF4
        go_wp2
        go_quiet (fail)
        go_wp2
        refine ⟨rfl, hmid7.1.trans (grown_drewN _), ?_⟩
        rw [HF5.out]
        rfl
       ·have HF5 : Hid (tagP s = .ok (false, nm, sortP acc)) := by show _ = _; rw [HF4.out, if_neg hJl]
        clear HF4
        have t0 : w7.cell? ⟨w.heap.size + 1, 0, none⟩ = some (.bool false) := hmid7.2.2.2.cell 0
        have t1 : w7.cell? ⟨w.heap.size + 1, 1, none⟩ = some (str nm) := hmid7.2.2.2.cell 1
        have t2 : w7.cell? ⟨w.heap.size + 1, 2, none⟩ = some (.slice A (acc).length c) := hmid7.2.2.2.cell 2
        go_wp2
        go_quiet (fail)
        go_wp2_with fail
        have hown7d : (w7.drewN nq).ownsRow (w.heap.size + 2) 84 2 (.slice A acc.length c) acc.length (prs acc) := hown7
        refine (sorted_any A _ c acc (w7.drewN nq) (by omega) (own_sl hown7d)).mono ?_
        rintro e w8 ⟨v, rfl, own8, hb8⟩
        obtain ⟨A8, c8, rfl, -⟩ := own_slc own8
        have hmid8 : Mid w w8 g s J false nm _ := (hmid7.drewN nq).over hgl (grown_below (row := none) hb8) (fun b e => by cases e)
        have u0 : w8.cell? ⟨w.heap.size + 1, 0, none⟩ = some (.bool false) := hmid8.2.2.2.cell 0
        have u1 : w8.cell? ⟨w.heap.size + 1, 1, none⟩ = some (str nm) := hmid8.2.2.2.cell 1
        have u2 : w8.cell? ⟨w.heap.size + 1, 2, none⟩ = some (.slice A (acc).length c) := hmid8.2.2.2.cell 2
        have uf : w8.frozen? ⟨w.heap.size + 1, 2, none⟩ = false := hmid8.2.2.2.free 2
        have r0 : w8.cell? ⟨w.heap.size, 0, none⟩ = some (.bool false) := hmid8.2.2.1.cell 0
        have r1 : w8.cell? ⟨w.heap.size, 1, none⟩ = some (str []) := hmid8.2.2.1.cell 1
        have r2 : w8.cell? ⟨w.heap.size, 2, none⟩ = some (.slice none 0 0) := hmid8.2.2.1.cell 2
        have rf := fun k => hmid8.2.2.1.free k
        go_wp2
        have hmid9 := hmid8.set_ (cl' := false) (nm' := nm) (v' := .slice A8 (sortP acc).length c8) hgl 2 _ rfl
        have hb9 := ((hmid9.2.2.1.set_ 0 (.bool false)).set_ 1 (str nm)).set_ 2 (.slice A8 (sortP acc).length c8)
        have hne : ∀ (W : World) (k : Nat) (u : Value), W.grownBy (W.setCell ⟨w.heap.size, k, none⟩ u) (some w.heap.size) := fun W k u => ⟨rfl, rfl, rfl, by simp, fun j _ hj => setCell_block (fun e => hj (by rw [e]))⟩
        have hne' : ∀ (W : World) (k : Nat) (u : Value), W.grownBy (W.setCell ⟨w.heap.size + 1, k, none⟩ u) (some (w.heap.size + 1)) := fun W k u => ⟨rfl, rfl, rfl, by simp, fun j _ hj => setCell_block (fun e => hj (by rw [e]))⟩
        have h77 : w.heap.size + 2 ≤ (w7.drewN nq).heap.size := Blk.lt hmid7.2.2.2
        have own9 := own_base own8 h77
        have hob : ∀ k, k < w.heap.size + 2 → (Value.slice A8 (sortP acc).length c8).ownBlock = none ∨ (Value.slice A8 (sortP acc).length c8).ownBlock ≠ some k := fun k hk => .inr (fun e => by have := (own9.lt _ e).1; omega)
        have own10 := (((own9.kept (hne' w8 2 (.slice A8 (sortP acc).length c8)) (hob _ (by omega))).kept (hne _ 0 (.bool false)) (hob _ (by omega))).kept (hne _ 1 (str nm)) (hob _ (by omega))).kept (hne _ 2 (.slice A8 (sortP acc).length c8)) (hob _ (by omega))
        have hgr := grown_two hmid9.1 (w2 := (((w8.setCell ⟨w.heap.size + 1, 2, none⟩ (.slice A8 (sortP acc).length c8)).setCell ⟨w.heap.size, 0, none⟩ (.bool false)).setCell ⟨w.heap.size, 1, none⟩ (str nm)).setCell ⟨w.heap.size, 2, none⟩ (.slice A8 (sortP acc).length c8)) rfl rfl rfl (by simp) (fun k hk => ((setCell_block (by show k ≠ w.heap.size; omega)).trans (setCell_block (by show k ≠ w.heap.size; omega))).trans (setCell_block (by show k ≠ w.heap.size; omega)))
        go_wp2
        refine bodyPost_ret (results_cell_row rfl _ _ _ _ _ _ _ rfl hb9 Tryz.underlying106 rfl size_tag3) rfl ?_
        refine ⟨hgr, ?_⟩
        rw [HF5.out]
        exact ⟨_, rfl, own_base own10 (by omega)⟩
end Go.Proofs.YtgkdaebiefhgdaaGreatDoor
namespace Go.Proofs.YtgkdaebiefhgdaaGreatDoor
open Go.RowKit Utf Tagp
open Feat (Bs lt)
attribute [local go_sem] byte_mk ByteArray.extract_mk
def parseP (s : Bs) : (Bool × Bs × List KV) × Nat × Nat :=
 match tagP s with
 | .ok t => (t, 0, 0)
 | .error p => ((false, [], []), p.1, p.2)

def Parsed (s : Bs) (w : World) (e : Ending) (w' : World) : Prop :=
 ∃ v, e = .returned (.tuple #[.agg #[.bool (parseP s).1.1, str (parseP s).1.2.1, v], .int .i64 ((parseP s).2.1 : Nat), .int .i64 ((parseP s).2.2 : Nat)]) ∧
  w'.ownsRow w.heap.size 84 2 v (parseP s).1.2.2.length (prs (parseP s).1.2.2) ∧ Below w.heap.size w w'

def Res (w : World) (b : Nat) (t a n : Value) : Prop :=
 (∃ c, t = .agg c ∧ Blk w b 106 c) ∧ Blk w (b + 1) 3 #[a] ∧ Blk w (b + 2) 33 #[n]

set_option maxRecDepth 100000 in
theorem assert_hit (a n : Int) (w : World) : (Instr.typeAssert (.iface 140 (.agg #[.int .i64 a, .int .i64 n])) 20 140 true).run Tryz.prog w = .ok (.tuple #[.agg #[.int .i64 a, .int .i64 n], .bool true]) w := rfl
set_option maxRecDepth 100000 in
theorem assert_nil (w : World) : (Instr.typeAssert .nilIface 20 140 true).run Tryz.prog w = .ok (.tuple #[.agg #[.int .i64 0, .int .i64 0], .bool false]) w := rfl

theorem wpOpsS_catch {P : Program} {ops : Array Oper} {Q : Exit → Act → List Frame → World → Prop} {a : Act} {cs cs' : List Frame} {w w' : World} {i : Nat} {rest : List Nat} {o : Oper} {v : Value} (ho : ops[i]? = some o) (hg : o.guard = none)
  (hr : (execOp a.eval o).run P w = .ok .recover w') (hc : recoverD cs = some (v, cs')) (h : wpOpsS P ops Q rest (a.put o.dst v) cs' w') : wpOpsS P ops Q (i :: rest) a cs w := by
 have hw : Region.wanted o (yielded ops a.tmps) = true := by simp [Region.wanted, hg]
 simp only [wpOpsS, ho, hw, if_true, hr, hc]
 exact h
theorem wpOpsS_none {P : Program} {ops : Array Oper} {Q : Exit → Act → List Frame → World → Prop} {a : Act} {cs : List Frame} {w w' : World} {i : Nat} {rest : List Nat} {o : Oper} (ho : ops[i]? = some o) (hg : o.guard = none)
  (hr : (execOp a.eval o).run P w = .ok .recover w') (hc : recoverD cs = none) (h : wpOpsS P ops Q rest (a.put o.dst .nilIface) cs w') : wpOpsS P ops Q (i :: rest) a cs w := by
 have hw : Region.wanted o (yielded ops a.tmps) = true := by simp [Region.wanted, hg]
 simp only [wpOpsS, ho, hw, if_true, hr, hc]
 exact h

theorem catch_panicking (b : Nat) (c0 c1 c2 : Value) (a n : Int) (x y : Value) (older : List PanicEntry) (w : World) (hr : Res w b (.agg #[c0, c1, c2]) x y) :
  CallsD Tryz.prog 99 #[.pointer (some ⟨b, 0, none⟩), .pointer (some ⟨b + 1, 0, none⟩), .pointer (some ⟨b + 2, 0, none⟩)]
   (.panicking ({ v := .iface 140 (.agg #[.int .i64 a, .int .i64 n]), recovered := false } :: older)) w fun e u' w' =>
   e = .returned (.tuple #[]) ∧ u' = .panicking ({ v := .iface 140 (.agg #[.int .i64 a, .int .i64 n]), recovered := true } :: older) ∧
    Res w' b (.agg #[.bool false, str [], .slice none 0 0]) (.int .i64 a) (.int .i64 n) ∧ Below b w w' := by
 refine callsD_of_wpS Tryz.func99 rfl fun c₀ cs hu => ?_
 simp only [Tryz.ntmps99, List.size_toArray, List.length_cons, List.length_nil, Nat.reduceAdd, Nat.reduceSub, Array.replicate_succ,
    Array.replicate_zero, List.push_toArray, List.append_toArray, List.nil_append, List.cons_append]
 apply wpS_seq
 apply wpS_region
 simp only [List.size_toArray, List.length_cons, List.length_nil, Nat.reduceAdd]
 rw [show List.range 8 = [0, 1, 2, 3, 4, 5, 6, 7] from rfl]
 refine wpOpsS_catch rfl rfl rfl (by simp only [recoverD, hu]; rfl) ?_
 simp only [Act.put, List.setIfInBounds_toArray]
 simp [wpOpsS, go_sem, assert_hit, Exit.thenS]
 obtain ⟨⟨c, hc, h0⟩, h1, h2⟩ := hr
 obtain rfl : c = #[c0, c1, c2] := by cases hc; rfl
 have hl0 := h0.lt
 have hl1 := h1.lt
 have hl2 := h2.lt
 have al := fun o => (h0.alloc o).cell 0
 have al1 := fun o => (h0.alloc o).cell 1
 have al2 := fun o => (h0.alloc o).cell 2
 have am := fun o => (h1.alloc o).cell 0
 have an := fun o => (h2.alloc o).cell 0
 have bl := h0.cell 0
 have bl1 := h0.cell 1
 have bl2 := h0.cell 2
 have bm := h1.cell 0
 have bn := h2.cell 0
 have f0 := fun k => h0.free k
 have f1 := fun k => h1.free k
 have f2 := fun k => h2.free k
 refine wpS_of_wp ?_
 go_wp2
 go_region
 refine (show bodyPostS Tryz.prog Tryz.f99 c₀ cs _ Exit.normal _ ({ c₀ with mode := .panicking ({ v := .iface 140 (.agg #[.int .i64 a, .int .i64 n]), recovered := true } :: older) } :: cs) _ from ⟨rfl, _, rfl, .tuple #[], results_none rfl _ _ _, rfl, rfl, ⟨⟨_, rfl, ?_⟩, ?_, ?_⟩, ?_⟩)
 ·exact Blk.alloc (((((h0.set_ 0 _).set_ 1 _).set_ 2 _).other (by show b + 1 ≠ b; omega) _).other (by show b + 2 ≠ b; omega) _) _
 ·exact Blk.alloc (((((h1.other (by show b ≠ b + 1; omega) _).other (by show b ≠ b + 1; omega) _).other (by show b ≠ b + 1; omega) _).set_ 0 _).other (by show b + 2 ≠ b + 1; omega) _) _
 ·exact Blk.alloc (((((h2.other (by show b ≠ b + 2; omega) _).other (by show b ≠ b + 2; omega) _).other (by show b ≠ b + 2; omega) _).other (by show b + 1 ≠ b + 2; omega) _).set_ 0 _) _
 ·exact (((((((Below.refl b w).setCell (p := ⟨b, 0, none⟩) (Nat.le_refl _) _).setCell (p := ⟨b, 1, none⟩) (Nat.le_refl _) _).setCell (p := ⟨b, 2, none⟩) (Nat.le_refl _) _).setCell (p := ⟨b + 1, 0, none⟩) (Nat.le_succ _) _).setCell (p := ⟨b + 2, 0, none⟩) (by show b ≤ b + 2; omega) _).alloc (by simp; omega) _).drew
theorem catch_idle (b : Nat) (w : World) :
  CallsD Tryz.prog 99 #[.pointer (some ⟨b, 0, none⟩), .pointer (some ⟨b + 1, 0, none⟩), .pointer (some ⟨b + 2, 0, none⟩)] .returning w fun e u' w' =>
   e = .returned (.tuple #[]) ∧ u' = .returning ∧ Below w.heap.size w w' := by
 refine callsD_of_wpS Tryz.func99 rfl fun c₀ cs hu => ?_
 simp only [Tryz.ntmps99, List.size_toArray, List.length_cons, List.length_nil, Nat.reduceAdd, Nat.reduceSub, Array.replicate_succ,
    Array.replicate_zero, List.push_toArray, List.append_toArray, List.nil_append, List.cons_append]
 apply wpS_seq
 apply wpS_region
 simp only [List.size_toArray, List.length_cons, List.length_nil, Nat.reduceAdd]
 rw [show List.range 8 = [0, 1, 2, 3, 4, 5, 6, 7] from rfl]
 refine wpOpsS_none rfl rfl rfl (by simp only [recoverD, hu]) ?_
 simp only [Act.put, List.setIfInBounds_toArray]
 simp [wpOpsS, go_sem, assert_nil, Exit.thenS]
 refine wpS_of_wp ?_
 go_wp2
 simp [bodyPostS, results, Tryz.results99]
 exact ⟨.returning, by rw [← hu], rfl, (Below.refl _ _).alloc (Nat.le_refl _) _⟩

theorem res_start (w : World) (s : Bs) : Res ((((w.alloc (.cells #[.bool false, str [], .slice none 0 0] 106)).alloc (.cells #[.int .i64 0] 3)).alloc (.cells #[.int .i64 0] 33)).alloc (.cells #[str s, .int .i64 0] 143)) w.heap.size (.agg #[.bool false, str [], .slice none 0 0]) (.int .i64 0) (.int .i64 0) ∧
  AtS ((((w.alloc (.cells #[.bool false, str [], .slice none 0 0] 106)).alloc (.cells #[.int .i64 0] 3)).alloc (.cells #[.int .i64 0] 33)).alloc (.cells #[str s, .int .i64 0] 143)) (w.heap.size + 3) s 0 ∧
  Below w.heap.size w ((((w.alloc (.cells #[.bool false, str [], .slice none 0 0] 106)).alloc (.cells #[.int .i64 0] 3)).alloc (.cells #[.int .i64 0] 33)).alloc (.cells #[str s, .int .i64 0] 143)) := by
 have e1 : (w.alloc (.cells #[.bool false, str [], .slice none 0 0] 106)).heap.size = w.heap.size + 1 := by simp
 have e2 : ((w.alloc (.cells #[.bool false, str [], .slice none 0 0] 106)).alloc (.cells #[.int .i64 0] 3)).heap.size = w.heap.size + 2 := by simp
 have e3 : (((w.alloc (.cells #[.bool false, str [], .slice none 0 0] 106)).alloc (.cells #[.int .i64 0] 3)).alloc (.cells #[.int .i64 0] 33)).heap.size = w.heap.size + 3 := by simp
 have n0 := Blk.new w 106 #[.bool false, str [], .slice none 0 0]
 have n1 := Blk.new (w.alloc (.cells #[.bool false, str [], .slice none 0 0] 106)) 3 #[.int .i64 0]
 have n2 := Blk.new ((w.alloc (.cells #[.bool false, str [], .slice none 0 0] 106)).alloc (.cells #[.int .i64 0] 3)) 33 #[.int .i64 0]
 have n3 := Blk.new (((w.alloc (.cells #[.bool false, str [], .slice none 0 0] 106)).alloc (.cells #[.int .i64 0] 3)).alloc (.cells #[.int .i64 0] 33)) 143 #[str s, .int .i64 0]
 rw [e1] at n1
 rw [e2] at n2
 rw [e3] at n3
 exact ⟨⟨⟨_, rfl, ((n0.alloc _).alloc _).alloc _⟩, (n1.alloc _).alloc _, n2.alloc _⟩, n3,
  ((((Below.refl _ w).alloc (Nat.le_refl _) _).alloc (by omega) _).alloc (by omega) _).alloc (by omega) _⟩
theorem Res.grown {w w' : World} {b g : Nat} {t a n : Value} (h : Res w b t a n) (hg : w.grownBy w' (some g)) (hb : b + 3 ≤ g) : Res w' b t a n := by
 obtain ⟨⟨c, hc, h0⟩, h1, h2⟩ := h
 exact ⟨⟨c, hc, h0.grown hg (by omega)⟩, h1.grown hg (by omega), h2.grown hg (by omega)⟩
theorem loadVar_plain {P : Program} {w : World} {ty : TypeId} {d : TypeDesc} {a : Addr} {v : Value} (hu : P.underlying ty = some d) (hd : (match d with | .struct _ | .array _ _ => true | _ => false) = false) (hc : w.cell? a = some v) : (loadVar ty a).run P w = .ok v w := by
 have hagg : (isAgg ty).run P w = .ok false w := by
  unfold isAgg
  rw [Sem.run_bind, run_underlying hu w]
  cases d <;> simp_all
 simp [loadVar, Sem.run_bind, hagg, hc]
theorem results_tag {w : World} {b : Nat} {x y z a n : Value} (tmps : Array Value) (h : Res w b (.agg #[x, y, z]) a n) (h2 : tmps.getD 2 undef = .pointer (some ⟨b, 0, none⟩)) (h3 : tmps.getD 3 undef = .pointer (some ⟨b + 1, 0, none⟩)) (h4 : tmps.getD 4 undef = .pointer (some ⟨b + 2, 0, none⟩)) :
  (results Tryz.f59 tmps).run Tryz.prog w = .ok (.tuple #[.agg #[x, y, z], a, n]) w := by
 obtain ⟨⟨c, hc, q0⟩, q1, q2⟩ := h
 obtain rfl : c = #[x, y, z] := by cases hc; rfl
 have l0 := run_loadVar_row (P := Tryz.prog) w b 106 106 #[x, y, z] (0, 0) _ q0 Tryz.underlying106 rfl size_tag3
 have l1 := loadVar_plain (P := Tryz.prog) Tryz.underlying3 rfl (q1.cell 0)
 have l2 := loadVar_plain (P := Tryz.prog) Tryz.underlying33 rfl (q2.cell 0)
 simp only [Array.getD_eq_getD_getElem?] at h2 h3 h4
 simp [results, Tryz.results59, h2, h3, h4, asAddr, l0, l1, l2, Result.andThen]
theorem below_of_grown {B g : Nat} {w0 w w' : World} (h : Below B w0 w) (hg : w.grownBy w' (some g)) (hb : B ≤ g) (hs : B ≤ w.heap.size) : Below B w0 w' :=
 h.grown hg hs (fun k hk => by cases hk; exact hb)

set_option maxRecDepth 100000 in
set_option maxHeartbeats 800000 in
theorem parseTag_any (s : Bs) (w : World) (hs : s.length ≤ 17592186044416) : Calls Tryz.prog 59 #[str s] w (Parsed s w) := by
 have hmf : ∀ (fn : Fn) (first cap : Array Value) (w : World), (Instr.makeFunc fn first cap).run Tryz.prog w = .ok (.func fn first cap) w := fun _ _ _ _ => rfl
 go_enter_defers Tryz.func59, Tryz.ntmps59
 go_wp2_with fail
 obtain ⟨hr0, ha0, hb0⟩ := res_start w s
 have hs3 := Blk.lt ha0
 refine (tag_scan s _ _ hs ha0).mono ?_
 rintro e w5 ⟨hg5, hm⟩
 have hr5 := hr0.grown hg5 (Nat.le_refl _)
 have hb5 := below_of_grown hb0 hg5 (by omega) (by omega)
 cases hT : tagP s with
 | error p =>
  rw [hT] at hm
  simp only at hm
  subst hm
  have HF : Hid (parseP s = ((false, [], []), p.1, p.2)) := by show _ = _; unfold parseP; rw [hT]
  clear hT
  unfold fault
  go_wp2
  refine leaves_cons (f := 99) (args := #[.pointer (some ⟨w.heap.size, 0, none⟩), .pointer (some ⟨w.heap.size + 1, 0, none⟩), .pointer (some ⟨w.heap.size + 2, 0, none⟩)]) (by simp) (by simp [go_sem]) ?_
  refine (catch_panicking w.heap.size _ _ _ _ _ _ _ [] w5 hr5).mono ?_
  rintro e u' w6 ⟨rfl, rfl, hr6, hb6⟩
  refine ⟨_, results_tag _ hr6 rfl rfl rfl, .slice none 0 0, ?_, ?_, hb5.trans hb6⟩
  ·rw [HF.out]
  ·rw [HF.out]
   exact World.ownsRow_nil _ _ _ _
 | ok t =>
  obtain ⟨cl, nm, l⟩ := t
  rw [hT] at hm
  simp only at hm
  obtain ⟨v, rfl, hown⟩ := hm
  have HF : Hid (parseP s = ((cl, nm, l), 0, 0)) := by show _ = _; unfold parseP; rw [hT]
  clear hT
  obtain ⟨A, cc, rfl, -⟩ := own_slc hown
  obtain ⟨⟨c, hc, h0⟩, h1, h2⟩ := hr5
  obtain rfl : c = #[.bool false, str [], .slice none 0 0] := by cases hc; rfl
  have bl := h0.cell 0
  have bl1 := h0.cell 1
  have bl2 := h0.cell 2
  have bm := h1.cell 0
  have bn := h2.cell 0
  have f0 := fun k => h0.free k
  have f1 := fun k => h1.free k
  have f2 := fun k => h2.free k
  go_wp2
  refine leaves_cons (f := 99) (args := #[.pointer (some ⟨w.heap.size, 0, none⟩), .pointer (some ⟨w.heap.size + 1, 0, none⟩), .pointer (some ⟨w.heap.size + 2, 0, none⟩)]) (by simp) (by simp [go_sem]) ?_
  refine (catch_idle w.heap.size _).mono ?_
  rintro e u' w6 ⟨rfl, rfl, hb6⟩
  have hb7 : Below w.heap.size w (((((w5.setCell ⟨w.heap.size, 0, none⟩ (.bool cl)).setCell ⟨w.heap.size, 1, none⟩ (str nm)).setCell ⟨w.heap.size, 2, none⟩ (.slice A l.length cc)).setCell ⟨w.heap.size + 1, 0, none⟩ (.int .i64 0)).setCell ⟨w.heap.size + 2, 0, none⟩ (.int .i64 0)) :=
   ((((hb5.setCell (p := ⟨w.heap.size, 0, none⟩) (Nat.le_refl _) _).setCell (p := ⟨w.heap.size, 1, none⟩) (Nat.le_refl _) _).setCell (p := ⟨w.heap.size, 2, none⟩) (Nat.le_refl _) _).setCell (p := ⟨w.heap.size + 1, 0, none⟩) (Nat.le_succ _) _).setCell (p := ⟨w.heap.size + 2, 0, none⟩) (by show w.heap.size ≤ w.heap.size + 2; omega) _
  have q0 := ((((h0.set_ 0 (.bool cl)).set_ 1 (str nm)).set_ 2 (.slice A l.length cc)).other (p := ⟨w.heap.size + 1, 0, none⟩) (by show w.heap.size + 1 ≠ w.heap.size; omega) (.int .i64 0)).other (p := ⟨w.heap.size + 2, 0, none⟩) (by show w.heap.size + 2 ≠ w.heap.size; omega) (.int .i64 0)
  have q1 := ((((h1.other (p := ⟨w.heap.size, 0, none⟩) (by show w.heap.size ≠ w.heap.size + 1; omega) (.bool cl)).other (p := ⟨w.heap.size, 1, none⟩) (by show w.heap.size ≠ w.heap.size + 1; omega) (str nm)).other (p := ⟨w.heap.size, 2, none⟩) (by show w.heap.size ≠ w.heap.size + 1; omega) (.slice A l.length cc)).set_ 0 (.int .i64 0)).other (p := ⟨w.heap.size + 2, 0, none⟩) (by show w.heap.size + 2 ≠ w.heap.size + 1; omega) (.int .i64 0)
  have q2 := ((((h2.other (p := ⟨w.heap.size, 0, none⟩) (by show w.heap.size ≠ w.heap.size + 2; omega) (.bool cl)).other (p := ⟨w.heap.size, 1, none⟩) (by show w.heap.size ≠ w.heap.size + 2; omega) (str nm)).other (p := ⟨w.heap.size, 2, none⟩) (by show w.heap.size ≠ w.heap.size + 2; omega) (.slice A l.length cc)).other (p := ⟨w.heap.size + 1, 0, none⟩) (by show w.heap.size + 1 ≠ w.heap.size + 2; omega) (.int .i64 0)).set_ 0 (.int .i64 0)
  have hr6 : Res w6 w.heap.size (.agg #[.bool cl, str nm, .slice A l.length cc]) (.int .i64 0) (.int .i64 0) := ⟨⟨_, rfl, q0.below hb6⟩, q1.below hb6, q2.below hb6⟩
  have hob : ∀ k, k < w.heap.size + 3 → (Value.slice A l.length cc).ownBlock = none ∨ (Value.slice A l.length cc).ownBlock ≠ some k := fun k hk => .inr (fun e => by have := (hown.lt _ e).1; omega)
  have hne : ∀ (W : World) (b k : Nat) (u : Value), W.grownBy (W.setCell ⟨b, k, none⟩ u) (some b) := fun W b k u => ⟨rfl, rfl, rfl, by simp, fun j _ hj => setCell_block (fun e => hj (by rw [e]))⟩
  have own6 := (((((hown.kept (hne _ w.heap.size 0 (.bool cl)) (hob _ (by omega))).kept (hne _ w.heap.size 1 (str nm)) (hob _ (by omega))).kept (hne _ w.heap.size 2 (.slice A l.length cc)) (hob _ (by omega))).kept (hne _ (w.heap.size + 1) 0 (.int .i64 0)) (hob _ (by omega))).kept (hne _ (w.heap.size + 2) 0 (.int .i64 0)) (hob _ (by omega))).kept (grown_below (row := none) hb6) (by cases (Value.slice A l.length cc).ownBlock with
   | none => exact .inl rfl
   | some _ => exact .inr (by simp))
  refine ⟨_, results_tag _ hr6 rfl rfl rfl, .slice A l.length cc, ?_, ?_, hb7.trans (Below.mono hb6 hb7.size)⟩
  ·rw [HF.out]
   rfl
  ·rw [HF.out]
   exact own_base own6 (by omega)
end Go.Proofs.YtgkdaebiefhgdaaGreatDoor
