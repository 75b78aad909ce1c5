/-
  The contract of markup.ParseTag. Condition: the text has at most 2 to the 44th bytes.
-/
import Derived.Test.YteccopnlpllliaaMarkTag
import Derived.Defers
import Derived.Recover
import Derived.Laws.Pointers
namespace Go.Proofs.Yteccopnlpllliaa
open Go.RowKit Utf Tagp
open Feat (Bs lt)
attribute [local go_sem] byte_mk ByteArray.extract_mk

/-- The tag, the place and the error. -/
def parseP (s : Bs) : (Bool × Bs × List KV) × Nat × Nat :=
  match tagP s with
  | .ok t => (t, 0, 0)
  | .error p => ((false, [], []), p.1, p.2)

def Parsed (s : Bs) (w : World) (e : Ending) (w' : World) : Prop :=
  ∃ v, e = .returned (.tuple #[.agg #[.bool (parseP s).1.1, str (parseP s).1.2.1, v], .int .i64 ((parseP s).2.1 : Nat), .int .i64 ((parseP s).2.2 : Nat)]) ∧
    w'.ownsRow w.heap.size 52 2 v (parseP s).1.2.2.length (prs (parseP s).1.2.2) ∧ Below w.heap.size w w'

/-- The three results' variables, from block b on. -/
def Res (w : World) (b : Nat) (t a n : Value) : Prop :=
  (∃ c, t = .agg c ∧ Blk w b 33 c) ∧ Blk w (b + 1) 3 #[a] ∧ Blk w (b + 2) 24 #[n]

theorem Blk.other {w : World} {g : Nat} {t : TypeId} {cs : Array Value} (h : Blk w g t cs) {p : Addr} (hp : p.block ≠ g) (u : Value) : Blk (w.setCell p u) g t cs := (setCell_block (fun e => hp e.symm)).trans h
theorem assert_hit (a n : Int) (w : World) : (Instr.typeAssert (.iface 59 (.agg #[.int .i64 a, .int .i64 n])) 20 59 true).run Try.prog w = .ok (.tuple #[.agg #[.int .i64 a, .int .i64 n], .bool true]) w := rfl
theorem assert_nil (w : World) : (Instr.typeAssert .nilIface 20 59 true).run Try.prog w = .ok (.tuple #[.agg #[.int .i64 0, .int .i64 0], .bool false]) w := rfl

theorem wpOpsS_value {P : Program} {ops : Array Oper} {Q : Exit → Act → List Frame → World → Prop} {a : Act} {cs : List Frame} {w w' : World} {i : Nat} {rest : List Nat} {o : Oper} {v : Value} (ho : ops[i]? = some o) (hg : o.guard = none)
    (hr : (execOp a.eval o).run P w = .ok (.value v) w') (h : wpOpsS P ops Q rest (a.put o.dst v) cs w') : wpOpsS P ops Q (i :: rest) a cs w := by
  have hw : Region.wanted o (yielded ops a.tmps) = true := by simp [Region.wanted, hg]
  simp only [wpOpsS, ho, hw, if_true, hr]
  exact h
theorem wpOpsS_skip {P : Program} {ops : Array Oper} {Q : Exit → Act → List Frame → World → Prop} {a : Act} {cs : List Frame} {w w' : World} {i : Nat} {rest : List Nat} {o : Oper} (ho : ops[i]? = some o) (hg : o.guard = none)
    (hr : (execOp a.eval o).run P w = .ok .skip w') (h : wpOpsS P ops Q rest (a.put o.dst undef) cs w') : wpOpsS P ops Q (i :: rest) a cs w := by
  have hw : Region.wanted o (yielded ops a.tmps) = true := by simp [Region.wanted, hg]
  simp only [wpOpsS, ho, hw, if_true, hr]
  exact h
theorem wpOpsS_catch {P : Program} {ops : Array Oper} {Q : Exit → Act → List Frame → World → Prop} {a : Act} {cs cs' : List Frame} {w w' : World} {i : Nat} {rest : List Nat} {o : Oper} {v : Value} (ho : ops[i]? = some o) (hg : o.guard = none)
    (hr : (execOp a.eval o).run P w = .ok .recover w') (hc : recoverD cs = some (v, cs')) (h : wpOpsS P ops Q rest (a.put o.dst v) cs' w') : wpOpsS P ops Q (i :: rest) a cs w := by
  have hw : Region.wanted o (yielded ops a.tmps) = true := by simp [Region.wanted, hg]
  simp only [wpOpsS, ho, hw, if_true, hr, hc]
  exact h
theorem wpOpsS_none {P : Program} {ops : Array Oper} {Q : Exit → Act → List Frame → World → Prop} {a : Act} {cs : List Frame} {w w' : World} {i : Nat} {rest : List Nat} {o : Oper} (ho : ops[i]? = some o) (hg : o.guard = none)
    (hr : (execOp a.eval o).run P w = .ok .recover w') (hc : recoverD cs = none) (h : wpOpsS P ops Q rest (a.put o.dst .nilIface) cs w') : wpOpsS P ops Q (i :: rest) a cs w := by
  have hw : Region.wanted o (yielded ops a.tmps) = true := by simp [Region.wanted, hg]
  simp only [wpOpsS, ho, hw, if_true, hr, hc]
  exact h

theorem catch_panicking (b : Nat) (c0 c1 c2 : Value) (a n : Int) (x y : Value) (older : List PanicEntry) (w : World) (hr : Res w b (.agg #[c0, c1, c2]) x y) :
    CallsD Try.prog 40 #[.pointer (some ⟨b, 0, none⟩), .pointer (some ⟨b + 1, 0, none⟩), .pointer (some ⟨b + 2, 0, none⟩)]
      (.panicking ({ v := .iface 59 (.agg #[.int .i64 a, .int .i64 n]), recovered := false } :: older)) w fun e u' w' =>
      e = .returned (.tuple #[]) ∧ u' = .panicking ({ v := .iface 59 (.agg #[.int .i64 a, .int .i64 n]), recovered := true } :: older) ∧
        Res w' b (.agg #[.bool false, str [], .slice none 0 0]) (.int .i64 a) (.int .i64 n) ∧ Below b w w' := by
  refine callsD_of_wpS Try.func40 rfl fun c₀ cs hu => ?_
  simp only [Try.ntmps40, List.size_toArray, List.length_cons, List.length_nil, Nat.reduceAdd, Nat.reduceSub, Array.replicate_succ,
     Array.replicate_zero, List.push_toArray, List.append_toArray, List.nil_append, List.cons_append]
  apply wpS_seq
  apply wpS_region
  simp only [List.size_toArray, List.length_cons, List.length_nil, Nat.reduceAdd]
  rw [show List.range 8 = [0, 1, 2, 3, 4, 5, 6, 7] from rfl]
  refine wpOpsS_catch rfl rfl rfl (by simp only [recoverD, hu]; rfl) ?_
  simp only [Act.put, List.setIfInBounds_toArray]
  simp [wpOpsS, go_sem, assert_hit, Exit.thenS]
  obtain ⟨⟨c, hc, h0⟩, h1, h2⟩ := hr
  obtain rfl : c = #[c0, c1, c2] := by cases hc; rfl
  have hl0 := h0.lt
  have hl1 := h1.lt
  have hl2 := h2.lt
  have al := fun o => (h0.alloc o).cell 0
  have al1 := fun o => (h0.alloc o).cell 1
  have al2 := fun o => (h0.alloc o).cell 2
  have am := fun o => (h1.alloc o).cell 0
  have an := fun o => (h2.alloc o).cell 0
  have bl := h0.cell 0
  have bl1 := h0.cell 1
  have bl2 := h0.cell 2
  have bm := h1.cell 0
  have bn := h2.cell 0
  have f0 := fun k => h0.free k
  have f1 := fun k => h1.free k
  have f2 := fun k => h2.free k
  refine wpS_of_wp ?_
  go_wp2
  go_region
  refine (show bodyPostS Try.prog Try.f40 c₀ cs _ Exit.normal _ ({ c₀ with mode := .panicking ({ v := .iface 59 (.agg #[.int .i64 a, .int .i64 n]), recovered := true } :: older) } :: cs) _ from ⟨rfl, _, rfl, .tuple #[], results_none rfl _ _ _, rfl, rfl, ⟨⟨_, rfl, ?_⟩, ?_, ?_⟩, ?_⟩)
  · exact Blk.alloc (((((h0.set_ 0 _).set_ 1 _).set_ 2 _).other (by show b + 1 ≠ b; omega) _).other (by show b + 2 ≠ b; omega) _) _
  · exact Blk.alloc (((((h1.other (by show b ≠ b + 1; omega) _).other (by show b ≠ b + 1; omega) _).other (by show b ≠ b + 1; omega) _).set_ 0 _).other (by show b + 2 ≠ b + 1; omega) _) _
  · exact Blk.alloc (((((h2.other (by show b ≠ b + 2; omega) _).other (by show b ≠ b + 2; omega) _).other (by show b ≠ b + 2; omega) _).other (by show b + 1 ≠ b + 2; omega) _).set_ 0 _) _
  · exact (((((((Below.refl b w).setCell (p := ⟨b, 0, none⟩) (Nat.le_refl _) _).setCell (p := ⟨b, 1, none⟩) (Nat.le_refl _) _).setCell (p := ⟨b, 2, none⟩) (Nat.le_refl _) _).setCell (p := ⟨b + 1, 0, none⟩) (Nat.le_succ _) _).setCell (p := ⟨b + 2, 0, none⟩) (by show b ≤ b + 2; omega) _).alloc (by simp; omega) _).drew
theorem catch_idle (b : Nat) (w : World) :
    CallsD Try.prog 40 #[.pointer (some ⟨b, 0, none⟩), .pointer (some ⟨b + 1, 0, none⟩), .pointer (some ⟨b + 2, 0, none⟩)] .returning w fun e u' w' =>
      e = .returned (.tuple #[]) ∧ u' = .returning ∧ Below w.heap.size w w' := by
  refine callsD_of_wpS Try.func40 rfl fun c₀ cs hu => ?_
  simp only [Try.ntmps40, List.size_toArray, List.length_cons, List.length_nil, Nat.reduceAdd, Nat.reduceSub, Array.replicate_succ,
     Array.replicate_zero, List.push_toArray, List.append_toArray, List.nil_append, List.cons_append]
  apply wpS_seq
  apply wpS_region
  simp only [List.size_toArray, List.length_cons, List.length_nil, Nat.reduceAdd]
  rw [show List.range 8 = [0, 1, 2, 3, 4, 5, 6, 7] from rfl]
  refine wpOpsS_none rfl rfl rfl (by simp only [recoverD, hu]) ?_
  simp only [Act.put, List.setIfInBounds_toArray]
  simp [wpOpsS, go_sem, assert_nil, Exit.thenS]
  refine wpS_of_wp ?_
  go_wp2
  simp [bodyPostS, results, Try.results40]
  exact ⟨.returning, by rw [← hu], rfl, (Below.refl _ _).alloc (Nat.le_refl _) _⟩

theorem res_start (w : World) (s : Bs) : Res ((((w.alloc (.cells #[.bool false, str [], .slice none 0 0] 33)).alloc (.cells #[.int .i64 0] 3)).alloc (.cells #[.int .i64 0] 24)).alloc (.cells #[str s, .int .i64 0] 62)) w.heap.size (.agg #[.bool false, str [], .slice none 0 0]) (.int .i64 0) (.int .i64 0) ∧
    At ((((w.alloc (.cells #[.bool false, str [], .slice none 0 0] 33)).alloc (.cells #[.int .i64 0] 3)).alloc (.cells #[.int .i64 0] 24)).alloc (.cells #[str s, .int .i64 0] 62)) (w.heap.size + 3) s 0 ∧
    Below w.heap.size w ((((w.alloc (.cells #[.bool false, str [], .slice none 0 0] 33)).alloc (.cells #[.int .i64 0] 3)).alloc (.cells #[.int .i64 0] 24)).alloc (.cells #[str s, .int .i64 0] 62)) := by
  have e1 : (w.alloc (.cells #[.bool false, str [], .slice none 0 0] 33)).heap.size = w.heap.size + 1 := by simp
  have e2 : ((w.alloc (.cells #[.bool false, str [], .slice none 0 0] 33)).alloc (.cells #[.int .i64 0] 3)).heap.size = w.heap.size + 2 := by simp
  have e3 : (((w.alloc (.cells #[.bool false, str [], .slice none 0 0] 33)).alloc (.cells #[.int .i64 0] 3)).alloc (.cells #[.int .i64 0] 24)).heap.size = w.heap.size + 3 := by simp
  have n0 := Blk.new w 33 #[.bool false, str [], .slice none 0 0]
  have n1 := Blk.new (w.alloc (.cells #[.bool false, str [], .slice none 0 0] 33)) 3 #[.int .i64 0]
  have n2 := Blk.new ((w.alloc (.cells #[.bool false, str [], .slice none 0 0] 33)).alloc (.cells #[.int .i64 0] 3)) 24 #[.int .i64 0]
  have n3 := Blk.new (((w.alloc (.cells #[.bool false, str [], .slice none 0 0] 33)).alloc (.cells #[.int .i64 0] 3)).alloc (.cells #[.int .i64 0] 24)) 62 #[str s, .int .i64 0]
  rw [e1] at n1
  rw [e2] at n2
  rw [e3] at n3
  exact ⟨⟨⟨_, rfl, ((n0.alloc _).alloc _).alloc _⟩, (n1.alloc _).alloc _, n2.alloc _⟩, n3,
    ((((Below.refl _ w).alloc (Nat.le_refl _) _).alloc (by omega) _).alloc (by omega) _).alloc (by omega) _⟩
theorem Res.grown {w w' : World} {b g : Nat} {t a n : Value} (h : Res w b t a n) (hg : w.grownBy w' (some g)) (hb : b + 3 ≤ g) : Res w' b t a n := by
  obtain ⟨⟨c, hc, h0⟩, h1, h2⟩ := h
  exact ⟨⟨c, hc, h0.grown hg (by omega)⟩, h1.grown hg (by omega), h2.grown hg (by omega)⟩
theorem loadVar_plain {P : Program} {w : World} {ty : TypeId} {d : TypeDesc} {a : Addr} {v : Value} (hu : P.underlying ty = some d) (hd : (match d with | .struct _ | .array _ _ => true | _ => false) = false) (hc : w.cell? a = some v) : (loadVar ty a).run P w = .ok v w := by
  have hagg : (isAgg ty).run P w = .ok false w := by
    unfold isAgg
    rw [Sem.run_bind, run_underlying hu w]
    cases d <;> simp_all
  simp [loadVar, Sem.run_bind, hagg, hc]
theorem results_tag {w : World} {b : Nat} {x y z a n : Value} (tmps : Array Value) (h : Res w b (.agg #[x, y, z]) a n) (h2 : tmps.getD 2 undef = .pointer (some ⟨b, 0, none⟩)) (h3 : tmps.getD 3 undef = .pointer (some ⟨b + 1, 0, none⟩)) (h4 : tmps.getD 4 undef = .pointer (some ⟨b + 2, 0, none⟩)) :
    (results Try.f23 tmps).run Try.prog w = .ok (.tuple #[.agg #[x, y, z], a, n]) w := by
  obtain ⟨⟨c, hc, q0⟩, q1, q2⟩ := h
  obtain rfl : c = #[x, y, z] := by cases hc; rfl
  have l0 := run_loadVar_row (P := Try.prog) w b 33 33 #[x, y, z] (0, 0) _ q0 Try.underlying33 rfl size_tag3
  have l1 := loadVar_plain (P := Try.prog) Try.underlying3 rfl (q1.cell 0)
  have l2 := loadVar_plain (P := Try.prog) Try.underlying24 rfl (q2.cell 0)
  simp only [Array.getD_eq_getD_getElem?] at h2 h3 h4
  simp [results, Try.results23, h2, h3, h4, asAddr, l0, l1, l2, Result.andThen]
theorem below_of_grown {B g : Nat} {w0 w w' : World} (h : Below B w0 w) (hg : w.grownBy w' (some g)) (hb : B ≤ g) (hs : B ≤ w.heap.size) : Below B w0 w' :=
  h.grown hg hs (fun k hk => by cases hk; exact hb)

set_option maxRecDepth 100000 in
set_option maxHeartbeats 800000 in
theorem parseTag_any (s : Bs) (w : World) (hs : s.length ≤ 17592186044416) : Calls Try.prog 23 #[str s] w (Parsed s w) := by
  have hmf : ∀ (fn : Fn) (first cap : Array Value) (w : World), (Instr.makeFunc fn first cap).run Try.prog w = .ok (.func fn first cap) w := fun _ _ _ _ => rfl
  go_enter_defers Try.func23, Try.ntmps23
  go_wp2_with fail
  obtain ⟨hr0, ha0, hb0⟩ := res_start w s
  have hs3 := Blk.lt ha0
  refine (tag_scan s _ _ hs ha0).mono ?_
  rintro e w5 ⟨hg5, hm⟩
  have hr5 := hr0.grown hg5 (Nat.le_refl _)
  have hb5 := below_of_grown hb0 hg5 (by omega) (by omega)
  cases hT : tagP s with
  | error p =>
    rw [hT] at hm
    simp only at hm
    subst hm
    have HF : Hid (parseP s = ((false, [], []), p.1, p.2)) := by show _ = _; unfold parseP; rw [hT]
    clear hT
    unfold fault
    go_wp2
    refine leaves_cons (f := 40) (args := #[.pointer (some ⟨w.heap.size, 0, none⟩), .pointer (some ⟨w.heap.size + 1, 0, none⟩), .pointer (some ⟨w.heap.size + 2, 0, none⟩)]) (by simp) (by simp [go_sem]) ?_
    refine (catch_panicking w.heap.size _ _ _ _ _ _ _ [] w5 hr5).mono ?_
    rintro e u' w6 ⟨rfl, rfl, hr6, hb6⟩
    refine ⟨_, results_tag _ hr6 rfl rfl rfl, .slice none 0 0, ?_, ?_, hb5.trans hb6⟩
    · rw [HF.out]
    · rw [HF.out]
      exact World.ownsRow_nil _ _ _ _
  | ok t =>
    obtain ⟨cl, nm, l⟩ := t
    rw [hT] at hm
    simp only at hm
    obtain ⟨v, rfl, hown⟩ := hm
    have HF : Hid (parseP s = ((cl, nm, l), 0, 0)) := by show _ = _; unfold parseP; rw [hT]
    clear hT
    obtain ⟨A, cc, rfl, -⟩ := own_slc hown
    obtain ⟨⟨c, hc, h0⟩, h1, h2⟩ := hr5
    obtain rfl : c = #[.bool false, str [], .slice none 0 0] := by cases hc; rfl
    have bl := h0.cell 0
    have bl1 := h0.cell 1
    have bl2 := h0.cell 2
    have bm := h1.cell 0
    have bn := h2.cell 0
    have f0 := fun k => h0.free k
    have f1 := fun k => h1.free k
    have f2 := fun k => h2.free k
    go_wp2
    refine leaves_cons (f := 40) (args := #[.pointer (some ⟨w.heap.size, 0, none⟩), .pointer (some ⟨w.heap.size + 1, 0, none⟩), .pointer (some ⟨w.heap.size + 2, 0, none⟩)]) (by simp) (by simp [go_sem]) ?_
    refine (catch_idle w.heap.size _).mono ?_
    rintro e u' w6 ⟨rfl, rfl, hb6⟩
    have hb7 : Below w.heap.size w (((((w5.setCell ⟨w.heap.size, 0, none⟩ (.bool cl)).setCell ⟨w.heap.size, 1, none⟩ (str nm)).setCell ⟨w.heap.size, 2, none⟩ (.slice A l.length cc)).setCell ⟨w.heap.size + 1, 0, none⟩ (.int .i64 0)).setCell ⟨w.heap.size + 2, 0, none⟩ (.int .i64 0)) :=
      ((((hb5.setCell (p := ⟨w.heap.size, 0, none⟩) (Nat.le_refl _) _).setCell (p := ⟨w.heap.size, 1, none⟩) (Nat.le_refl _) _).setCell (p := ⟨w.heap.size, 2, none⟩) (Nat.le_refl _) _).setCell (p := ⟨w.heap.size + 1, 0, none⟩) (Nat.le_succ _) _).setCell (p := ⟨w.heap.size + 2, 0, none⟩) (by show w.heap.size ≤ w.heap.size + 2; omega) _
    have q0 := ((((h0.set_ 0 (.bool cl)).set_ 1 (str nm)).set_ 2 (.slice A l.length cc)).other (p := ⟨w.heap.size + 1, 0, none⟩) (by show w.heap.size + 1 ≠ w.heap.size; omega) (.int .i64 0)).other (p := ⟨w.heap.size + 2, 0, none⟩) (by show w.heap.size + 2 ≠ w.heap.size; omega) (.int .i64 0)
    have q1 := ((((h1.other (p := ⟨w.heap.size, 0, none⟩) (by show w.heap.size ≠ w.heap.size + 1; omega) (.bool cl)).other (p := ⟨w.heap.size, 1, none⟩) (by show w.heap.size ≠ w.heap.size + 1; omega) (str nm)).other (p := ⟨w.heap.size, 2, none⟩) (by show w.heap.size ≠ w.heap.size + 1; omega) (.slice A l.length cc)).set_ 0 (.int .i64 0)).other (p := ⟨w.heap.size + 2, 0, none⟩) (by show w.heap.size + 2 ≠ w.heap.size + 1; omega) (.int .i64 0)
    have q2 := ((((h2.other (p := ⟨w.heap.size, 0, none⟩) (by show w.heap.size ≠ w.heap.size + 2; omega) (.bool cl)).other (p := ⟨w.heap.size, 1, none⟩) (by show w.heap.size ≠ w.heap.size + 2; omega) (str nm)).other (p := ⟨w.heap.size, 2, none⟩) (by show w.heap.size ≠ w.heap.size + 2; omega) (.slice A l.length cc)).other (p := ⟨w.heap.size + 1, 0, none⟩) (by show w.heap.size + 1 ≠ w.heap.size + 2; omega) (.int .i64 0)).set_ 0 (.int .i64 0)
    have hr6 : Res w6 w.heap.size (.agg #[.bool cl, str nm, .slice A l.length cc]) (.int .i64 0) (.int .i64 0) := ⟨⟨_, rfl, q0.below hb6⟩, q1.below hb6, q2.below hb6⟩
    have hob : ∀ k, k < w.heap.size + 3 → (Value.slice A l.length cc).ownBlock = none ∨ (Value.slice A l.length cc).ownBlock ≠ some k := fun k hk => .inr (fun e => by have := (hown.lt _ e).1; omega)
    have hne : ∀ (W : World) (b k : Nat) (u : Value), W.grownBy (W.setCell ⟨b, k, none⟩ u) (some b) := fun W b k u => ⟨rfl, rfl, rfl, by simp, fun j _ hj => setCell_block (fun e => hj (by rw [e]))⟩
    have own6 := (((((hown.kept (hne _ w.heap.size 0 (.bool cl)) (hob _ (by omega))).kept (hne _ w.heap.size 1 (str nm)) (hob _ (by omega))).kept (hne _ w.heap.size 2 (.slice A l.length cc)) (hob _ (by omega))).kept (hne _ (w.heap.size + 1) 0 (.int .i64 0)) (hob _ (by omega))).kept (hne _ (w.heap.size + 2) 0 (.int .i64 0)) (hob _ (by omega))).kept (grown_below (row := none) hb6) (by cases (Value.slice A l.length cc).ownBlock with
      | none => exact .inl rfl
      | some _ => exact .inr (by simp))
    refine ⟨_, results_tag _ hr6 rfl rfl rfl, .slice A l.length cc, ?_, ?_, hb7.trans (Below.mono hb6 hb7.size)⟩
    · rw [HF.out]
      rfl
    · rw [HF.out]
      exact own_base own6 (by omega)
end Go.Proofs.Yteccopnlpllliaa
