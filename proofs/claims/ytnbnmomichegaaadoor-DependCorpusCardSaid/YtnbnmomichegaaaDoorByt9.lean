/-
  Rows of bytes of the call's own: appended to, turned into a text. No conditions.
-/
import Derived.Test.YtnbnmomichegaaaDoorBase6
import Derived.Lib.AppendStr
import Derived.Laws.IdiomStrings
import Derived.Laws.BytesArg
import Derived.Laws.Concat
import Derived.Maps.AppendAt
namespace Go.Proofs.YtnbnmomichegaaaDoor
open Go.RowKit

theorem info_u8 : (Tryd.prog.info? 5).map (fun i => (i.zero, i.size, i.bytes)) = some (some (.int .u8 0), 1, 1) := by kernel_rfl

/-- The cells of bytes. -/
def bys (l : List UInt8) : List Value := l.map fun b => Value.int .u8 (b.toNat : Nat)
theorem bys_len (l : List UInt8) : (bys l).length = l.length := by simp [bys]
theorem bys_append (l m : List UInt8) : bys (l ++ m) = bys l ++ bys m := by simp [bys]
theorem bys_one (l : List UInt8) : ∀ u ∈ bys l, u.oneCell' = true := by
  intro u hu; unfold bys at hu; rw [List.mem_map] at hu; obtain ⟨x, _, rfl⟩ := hu; rfl
theorem strCells_bys (l : List UInt8) : Lib.strCells ⟨l.toArray⟩ = bys l := by simp [Lib.strCells, bys]

theorem own_move {w : World} {base n m : Nat} {e : TypeId} {sz : Nat} {v : Value} {l r : List Value} (h : w.ownsRow base e sz v n l) (hl : l = r) (hn : n = m) : w.ownsRow base e sz v m r := by subst hl hn; exact h

theorem back_run {w : World} {base : Nat} {e : TypeId} {v : Value} {l : List UInt8} {n : Nat} (hn : n = l.length) (h : w.ownsRow base e 1 v n (bys l)) :
    (convert 51 9 v).run Tryd.prog w = .ok (str l) w := by
  subst hn
  rcases h.2 with ⟨rfl, h0⟩ | ⟨g, cap, cur, rfl, _, hb, hc, _⟩
  · have : l = [] := List.eq_nil_of_length_eq_zero h0
    subst this
    exact run_convert_bytes_nil w 51 5 Tryd.underlying51 Tryd.underlying5 0 0 9 Tryd.underlying9
  · refine run_convert_bytes_back w 51 9 5 ⟨g, 0, none⟩ cap l Tryd.underlying51 Tryd.underlying5 Tryd.underlying9 fun j hj => ?_
    refine h.cells (g := g) rfl j _ ?_
    simp [bys, hj]

theorem wpList_app_str {ops : Array Oper} {rest : List Oper} {o : Oper} {a : Act} {w : World} {Q : Exit → Act → World → Prop} (hgd : o.guard = none) (sl x : Operand)
    (ho : o.op = .call { callee := .builtin .append, args := #[sl, x], argTypes := #[51, 9] })
    (base : Nat) (v : Value) (n : Nat) (l : List UInt8) (hs : a.eval sl = v) (hown : w.ownsRow base 5 1 v n (bys l)) (s : List UInt8) (hx : a.eval x = str s)
    (hbytes : n + s.length ≤ 140737488355328 - 4096) (hbase : base ≤ w.heap.size)
    (h : ∀ v' w', w'.ownsRow base 5 1 v' (n + s.length) (bys (l ++ s)) → w.grownBy w' v.ownBlock → wpList Tryd.prog ops Q rest (a.put o.dst v') w') : wpList Tryd.prog ops Q (o :: rest) a w := by
  obtain ⟨i0, hi0, hz0, hz1, hz2⟩ := info_parts info_u8
  have hsz : (ByteArray.mk s.toArray).size = s.length := by show s.toArray.size = _; simp
  refine Lib.wpList_append_own_string w hgd sl x 51 9 ho base 5 i0 Tryd.underlying51 Tryd.underlying9 hi0 hz0 hz1 hz2 v n (bys l) hs hown ⟨s.toArray⟩ hx (by rw [hsz]; simp [maxLen]; omega) (by rw [hsz]; omega) hbase ?_
  intro v' w' h1 h2 _
  rw [hsz, strCells_bys, ← bys_append] at h1
  exact h v' w' h1 h2
end Go.Proofs.YtnbnmomichegaaaDoor
