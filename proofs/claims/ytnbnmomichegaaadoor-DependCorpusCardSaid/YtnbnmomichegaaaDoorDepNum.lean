/-
  The contract of depend.numbers at valid heads: numbers that tell who is whose descendant. Condition: valid heads.
-/
import Derived.Test.YtnbnmomichegaaaDoorDepRefPath
import Derived.Test.YtnbnmomichegaaaDoorDepPre
import Derived.Test.YtnbnmomichegaaaDoorFam
import Derived.StillTailTactics
import Derived.Deep.DeepMust
import Derived.Deep.CutRange
namespace Go.Proofs.YtnbnmomichegaaaDoor
open Go.RowKit Dep

theorem info_ints : (Tryd.prog.info? 22).map (fun i => (i.zero, i.size, i.bytes)) = some (some (.slice none 0 0), 1, 24) := by kernel_rfl
namespace Dep
def kidTo (h : Hs) (k : Nat) (x : Int) : List Nat := (List.range k).filter fun i => nx h (i : Nat) == x
theorem kidTo_all (h : Hs) (x : Int) : kidTo h h.length x = kid h x := rfl
theorem kidTo_yes {h : Hs} {k : Nat} {x : Int} (e : nx h (k : Nat) = x) : kidTo h (k + 1) x = kidTo h k x ++ [k] := by
  unfold kidTo; rw [List.range_succ, List.filter_append]; simp [e]
theorem kidTo_no {h : Hs} {k : Nat} {x : Int} (e : nx h (k : Nat) ≠ x) : kidTo h (k + 1) x = kidTo h k x := by
  unfold kidTo; rw [List.range_succ, List.filter_append]; simp [e]
theorem kidTo_le (h : Hs) (k : Nat) (x : Int) : (kidTo h k x).length ≤ k := by
  unfold kidTo; have := List.length_filter_le (fun i => nx h (i : Nat) == x) (List.range k); simpa using this
theorem kid_le (h : Hs) (x : Int) : (kid h x).length ≤ h.length := kidTo_le h _ x
theorem tot_len {h : Hs} (hg : Dep.Good h) : (tot h).length ≤ h.length := nodup_bound _ _ (tot_nodup hg) fun _ hx => (mem_tot hg).1 hx
/-- One token is taken off the stack. -/
theorem dfs_step {h : Hs} (hg : Dep.Good h) {o s : List Nat} {i : Nat} (hi : i < h.length) (e : o ++ (s ++ [i]).reverse.flatMap (pre h) = tot h) : (o ++ [i]) ++ (s ++ kid h (i : Nat)).reverse.flatMap (pre h) = tot h := by
  rw [← e, List.reverse_append, List.reverse_append, List.flatMap_append, List.flatMap_append]
  simp only [List.reverse_cons, List.reverse_nil, List.nil_append, List.flatMap_cons, List.flatMap_nil, List.append_nil]
  rw [pre_step hg hi]
  simp
theorem dfs_top {h : Hs} (hg : Dep.Good h) {o s : List Nat} {i : Nat} (hall : ∀ x ∈ s ++ [i], x < h.length) (e : o ++ (s ++ [i]).reverse.flatMap (pre h) = tot h) : o.length < (tot h).length ∧ (tot h)[o.length]? = some i := by
  have hi := hall i (by simp)
  rw [← e, List.reverse_append]
  simp only [List.reverse_cons, List.reverse_nil, List.nil_append, List.cons_append, List.flatMap_cons]
  rw [pre_step hg hi]
  simp
theorem flat_len {h : Hs} (hg : Dep.Good h) : ∀ l : List Nat, (∀ x ∈ l, x < h.length) → l.length ≤ (l.flatMap (pre h)).length
  | [], _ => by simp
  | x :: l, hl => by
    have := flat_len hg l (fun y hy => hl y (by simp [hy]))
    rw [List.flatMap_cons, pre_step hg (hl x (by simp))]
    simp only [List.length_append, List.length_cons]; omega
theorem firsts_step {h : Hs} (hg : Dep.Good h) {o s f : List Nat} {i : Nat} (hi : i < h.length) (hf : f.length = h.length) (e : (o ++ [i]) ++ s = tot h) (hat : ∀ j (hj : j < o.length), f[o[j]]? = some j) :
    ∀ j (hj : j < (o ++ [i]).length), (f.set i o.length)[(o ++ [i])[j]]? = some j := by
  intro j hj
  have hnd := tot_nodup hg
  rw [← e] at hnd
  have hnd2 : (o ++ [i]).Nodup := (List.nodup_append.1 hnd).1
  by_cases ej : j < o.length
  · rw [List.getElem_append_left ej]
    have hne : o[j] ≠ i := by
      intro h2
      have := List.pairwise_iff_getElem.1 hnd2 j o.length (by simp; omega) (by simp) ej
      rw [List.getElem_append_left ej] at this
      simp at this
      exact this h2
    rw [List.getElem?_set_ne (Ne.symm hne)]
    exact hat j ej
  · have : j = o.length := by simp at hj; omega
    subst this
    simp [hf, hi]
theorem firsts_all {h : Hs} (hg : Dep.Good h) {f : List Nat} (hf : f.length = h.length) (hat : ∀ j (hj : j < (tot h).length), f[(tot h)[j]]? = some j) : ∀ x (hx : x < f.length), At h x f[x] := by
  intro x hx
  obtain ⟨j, hj⟩ := at_ex hg (show x < h.length by omega)
  obtain ⟨hj2, e⟩ := List.getElem?_eq_some_iff.1 hj
  have := hat j hj2
  rw [e, List.getElem?_eq_getElem hx] at this
  rw [Option.some.inj this]
  exact hj
end Dep

/-- What numbers hands back. -/
def Numbered (h : Hs) (n : Nat) (w : World) (e : Ending) (w' : World) : Prop :=
  ∃ (gF gL : Nat) (f l : List Nat), e = .returned (.tuple #[.slice (some ⟨gF, 0, none⟩) n n, .slice (some ⟨gL, 0, none⟩) n n]) ∧ f.length = h.length ∧ (∀ x (hx : x < f.length), At h x f[x]) ∧ Lasts h 0 l ∧ Blk w' gF 3 (nats f).toArray ∧ Blk w' gL 3 (nats l).toArray ∧ Below w.heap.size w w'

set_option maxRecDepth 100000 in
set_option maxHeartbeats 4000000 in
theorem numbers_any (A : Option Addr) (n c : Nat) (h : Hs) (w : World) (hg : Dep.Good h) (hsl : Sl w w.heap.size 1 A n (ints h)) :
    Calls Tryd.prog 39 #[.slice A n c] w (Numbered h n w) := by
  have hl := hsl.ilen
  have hn4 : n ≤ 4096 := by have := hg.len; omega
  have HG := Lib.hid hg
  have HL := Lib.hid hl
  have hln : h.length ≤ n ∧ n ≤ h.length := by omega
  clear hg hl
  obtain ⟨i0, hi0, hz0, hz1, hz2⟩ := info_parts info_int
  obtain ⟨i1, hi1, hy0, hy1, hy2⟩ := info_parts info_ints
  go_enter Tryd.func39, Tryd.ntmps39
  go_wp2_with (at_make; refine wpList_make_full _ rfl (.tmp 13) (.tmp 13) 89 rfl w.heap.size 22 i1 _ 1 Tryd.underlying89 hi1 hy0 hy1 _ _ _ _ n rfl rfl rfl rfl ?c1 ?c2 ?c3 ?_)
  try (case c1 => first | omega | (rw [hy2]; omega))
  try (case c2 => simp [maxLen]; omega)
  try (case c3 => exact Nat.le_refl _)
  intro w1 own1 gr1
  rw [toList_madeCells_one] at own1
  have hB1 : Below w.heap.size w w1 := (Below.refl _ _).grown gr1 (Nat.le_refl _) (fun k hk => by cases hk)
  have hb1 : Blk w1 w.heap.size 22 (vals n fun _ => .slice none 0 0) := by
    have := made_blk own1
    rwa [show (List.replicate n (Value.slice none 0 0)).toArray = vals n fun _ => .slice none 0 0 by unfold vals; congr 1; apply List.ext_getElem <;> simp] at this
  have hs1 : w.heap.size + 1 ≤ w1.heap.size := hb1.lt
  clear own1 gr1
  go_wp2
  go_loopw [17, 5] (fun iv sv wr => ∃ (k : Nat) (v : Nat → Value) (l : Nat → List Nat) (As : Option Addr) (ms cs : Nat), k ≤ n ∧ iv = .int .i64 k ∧ sv = .slice As ms cs ∧ Hid (v n = .slice As ms cs) ∧ Hid (ms = (l n).length) ∧ Hid (∀ x, x < n → l x = kidTo h k (x : Nat)) ∧ Hid (l n = kidTo h k (-1)) ∧ Hid (l (n + 1) = []) ∧ Hid (v (n + 1) = .slice none 0 0) ∧ Hid (Fam wr (w.heap.size + 1) 3 (n + 2) v l) ∧ Hid (OffF w.heap.size (n + 2) v) ∧ Blk wr w.heap.size 22 (vals n v) ∧ Below w.heap.size w wr) (fun iv _ _ => n - (intOf iv).toNat)
  case atStart => exact ⟨0, (fun _ => .slice none 0 0), (fun _ => []), none, 0, 0, by omega, rfl, rfl, rfl, rfl, fun x hx => rfl, rfl, rfl, rfl, Fam.start _ _ _ _, OffF.start _ _, hb1, hB1⟩
  case round =>
    obtain ⟨k, v, l, As, ms, cs, hk, rfl, rfl, hvn, hms, hlx, hln1, hln2, hvo, hfam, hoff, hblk, hB⟩ := hrel
    have hgw := hblk.lt
    by_cases hlt : k < n
    · obtain ⟨g, o, hk', rfl, hg, c0⟩ := (hsl.under hB).int hlt
      have hnx : Hid (nx h (k : Nat) = h[k]) := nx_at hk'
      have hok := HG.out.ok _ (List.getElem_mem hk')
      obtain ⟨x, hx⟩ : ∃ x, h[k] = x := ⟨_, rfl⟩
      rw [hx] at c0 hnx hok
      have hx1 := hok.1
      have hx2 : x < n := by omega
      clear hx hok
      by_cases hx0 : 0 ≤ x
      · obtain ⟨p, rfl⟩ : ∃ p : Nat, x = p := ⟨x.toNat, by omega⟩
        have hp : p < n := by omega
        have ownp := hfam.out.own p (by omega)
        have hpl : (l p).length ≤ 4096 := by rw [hlx.out p hp]; have := kidTo_le h k (p : Nat); omega
        obtain ⟨Ap, cp, hvp, -, -⟩ := own_slc ownp
        have cD := hblk.cell p
        rw [vals_at hp, hvp] at cD
        have cF := hblk.free p
        have hoa := ownp.alloc (.cells #[.int .i64 (k : Nat)] 3)
        rw [hvp] at hoa
        have hBa := hB.alloc hB.size (.cells #[.int .i64 (k : Nat)] 3)
        obtain ⟨np, hnp⟩ : ∃ np, np = (l p).length := ⟨_, rfl⟩
        rw [← hnp] at hoa cD hpl hvp
        have Hvp := Lib.hid hvp
        have Hnp := Lib.hid hnp
        clear hvp hnp ownp
        go_wp2_with (at_builtin; refine wpList_append_own_at _ rfl (.tmp 29) (.tmp 31) _ rfl (w.heap.size + 1) 3 i0 _ 1 8 Tryd.underlying22 hi0 hz0 hz1 hz2 rfl (by decide) _ _ _ rfl hoa ⟨wr.heap.size, 0, none⟩ 1 1 [.int .i64 (k : Nat)] rfl rfl ?c1 ?c2 ?c3 ?c4 ?c5 ?_)
        try (case c1 => exact news_new _ _ [_])
        try (case c2 => first | rfl | (intro u hu; simp at hu; subst hu; rfl))
        try (case c3 => simp [maxLen]; omega)
        try (case c4 => omega)
        try (case c5 => first | omega | (simp; omega))
        intro v2 w2 own2 gr2 _ hob2
        try simp only [World.size_alloc] at hob2
        obtain ⟨A2, c2, rfl, -, -⟩ := own_slc own2
        have HF2 := Lib.hid ((hfam.out.push (.cells #[.int .i64 (k : Nat)] 3) (show p < n + 2 by omega) Hvp.out Hnp.out own2 gr2 hob2).set (p := ⟨w.heap.size, p, none⟩) (hoff.out.push (w := wr) hgw (show p < n + 2 by omega) Hvp.out hob2) (.slice A2 (np + 1) c2))
        have HO2 := Lib.hid (hoff.out.push (w := wr) hgw (show p < n + 2 by omega) Hvp.out hob2)
        have hb2 := hblk.push hoff.out (show p < n + 2 by omega) Hvp.out _ gr2
        have hB2 := Below.push hB _ gr2 (fun g hg => by have := (hfam.out.own p (by omega)).lt g (by rw [Hvp.out]; exact hg); omega)
        have cD2 := hb2.cell p
        rw [vals_at hp, Hvp.out] at cD2
        have cF2 := hb2.free p
        have hb3 := hb2.set_ p (.slice A2 (np + 1) c2)
        rw [vals_set] at hb3
        have hB3 := hB2.setCell (p := ⟨w.heap.size, p, none⟩) (Nat.le_refl _) (.slice A2 (np + 1) c2)
        have hnn : (n : Nat) ≠ p := by omega
        have hnn1 : n + 1 ≠ p := by omega
        clear cD cF hoa hBa gr2 own2 hob2
        go_wp2
        go_roundw
        case rel =>
          refine ⟨k + 1, _, _, As, ms, cs, by omega, by go_num, rfl, (upd_ne _ _ hnn).trans hvn.out, ?_, ?_, ?_, ?_, (upd_ne _ _ hnn1).trans hvo.out, HF2, HO2, hb3, hB3⟩
          · show _ = _
            rw [upd_ne _ _ hnn]; exact hms.out
          · intro x hx
            by_cases ex : x = p
            · subst ex
              rw [upd_self, kidTo_yes hnx.out, hlx.out x hx]
            · rw [upd_ne _ _ ex, kidTo_no (by rw [hnx.out]; omega)]; exact hlx.out x hx
          · show _ = _
            rw [upd_ne _ _ hnn, kidTo_no (by rw [hnx.out]; omega)]; exact hln1.out
          · show _ = _
            rw [upd_ne _ _ hnn1]; exact hln2.out
        case measure => simp [intOf]; omega
      · have hxm : x = -1 := by omega
        have ownp := hfam.out.own n (by omega)
        have hpl : ms ≤ 4096 := by rw [hms.out, hln1.out]; have := kidTo_le h k (-1); omega
        have hoa := ownp.alloc (.cells #[.int .i64 (k : Nat)] 3)
        rw [hvn.out, ← hms.out] at hoa
        clear ownp
        have hBa := hB.alloc hB.size (.cells #[.int .i64 (k : Nat)] 3)
        have Hxm := Lib.hid hxm
        clear hxm
        go_wp2_with (at_builtin; refine wpList_append_own_at _ rfl (.tmp 34) (.tmp 36) _ rfl (w.heap.size + 1) 3 i0 _ 1 8 Tryd.underlying22 hi0 hz0 hz1 hz2 rfl (by decide) _ _ _ rfl hoa ⟨wr.heap.size, 0, none⟩ 1 1 [.int .i64 (k : Nat)] rfl rfl ?c1 ?c2 ?c3 ?c4 ?c5 ?_)
        try (case c1 => exact news_new _ _ [_])
        try (case c2 => first | rfl | (intro u hu; simp at hu; subst hu; rfl))
        try (case c3 => simp [maxLen]; omega)
        try (case c4 => omega)
        try (case c5 => first | omega | (simp; omega))
        intro v2 w2 own2 gr2 _ hob2
        try simp only [World.size_alloc] at hob2
        obtain ⟨A2, c2, rfl, -, -⟩ := own_slc own2
        have HF2 := Lib.hid (hfam.out.push (.cells #[.int .i64 (k : Nat)] 3) (show n < n + 2 by omega) hvn.out hms.out own2 gr2 hob2)
        have HO2 := Lib.hid (hoff.out.push (w := wr) hgw (show n < n + 2 by omega) hvn.out hob2)
        have hb2 := hblk.push hoff.out (show n < n + 2 by omega) hvn.out _ gr2
        have hB2 := Below.push hB _ gr2 (fun g hg => by have := (hfam.out.own n (by omega)).lt g (by rw [hvn.out]; exact hg); omega)
        rw [← vals_same (v' := .slice A2 (ms + 1) c2) (Nat.le_refl n)] at hb2
        clear hoa hBa gr2 own2 hob2
        go_wp2
        go_roundw
        case rel =>
          refine ⟨k + 1, _, _, A2, ms + 1, c2, by omega, by go_num, rfl, upd_self _ _ _, ?_, ?_, ?_, ?_, (upd_ne _ _ (by omega)).trans hvo.out, HF2, HO2, hb2, hB2⟩
          · show _ = _
            rw [upd_self, hms.out]; simp
          · intro x hx
            rw [upd_ne _ _ (by omega), kidTo_no (by rw [hnx.out, Hxm.out]; omega)]; exact hlx.out x hx
          · show _ = _
            rw [upd_self, kidTo_yes (by rw [hnx.out, Hxm.out]), hln1.out]
          · show _ = _
            rw [upd_ne _ _ (by omega)]; exact hln2.out
        case measure => simp [intOf]; omega
    · have hkn : k = n := by omega
      have HLX : Hid (∀ x, x < n → l x = kid h (x : Nat)) := fun x hx => by rw [hlx.out x hx, hkn, ← HL.out]; rfl
      have HLN : Hid (l n = kid h (-1)) := by show _ = _; rw [hln1.out, hkn, ← HL.out]; rfl
      have hmsn : ms ≤ 4096 := by rw [hms.out, HLN.out]; have := kid_le h (-1); omega
      clear hlx hln1 hkn
      obtain ⟨wo, rfl⟩ : ∃ wo : World, wo = wr := ⟨_, rfl⟩
      go_wp2
      go_cut [2, 3] from 39 to 44 (fun fv lv wc => ∃ gF gL, fv = .slice (some ⟨gF, 0, none⟩) n n ∧ lv = .slice (some ⟨gL, 0, none⟩) n n ∧ gF ≠ gL ∧ wo.heap.size ≤ gF ∧ wo.heap.size ≤ gL ∧ Blk wc gF 3 (nats (List.replicate n 0)).toArray ∧ Blk wc gL 3 (nats (List.replicate n 0)).toArray ∧ Below wo.heap.size wo wc)
      case first =>
        obtain ⟨C, hC⟩ : ∃ C : Array Value, C = (nats (List.replicate n 0)).toArray := ⟨_, rfl⟩
        have hmk : ∀ W, (Instr.makeSlice 22 (.int .i64 (n : Int)) (.int .i64 (n : Int))).run Tryd.prog W = .ok (.slice (some ⟨W.heap.size, 0, none⟩) n n) (W.alloc (.cells C 3)) := fun W => by
          have hr := run_make (P := Tryd.prog) W 22 3 i0 _ Tryd.underlying22 hi0 hz0 .i64 .i64 n n (by omega) (Int.le_refl _) (by rw [hz2]; omega) (by omega)
          rw [hr, hz1, hC]
          simp only [Int.toNat_natCast, Nat.mul_one]
          have : madeCells (Value.cells (.int .i64 0)) n = (nats (List.replicate n 0)).toArray := by
            rw [nats_replicate]
            have e := toList_madeCells_one (.int .i64 0) n
            show madeCells #[.int .i64 0] n = (List.replicate n (Value.int .i64 0)).toArray
            rw [← e]
          rw [this]
        have HC := Lib.hid hC
        clear hC
        go_region
        all_goals
          go_wp2
          go_meet
          case rel =>
            have b1 : Blk (((wo.alloc (.cells C 3)).alloc (.cells C 3)).drew) wo.heap.size 3 C := (Blk.new wo 3 C).alloc _
            have b2 : Blk (((wo.alloc (.cells C 3)).alloc (.cells C 3)).drew) (wo.heap.size + 1) 3 C := by
              have := Blk.new (wo.alloc (.cells C 3)) 3 C
              rwa [World.size_alloc] at this
            have b3 : Below wo.heap.size wo (((wo.alloc (.cells C 3)).alloc (.cells C 3)).drew) := (((Below.refl _ _).alloc (Nat.le_refl _) _).alloc (by simp) _).drew
            have b1' : Blk (((wo.alloc (.cells C 3)).alloc (.cells C 3)).drew) wo.heap.size 3 (nats (List.replicate n 0)).toArray := Eq.trans b1 (by rw [HC.out])
            have b2' : Blk (((wo.alloc (.cells C 3)).alloc (.cells C 3)).drew) (wo.heap.size + 1) 3 (nats (List.replicate n 0)).toArray := Eq.trans b2 (by rw [HC.out])
            first
              | exact ⟨wo.heap.size, wo.heap.size + 1, rfl, rfl, by omega, Nat.le_refl _, by omega, b1', b2', b3⟩
              | exact ⟨wo.heap.size + 1, wo.heap.size, rfl, rfl, by omega, by omega, Nat.le_refl _, b2', b1', b3⟩
      case rest =>
        obtain ⟨gF, gL, rfl, rfl, hFL, hF1, hL1, hbF, hbL, hBc⟩ := hcut
        have hfamc := Lib.hid (hfam.out.below hBc)
        have hoffF : Hid (OffF gF (n + 2) v) := fun x hx e => by have := ((hfam.out.own x hx).lt gF e).2; omega
        have hoffL : Hid (OffF gL (n + 2) v) := fun x hx e => by have := ((hfam.out.own x hx).lt gL e).2; omega
        have hbDc := hblk.below hBc
        have hBWc := hB.trans (hBc.mono hB.size)
        have hgwF : w.heap.size < gF := by omega
        have hgwL : w.heap.size < gL := by omega
        have htot := Lib.hid (tot_len HG.out)
        have hst : Hid ([] ++ (kid h (-1)).reverse.flatMap (pre h) = tot h) := rfl
        clear hfam hblk hB hBc hgw hF1 hL1
        go_wp2
        go_loopg [5, 8] (n + 1) (fun gk sv ov wr => ∃ (v : Nat → Value) (l : Nat → List Nat) (As Ao : Option Addr) (ms cs mo co : Nat) (first last : List Nat), gk + mo = n + 1 ∧ sv = .slice As ms cs ∧ Hid (v n = .slice As ms cs) ∧ Hid (ms = (l n).length) ∧ ov = .slice Ao mo co ∧ Hid (v (n + 1) = .slice Ao mo co) ∧ Hid (mo = (l (n + 1)).length) ∧
            Hid (∀ x, x < n → l x = kid h (x : Nat)) ∧ Hid (∀ x, x ∈ l n → x < h.length) ∧ Hid (l (n + 1) ++ (l n).reverse.flatMap (pre h) = tot h) ∧ Hid (first.length = h.length ∧ last.length = h.length ∧ (∀ j (hj : j < (l (n + 1)).length), first[(l (n + 1))[j]]? = some j) ∧ (∀ j (hj : j < (l (n + 1)).length), last[(l (n + 1))[j]]? = some j)) ∧
            Hid (Fam wr (w.heap.size + 1) 3 (n + 2) v l) ∧ Hid (OffF w.heap.size (n + 2) v) ∧ Hid (OffF gF (n + 2) v) ∧ Hid (OffF gL (n + 2) v) ∧ Blk wr w.heap.size 22 (vals n v) ∧ Blk wr gF 3 (nats first).toArray ∧ Blk wr gL 3 (nats last).toArray ∧ Below w.heap.size w wr)
        case atStart =>
          refine ⟨v, l, As, none, ms, cs, 0, 0, List.replicate n 0, List.replicate n 0, by omega, rfl, hvn, hms, rfl, hvo, by show _ = _; rw [hln2.out]; rfl, HLX, (fun x hx => by rw [HLN.out] at hx; exact (mem_kid.1 hx).1), ?_, ?_, hfamc, hoff, hoffF, hoffL, hbDc, hbF, hbL, hBWc⟩
          · show _ = _
            rw [hln2.out, HLN.out]; exact hst.out
          · refine ⟨by simp; omega, by simp; omega, ?_, ?_⟩
            · intro j hj; rw [hln2.out] at hj; simp at hj
            · intro j hj; rw [hln2.out] at hj; simp at hj
        case round =>
          obtain ⟨v, l, As, Ao, ms, cs, mo, co, first, last, hgk, rfl, hvn, hms, rfl, hvo, hmo, hlx, hlt, hdfs, hnum, hfam, hoff, hoffF, hoffL, hblk, hbF, hbL, hB⟩ := hrel
          obtain ⟨wx, rfl⟩ : ∃ wx : World, wx = wr := ⟨_, rfl⟩
          by_cases hz : ms = 0
          · subst hz
            have hln0 : l n = [] := List.eq_nil_of_length_eq_zero hms.out.symm
            have hlo : l (n + 1) = tot h := by
              have := hdfs.out
              rw [hln0] at this
              simpa using this
            obtain ⟨hnf, hnl, hna, hnb⟩ := hnum.out
            simp only [hlo] at hna hnb
            have HF0 : Hid (first.length = h.length ∧ ∀ x (hx : x < first.length), At h x first[x]) := ⟨hnf, firsts_all HG.out hnf hna⟩
            have HL0 : Hid (Lasts h (tot h).length last) := lasts_start HG.out hnl (firsts_all HG.out hnl hnb)
            have hmot : Hid (mo = (tot h).length) := by show _ = _; rw [hmo.out, hlo]
            have hmon : mo ≤ n := by have := htot.out; have := hmot.out; omega
            have ownO := hfam.out.own (n + 1) (by omega)
            rw [hvo.out, hlo, ← hmot.out] at ownO
            have hvb : Hid (∀ b, (Value.slice Ao mo co).ownBlock = some b → b ≠ gL) := fun b hb e => hoffL.out (n + 1) (by omega) (by rw [hvo.out, hb, e])
            have OWNO := Lib.hid ownO
            have hpos : Hid (wx.heap.size ≥ w.heap.size) := hB.size
            clear hln0 hlo hnf hnl hna hnb hnum hms hvn ownO hblk hfam hoff hoffF hoffL
            go_wp2
            go_loopw [10, 11] (fun iv _ wr => ∃ (m : Nat) (q : Int) (lst : List Nat), m ≤ mo ∧ iv = .int .i64 q ∧ q = (m : Int) - 1 ∧ Hid (Lasts h m lst) ∧ Blk wr gL 3 (nats lst).toArray ∧ Blk wr gF 3 (nats first).toArray ∧ Hid (wr.ownsRow (w.heap.size + 1) 3 1 (.slice Ao mo co) mo (nats (tot h))) ∧ Below w.heap.size w wr) (fun iv _ _ => (intOf iv + 1).toNat)
            case atStart => exact ⟨mo, _, last, Nat.le_refl _, rfl, by omega, by rw [hmot.out]; exact HL0, hbL, hbF, OWNO, hB⟩
            case round =>
              obtain ⟨m, q, lst, hm, rfl, hq, hlst, hbL3, hbF3, own3, hB3⟩ := hrel
              cases m with
              | zero =>
                have hq0 : q < 0 := by omega
                clear hq
                go_wp2
                go_ret2
                exact ⟨gF, gL, first, lst, rfl, HF0.out.1, HF0.out.2, hlst.out, hbF3, hbL3, hB3⟩
              | succ m =>
                obtain rfl : q = (m : Int) := by omega
                have hmt : m < (tot h).length := by have := hmot.out; omega
                have hy : (tot h)[m] < h.length := (mem_tot HG.out).1 (List.getElem_mem hmt)
                have hAt : Hid (At h (tot h)[m] m) := List.getElem?_eq_getElem hmt
                obtain ⟨go_, capo, eo, -, hgo, -⟩ := own_form own3.out (by omega)
                injection eo with eo1 _ eo3
                subst eo1 eo3
                have cO := own_nat own3.out m hmt
                obtain ⟨y, hye⟩ : ∃ y, (tot h)[m] = y := ⟨_, rfl⟩
                rw [hye] at hy hAt cO
                obtain ⟨g, o, hy', rfl, hg, c0⟩ := (hsl.under hB3).int (show y < n by omega)
                have hnx : Hid (nx h (y : Nat) = h[y]) := nx_at hy'
                have hok := HG.out.ok _ (List.getElem_mem hy')
                obtain ⟨x, hx⟩ : ∃ x, h[y] = x := ⟨_, rfl⟩
                rw [hx] at c0 hnx hok
                have hx1 := hok.1
                have hx2 : x < n := by omega
                have hyn : y < n := by omega
                have hlen3 := hlst.out.len
                clear hx hok hye
                by_cases hx0 : 0 ≤ x
                · obtain ⟨p, rfl⟩ : ∃ p : Nat, x = p := ⟨x.toNat, by omega⟩
                  have hpl : p < lst.length := by omega
                  have hyl : y < lst.length := by omega
                  have c1 := hbL3.nat hpl
                  have c2 := hbL3.nat hyl
                  have HST := Lib.hid (lasts_step HG.out hlst.out hAt.out hyl hpl hnx.out)
                  have f1 := hbL3.free p
                  obtain ⟨a1, ha1⟩ : ∃ a, lst[p] = a := ⟨_, rfl⟩
                  obtain ⟨a2, ha2⟩ : ∃ a, lst[y] = a := ⟨_, rfl⟩
                  rw [ha1] at c1 HST
                  rw [ha2] at c2 HST
                  have hbn := hbL3.setn p (max a1 a2)
                  rw [show ((max a1 a2 : Nat) : Int) = if a1 < a2 then (a2 : Int) else (a1 : Int) by split <;> omega] at hbn
                  have HBN := Lib.hid hbn
                  clear hbn
                  have bm0 : (0 : Int) ≤ (m : Int) := by omega
                  have bm1 : (m : Int) < (mo : Int) := by omega
                  have by0 : (0 : Int) ≤ (y : Int) := by omega
                  have by1 : (y : Int) < (n : Int) := by omega
                  clear ha1 ha2 hlen3 hq
                  go_wp2
                  go_still_tail 15, (by kernel_rfl)
                  change wpList _ _ _ _ _ wr.drew
                  clear bm0 bm1 by0 by1
                  go_wp2
                  go_roundw
                  case rel => exact ⟨m, _, lst.set p (max a1 a2), by omega, rfl, by omega, HST, HBN.out, hbF3.other (by show gL ≠ gF; exact fun e => hFL e.symm) _, own_same own3.out (fun g hg => Below.heap_setCell _ _ _ _ (by simp [Value.ownBlock] at hg; subst hg; exact hvb.out _ rfl)), (hB3.setCell (p := ⟨gL, p, none⟩) (by show _ ≤ gL; omega) _).drew⟩
                  case measure => simp [intOf]
                · have HSK := Lib.hid (lasts_skip hlst.out hAt.out (by rw [hnx.out]; omega))
                  clear hlen3 hq
                  go_wp2
                  go_roundw
                  case rel => exact ⟨m, _, lst, by omega, rfl, by omega, HSK, hbL3, hbF3, own3, hB3⟩
                  case measure => simp [intOf]
          · obtain ⟨s, i, hsi⟩ : ∃ s i, l n = s ++ [i] := by
              have hne : l n ≠ [] := by intro e; rw [e] at hms; exact hz hms.out
              exact ⟨_, _, (List.dropLast_concat_getLast hne).symm⟩
            have hi : i < n := by have := hlt.out i (by rw [hsi]; simp); omega
            have hDF : Hid (l (n + 1) ++ (s ++ [i]).reverse.flatMap (pre h) = tot h) := by show _ = _; rw [← hsi]; exact hdfs.out
            have htop := dfs_top HG.out (by rw [← hsi]; exact hlt.out) hDF.out
            have hmon : mo < n := by have := hmo.out; have := htot.out; omega
            have hso : s.length + 1 ≤ n := by
              have h1 := congrArg List.length hDF.out
              have h2 := flat_len HG.out (s ++ [i]).reverse (fun x hx => hlt.out x (by rw [hsi]; exact List.mem_reverse.1 hx))
              have h3 := htot.out
              simp only [List.length_append, List.length_reverse, List.length_cons, List.length_nil] at h1 h2
              omega
            have hkl : (kid h (i : Nat)).length ≤ n := by have := kid_le h (i : Nat); omega
            obtain ⟨m, hm⟩ : ∃ m, m = s.length := ⟨_, rfl⟩
            have hmn : m + 1 ≤ n := by omega
            obtain rfl : ms = m + 1 := by rw [hms.out, hsi, hm]; simp
            have ownS := hfam.out.own n (by omega)
            rw [hvn.out, hsi, show (s ++ [i]).length = m + 1 by simp [hm]] at ownS
            obtain ⟨gs, caps, es, -, -, hcap⟩ := own_form ownS (by omega)
            injection es with e1 _ e3
            subst e1 e3
            have cS := own_nat ownS m (by simp [hm])
            rw [show (s ++ [i])[m]'(by simp [hm]) = i by simp [hm]] at cS
            have ownI := hfam.out.own i (by omega)
            obtain ⟨Ad, cd, hvi, -, -⟩ := own_slc ownI
            rw [hvi, hlx.out i hi] at ownI
            rw [hlx.out i hi] at hvi
            have slI := own_sl ownI
            have cD := hblk.cell i
            rw [vals_at hi, hvi] at cD
            obtain ⟨kd, hkd⟩ : ∃ kd, kd = (kid h (i : Nat)).length := ⟨_, rfl⟩
            rw [← hkd] at slI cD hkl
            have ownC := own_cut ownS (show m ≤ m + 1 by omega)
            rw [Nat.mul_one, ← nats_take, show (s ++ [i]).take m = s by simp [hm]] at ownC
            have hs1 : ∀ W, (Instr.slice 22 (.slice (some ⟨gs, 0, none⟩) (m + 1) cs) none (some (.int .i64 (m : Int))) none).run Tryd.prog W = .ok (.slice (some ⟨gs, 0, none⟩) m cs) W := fun W => slice_to (P := Tryd.prog) 22 3 i0 Tryd.underlying22 hi0 (some ⟨gs, 0, none⟩) (m + 1) cs m (by omega) W
            have HSRC : Hid (Src wx.drew Ad (nats (kid h (i : Nat)))) := slI.src fun g _ => rfl
            have OWNC : Hid (wx.drew.ownsRow (w.heap.size + 1) 3 1 (.slice (some ⟨gs, 0, none⟩) m cs) m (nats s)) := ownC
            have Hsi := Lib.hid hsi
            have Hm := Lib.hid hm
            have Hkd := Lib.hid hkd
            have HTOP := Lib.hid htop
            clear ownS ownI slI ownC hsi hm hkd hvi htop
            go_wp2
            have hwm : IntKind.i64.wrap (m : Int) = m := IntWalk.i64_in _ (by omega)
            go_still_tail 9, (by kernel_rfl)
            clear hwm
            change wpList _ _ _ _ _ wx.drew
            go_wp2_with (at_builtin; go_must (refine wpList_app _ rfl (.tmp 58) (.tmp 62) _ rfl (w.heap.size + 1) 3 i0 _ 1 8 Tryd.underlying22 hi0 hz0 hz1 hz2 rfl (by decide) _ m (nats s) rfl OWNC.out Ad kd cd (nats (kid h (i : Nat))) rfl ?d1 HSRC.out (nats_one _) ?d3 ?d4 ?d5 ?_))
            case d1 => rw [nats_len, ← Hkd.out, Nat.mul_one]
            case d3 => simp [maxLen]; omega
            case d4 => omega
            case d5 => have := hB.size; show _ ≤ wx.heap.size; have := hblk.lt; omega
            intro v4 w4 own4 gr4 hob4
            obtain ⟨A4, c4, rfl, -, -⟩ := own_slc own4
            have hvS : Hid ((v n).ownBlock = (Value.slice (some ⟨gs, 0, none⟩) m cs).ownBlock) := by show _ = _; rw [hvn.out]; rfl
            have gr4' : wx.grownBy w4 (v n).ownBlock := by
              rw [hvS.out]; exact ⟨gr4.os, gr4.tape, gr4.output, gr4.size, gr4.block⟩
            have hob4' : (Value.slice A4 (m + kd) c4).ownBlock = (v n).ownBlock ∨ ∃ b, (Value.slice A4 (m + kd) c4).ownBlock = some b ∧ wx.heap.size ≤ b := by
              rw [hvS.out]; exact hob4.imp id fun e => ⟨_, e, Nat.le_refl _⟩
            have own4' : w4.ownsRow (w.heap.size + 1) 3 1 (.slice A4 (m + kd) c4) (s ++ kid h (i : Nat)).length (nats (s ++ kid h (i : Nat))) := by
              rw [nats_append, List.length_append, ← Hm.out, ← Hkd.out]; exact own4
            have hgD := hblk.lt
            have hgFl := hbF.lt
            have hgLl := hbL.lt
            have fam4 := hfam.out.grow own4' gr4' (show n < n + 2 by omega) hob4'
            have off4D := hoff.out.grow (w := wx) hgD (show n < n + 2 by omega) hob4'
            have off4F := hoffF.out.grow (w := wx) hgFl (show n < n + 2 by omega) hob4'
            have off4L := hoffL.out.grow (w := wx) hgLl (show n < n + 2 by omega) hob4'
            have hb4 := hblk.gr gr4' (hoff.out n (by omega))
            rw [← vals_same (v' := .slice A4 (m + kd) c4) (Nat.le_refl n)] at hb4
            have hb4F := hbF.gr gr4' (hoffF.out n (by omega))
            have hb4L := hbL.gr gr4' (hoffL.out n (by omega))
            have hB4 : Below w.heap.size w w4 := hB.grown gr4' hB.size (fun g hg => by have := ((hfam.out.own n (by omega)).lt g hg).1; omega)
            obtain ⟨hnf, hnl, hna, hnb⟩ := hnum.out
            have HNA := Lib.hid hna
            have HNB := Lib.hid hnb
            have hif : i < first.length := by omega
            have hil : i < last.length := by omega
            have HNF := Lib.hid hnf
            have HNL := Lib.hid hnl
            have cF := hb4F.nat hif
            have cFf := hb4F.free i
            have hb5F := hb4F.setn i mo
            have hb5L := hb4L.other (p := ⟨gF, i, none⟩) (by show gF ≠ gL; exact hFL) (.int .i64 (mo : Nat))
            have cL := hb5L.nat hil
            have cLf := hb5L.free i
            have hb6L := hb5L.setn i mo
            have hb6F := hb5F.other (p := ⟨gL, i, none⟩) (by show gL ≠ gF; exact fun e => hFL e.symm) (.int .i64 (mo : Nat))
            have hb6 := (hb4.other (p := ⟨gF, i, none⟩) (by show gF ≠ w.heap.size; omega) (.int .i64 (mo : Nat))).other (p := ⟨gL, i, none⟩) (by show gL ≠ w.heap.size; omega) (.int .i64 (mo : Nat))
            have fam6 := (fam4.set (p := ⟨gF, i, none⟩) off4F (.int .i64 (mo : Nat))).set (p := ⟨gL, i, none⟩) off4L (.int .i64 (mo : Nat))
            have hB6 := (hB4.setCell (p := ⟨gF, i, none⟩) (by show _ ≤ gF; omega) (.int .i64 (mo : Nat))).setCell (p := ⟨gL, i, none⟩) (by show _ ≤ gL; omega) (.int .i64 (mo : Nat))
            have hvo4 : Hid (upd v n (.slice A4 (m + kd) c4) (n + 1) = .slice Ao mo co) := (upd_ne _ _ (by omega)).trans hvo.out
            have hmo4 : Hid (mo = (upd l n (s ++ kid h (i : Nat)) (n + 1)).length) := by show _ = _; rw [upd_ne _ _ (by omega)]; exact hmo.out
            have ownO := fam6.own (n + 1) (by omega)
            rw [hvo4.out, ← hmo4.out] at ownO
            have FAM6 := Lib.hid fam6
            have OFFD := Lib.hid off4D
            have OFFF := Lib.hid off4F
            have OFFL := Lib.hid off4L
            clear fam4 fam6 off4D off4F off4L hob4' gr4' own4' own4 hob4 gr4 hna hnb hnf hnl cD cS hs1 hb4F hb4L hb5F hb5L hb4
            have hoa := ownO.alloc (.cells #[.int .i64 (i : Nat)] 3)
            have hsz6 := hB6.size
            simp only [World.size_setCell] at hsz6
            clear ownO
            go_wp2_with (at_builtin; refine wpList_append_own_at _ rfl (.tmp 74) (.tmp 76) _ rfl (w.heap.size + 1) 3 i0 _ 1 8 Tryd.underlying22 hi0 hz0 hz1 hz2 rfl (by decide) _ _ _ rfl hoa ⟨_, 0, none⟩ 1 1 [.int .i64 (i : Nat)] rfl rfl ?f1 ?f2 ?f3 ?f4 ?f5 ?_)
            case f1 => exact news_one (by simp)
            case f2 => intro u hu; simp only [List.mem_singleton] at hu; subst hu; rfl
            case f3 => simp [maxLen]; omega
            case f4 => omega
            case f5 => simp; omega
            intro v7 w7 own7 gr7 _ hob7
            obtain ⟨A7, c7, rfl, -, -⟩ := own_slc own7
            obtain ⟨W6, hW6⟩ : ∃ W6, W6 = (w4.setCell ⟨gF, i, none⟩ (.int .i64 (mo : Nat))).setCell ⟨gL, i, none⟩ (.int .i64 (mo : Nat)) := ⟨_, rfl⟩
            have hsW : W6.heap.size = w4.heap.size := by rw [hW6]; simp
            rw [← hW6] at gr7 hb6L hb6F hb6 hB6
            have FAM6' := FAM6.out
            rw [← hW6] at FAM6'
            have hob7' : (Value.slice A7 (mo + 1) c7).ownBlock = (Value.slice Ao mo co).ownBlock ∨ (Value.slice A7 (mo + 1) c7).ownBlock = some (W6.heap.size + 1) := hob7.imp id (fun e => e.trans (by rw [hsW]))
            have fam7 := FAM6'.push (.cells #[.int .i64 (i : Nat)] 3) (show n + 1 < n + 2 by omega) hvo4.out hmo4.out own7 gr7 hob7'
            have off7D := OFFD.out.push (w := W6) hb6.lt (show n + 1 < n + 2 by omega) hvo4.out hob7'
            have off7F := OFFF.out.push (w := W6) hb6F.lt (show n + 1 < n + 2 by omega) hvo4.out hob7'
            have off7L := OFFL.out.push (w := W6) hb6L.lt (show n + 1 < n + 2 by omega) hvo4.out hob7'
            have hb7 := hb6.push OFFD.out (show n + 1 < n + 2 by omega) hvo4.out _ gr7
            rw [← vals_same (v' := .slice A7 (mo + 1) c7) (show n ≤ n + 1 by omega)] at hb7
            have hb7F := hb6F.push OFFF.out (show n + 1 < n + 2 by omega) hvo4.out _ gr7
            have hb7L := hb6L.push OFFL.out (show n + 1 < n + 2 by omega) hvo4.out _ gr7
            have hB7 := Below.push hB6 _ gr7 (fun g hg => by have := (FAM6'.own (n + 1) (by omega)).lt g (by rw [hvo4.out]; exact hg); omega)
            have HF7 := Lib.hid fam7
            have HD7 := Lib.hid off7D
            have HFF7 := Lib.hid off7F
            have HL7 := Lib.hid off7L
            clear FAM6' fam7 off7D off7F off7L hob7' hob7 gr7 own7 hoa hb6 hb6F hb6L hB6 hW6 FAM6 cF cL cFf cLf hif hil
            go_wp2
            go_roundg (gk - 1)
            case measure => omega
            case rel =>
              have hl7 : upd (upd l n (s ++ kid h (i : Nat))) (n + 1) (upd l n (s ++ kid h (i : Nat)) (n + 1) ++ [i]) (n + 1) = l (n + 1) ++ [i] := by rw [upd_self, upd_ne _ _ (by omega)]
              have hl7n : upd (upd l n (s ++ kid h (i : Nat))) (n + 1) (upd l n (s ++ kid h (i : Nat)) (n + 1) ++ [i]) n = s ++ kid h (i : Nat) := by rw [upd_ne _ _ (by omega), upd_self]
              have hstep := dfs_step HG.out (show i < h.length by omega) hDF.out
              refine ⟨_, _, A4, A7, m + kd, c4, mo + 1, c7, first.set i mo, last.set i mo, by omega, rfl, ?_, ?_, rfl, upd_self _ _ _, ?_, ?_, ?_, ?_, ?_, HF7, HD7, HFF7, HL7, hb7, hb7F, hb7L, hB7⟩
              · exact (upd_ne _ _ (by omega)).trans (upd_self _ _ _)
              · show _ = _
                rw [hl7n, List.length_append, ← Hm.out, ← Hkd.out]
              · show _ = _
                rw [hl7, List.length_append, ← hmo.out]; rfl
              · intro x hx
                rw [upd_ne _ _ (by omega), upd_ne _ _ (by omega)]; exact hlx.out x hx
              · intro x hx
                rw [hl7n] at hx
                rcases List.mem_append.1 hx with h1 | h1
                · exact hlt.out x (by rw [Hsi.out]; exact List.mem_append_left _ h1)
                · exact (mem_kid.1 h1).1
              · show _ = _
                rw [hl7, hl7n]; exact hstep
              · have hf1 := firsts_step HG.out (show i < h.length by omega) HNF.out hstep HNA.out
                have hf2 := firsts_step HG.out (show i < h.length by omega) HNL.out hstep HNB.out
                rw [hmo.out]
                refine ⟨by rw [List.length_set]; exact HNF.out, by rw [List.length_set]; exact HNL.out, ?_, ?_⟩
                · simp only [hl7]; exact hf1
                · simp only [hl7]; exact hf2
end Go.Proofs.YtnbnmomichegaaaDoor
