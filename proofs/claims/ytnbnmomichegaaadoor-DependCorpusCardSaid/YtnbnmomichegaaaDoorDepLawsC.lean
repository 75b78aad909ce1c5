/-
  The law DependCorpus returns true. Conditions: the arguments read as they do; the table of powers of ten reads as it is laid.
-/
import Derived.Test.YtnbnmomichegaaaDoorDepCorP
import Derived.Test.YtnbnmomichegaaaDoorDepFmt
import Derived.Test.YtnbnmomichegaaaDoorDepAwake
import Derived.Test.YtnbnmomichegaaaDoorCorVal
import Derived.Test.YtnbnmomichegaaaDoorCorExP
import Derived.Deep.CutRange
import Derived.Deep.CutBlock
namespace Go.Proofs.YtnbnmomichegaaaDoor
set_option linter.unusedSimpArgs false
set_option linter.unusedVariables false
open Go.RowKit Utf Dep
open Feat (Bs)

theorem own_one2 {w : World} {B g : Nat} {E : TypeId} {a b : Value} (h : Blk w g E #[a, b]) (hb : B ≤ g) : w.ownsRow B E 2 (.slice (some ⟨g, 0, none⟩) 1 1) 1 [a, b] :=
  ⟨rfl, .inr ⟨g, 1, #[a, b], rfl, hb, h, Nat.le_refl _, by decide, rfl, rfl⟩⟩
theorem own_one1 {w : World} {B g : Nat} {E : TypeId} {a : Value} (h : Blk w g E #[a]) (hb : B ≤ g) : w.ownsRow B E 1 (.slice (some ⟨g, 0, none⟩) 1 1) 1 [a] :=
  ⟨rfl, .inr ⟨g, 1, #[a], rfl, hb, h, Nat.le_refl _, by decide, rfl, rfl⟩⟩
theorem bare_step {h : List Int} {l : List Bs} {k : Nat} {z : Int} {r : Bs} (h1 : h.take (k + 1) = h.take k ++ [z]) (h2 : l.take (k + 1) = l.take k ++ [r]) : Cor.bare (h.take (k + 1)) (l.take (k + 1)) = (Cor.bare (h.take k) (l.take k) && (z == -1 && r.isEmpty)) := by
  unfold Cor.bare
  rw [h1, h2, List.all_append, List.all_append, List.all_cons, List.all_nil, List.all_cons, List.all_nil]
  cases (h.take k).all (fun x => x == -1) <;> cases (l.take k).all (fun s => s.isEmpty) <;> cases (z == -1) <;> cases r.isEmpty <;> rfl
theorem lone_own {n : Nat} {A B : Option Addr} {m c d : Nat} {h : List Int} {l : List Bs} (w : World) (hn : n ≤ 60) :
    OwnC (((w.alloc (.cells #[str [119, 111, 114, 100], .bool false] 36)).alloc (.cells #[str [116], .int .i64 0, .int .i64 (n : Nat), .slice none 0 0] 40)).alloc (.cells #[.slice (some ⟨w.heap.size, 0, none⟩) 1 1, .slice none 0 0, .slice (some ⟨w.heap.size + 1, 0, none⟩) 1 1, .slice none 0 0, .slice none 0 0, .slice A n c, .slice B m d] 46)) w.heap.size (w.heap.size + 2) ⟨⟨some ⟨w.heap.size, 0, none⟩, 1, 1⟩, ⟨none, 0, 0⟩, ⟨some ⟨w.heap.size + 1, 0, none⟩, 1, 1⟩, ⟨none, 0, 0⟩, ⟨none, 0, 0⟩, ⟨A, n, c⟩, ⟨B, m, d⟩⟩ { lone n h l with toks := [] } := by
  have b1 := ((Blk.new w 36 #[str [119, 111, 114, 100], .bool false]).alloc (.cells #[str [116], .int .i64 0, .int .i64 (n : Nat), .slice none 0 0] 40)).alloc (.cells #[.slice (some ⟨w.heap.size, 0, none⟩) 1 1, .slice none 0 0, .slice (some ⟨w.heap.size + 1, 0, none⟩) 1 1, .slice none 0 0, .slice none 0 0, .slice A n c, .slice B m d] 46)
  have b2 := (Blk.new (w.alloc (.cells #[str [119, 111, 114, 100], .bool false] 36)) 40 #[str [116], .int .i64 0, .int .i64 (n : Nat), .slice none 0 0]).alloc (.cells #[.slice (some ⟨w.heap.size, 0, none⟩) 1 1, .slice none 0 0, .slice (some ⟨w.heap.size + 1, 0, none⟩) 1 1, .slice none 0 0, .slice none 0 0, .slice A n c, .slice B m d] 46)
  have b3 := Blk.new ((w.alloc (.cells #[str [119, 111, 114, 100], .bool false] 36)).alloc (.cells #[str [116], .int .i64 0, .int .i64 (n : Nat), .slice none 0 0] 40)) 46 #[.slice (some ⟨w.heap.size, 0, none⟩) 1 1, .slice none 0 0, .slice (some ⟨w.heap.size + 1, 0, none⟩) 1 1, .slice none 0 0, .slice none 0 0, .slice A n c, .slice B m d]
  simp only [World.size_alloc] at b2 b3
  refine ⟨b3, ⟨own_one2 b1 (Nat.le_refl _), fun a ha => ?_⟩, ⟨[], rfl, own_nil0 _ _ _ _, fun _ h => by cases h⟩, ⟨[(⟨[116], 0, (n : Int), []⟩, ⟨none, 0, 0⟩)], rfl, own_one4 b2 (by omega), fun x hx => ?_⟩, ⟨[], rfl, own_nil0 _ _ _ _, fun _ h => by cases h⟩, ⟨own_nil0 _ _ _ _, fun _ h => by cases h⟩⟩
  · have ha : a ∈ [(([119, 111, 114, 100] : Bs), false)] := ha
    rw [List.mem_singleton] at ha
    subst ha
    show ([119, 111, 114, 100] : Bs).length ≤ _
    simp
  · rw [List.mem_singleton] at hx
    subst hx
    exact ⟨by show ([116] : Bs).length ≤ _; simp, by unfold Rng; simp, by unfold Rng; simp; omega, own_nil0 _ _ _ _, fun _ h => by cases h⟩

set_option maxRecDepth 100000 in
set_option maxHeartbeats 16000000 in
theorem law_corpus (A B : Option Addr) (n m c d : Nat) (h : List Int) (l : List Bs) (w : World) (hN : Nums w w.heap.size ⟨A, n, c⟩ h) (hW : Words w w.heap.size ⟨B, m, d⟩ l)
    (htab : Lib.TabIs Tryd.prog w "internal/strconv.uint64pow10" .u64 Lib.pow10Tab) :
    Calls Tryd.prog 5 #[.slice A n c, .slice B m d] w (Gave (.bool true) w) := by
  have hn : n ≤ 9223372036854775807 := hN.1.2
  have hm : m ≤ 9223372036854775807 := hW.1.2
  by_cases h0 : n = 0
  · subst h0
    go_enter Tryd.func5, Tryd.ntmps5
    go_wp2
    go_ret
    exact ⟨rfl, Below.refl _ _⟩
  have hz1 : ((n : Int) == 0) = false := by rw [beq_eq_false_iff_ne]; omega
  have hz2 : (n == 0) = false := by rw [beq_eq_false_iff_ne]; omega
  by_cases h1 : 60 < n
  · go_enter Tryd.func5, Tryd.ntmps5
    go_wp2
    go_ret
    exact ⟨rfl, Below.refl _ _⟩
  by_cases h2 : 70 < m
  · go_enter Tryd.func5, Tryd.ntmps5
    go_wp2
    go_ret
    exact ⟨rfl, Below.refl _ _⟩
  have hst : Sl w w.heap.size 1 B m (strs l) := hW.2.1
  have hsl : Sl w w.heap.size 1 A n (ints h) := hN.2.1
  have HHL : Hid (h.length = n) := hN.len
  have HLL : Hid (l.length = m) := hW.len
  have HT := Lib.hid (Lib.tabBelow_of_tabIs htab)
  have O0 := Lib.hid (lone_own (A := A) (B := B) (m := m) (c := c) (d := d) (h := h) (l := l) w (show n ≤ 60 by omega))
  have hB0 := (((Below.refl w.heap.size w).alloc (Nat.le_refl _) (.cells #[str [119, 111, 114, 100], .bool false] 36)).alloc (by simp) (.cells #[str [116], .int .i64 0, .int .i64 (n : Nat), .slice none 0 0] 40)).alloc (by simp <;> omega) (.cells #[.slice (some ⟨w.heap.size, 0, none⟩) 1 1, .slice none 0 0, .slice (some ⟨w.heap.size + 1, 0, none⟩) 1 1, .slice none 0 0, .slice none 0 0, .slice A n c, .slice B m d] 46)
  have HWL := Lib.hid hW.2.2
  have HN := Lib.hid hN
  have HW := Lib.hid hW
  have hn1 : 1 ≤ n := by omega
  obtain ⟨i3, hi3, hz30, hz31, hz32⟩ := info_parts info_sls
  clear htab hN hW h0
  by_cases hmn : m = n
  · obtain rfl : n = m := hmn.symm
    clear hmn
    go_enter Tryd.func5, Tryd.ntmps5
    go_wp2
    go_loopw [42, 7] (fun iv bv wr => ∃ k : Nat, k ≤ n ∧ iv = .int .i64 k ∧ bv = .bool (Cor.bare (h.take k) (l.take k)) ∧ ∃ T : Hd, Below w.heap.size w wr ∧ OwnC wr w.heap.size (w.heap.size + 2) ⟨⟨some ⟨w.heap.size, 0, none⟩, 1, 1⟩, T, ⟨some ⟨w.heap.size + 1, 0, none⟩, 1, 1⟩, ⟨none, 0, 0⟩, ⟨none, 0, 0⟩, ⟨A, n, c⟩, ⟨B, n, d⟩⟩ { lone n h l with toks := List.replicate k [[]] }) (fun iv _ _ => n - (intOf iv).toNat)
    case atStart => exact ⟨0, Nat.zero_le _, rfl, rfl, ⟨none, 0, 0⟩, hB0, O0.out⟩
    case round =>
      obtain ⟨k, hk, rfl, rfl, ⟨TA, tn, tc⟩, hB, hO⟩ := hrel
      by_cases hlt : k < n
      · obtain ⟨gh, oh, hk3, rfl, hg3, d1⟩ := (hsl.under hB).int hlt
        obtain ⟨z, hz⟩ : ∃ z, h[k] = z := ⟨_, rfl⟩
        have HS2 := Lib.hid (List.take_succ_eq_append_getElem hk3)
        rw [hz] at d1 HS2
        obtain ⟨gs, os, hk2, rfl, hg, d0⟩ := (hst.under hB).at_ (k := k) hlt
        obtain ⟨r, hr⟩ : ∃ r, l[k] = r := ⟨_, rfl⟩
        have HS1 := Lib.hid (List.take_succ_eq_append_getElem hk2)
        rw [hr] at d0 HS1
        have HBS := Lib.hid (bare_step HS2.out HS1.out)
        clear hr
        obtain ⟨LT, eLT, oLT, wLT⟩ := hO.t
        have hLT : LT.length = k := by have := congrArg List.length eLT; simpa [lone] using this
        have htn : tn = k := by have q : LT.length = tn := (own_sl oLT).flen tkV_len (by omega); omega
        subst htn
        have OO := Lib.hid hO
        have eL := Lib.hid eLT
        have HO := Lib.hid oLT
        have WL := Lib.hid wLT
        have HB := Lib.hid hB
        have bd : Blk wr (w.heap.size + 2) 46 #[.slice (some ⟨w.heap.size, 0, none⟩) 1 1, .slice TA tn tc, .slice (some ⟨w.heap.size + 1, 0, none⟩) 1 1, .slice none 0 0, .slice none 0 0, .slice (some ⟨gh, oh, none⟩) n c, .slice (some ⟨gs, os, none⟩) n d] := hO.blk
        have hBs := hB.size
        have y1 : _ = some (Value.slice TA tn tc) := bd.cell 1
        have z1 := bd.free 1
        have bs := (Blk.new wr 9 #[str []]).alloc (.cells #[.slice (some ⟨wr.heap.size, 0, none⟩) 1 1] 23)
        have OWS := Lib.hid (show OwnW ((wr.alloc (.cells #[str []] 9)).alloc (.cells #[.slice (some ⟨wr.heap.size, 0, none⟩) 1 1] 23)) w.heap.size ⟨some ⟨wr.heap.size, 0, none⟩, 1, 1⟩ [[]] from ⟨own_one1 bs hBs, fun x hx => by rw [List.mem_singleton] at hx; subst hx; unfold Len; simp⟩)
        have hoa := (oLT.alloc (.cells #[str []] 9)).alloc (.cells #[.slice (some ⟨wr.heap.size, 0, none⟩) 1 1] 23)
        have hba := (hB.alloc hBs (.cells #[str []] 9)).alloc (by have := hBs; simp; omega) (.cells #[.slice (some ⟨wr.heap.size, 0, none⟩) 1 1] 23)
        have hbd2 := (bd.alloc (.cells #[str []] 9)).alloc (.cells #[.slice (some ⟨wr.heap.size, 0, none⟩) 1 1] 23)
        clear hO hz eLT oLT wLT bd bs hLT hB
        go_upto_region 10 with (at_builtin; refine wpList_app _ rfl (.tmp 48) (.tmp 50) _ rfl w.heap.size 23 i3 _ 1 24 Tryd.underlying42 hi3 hz30 hz31 hz32 rfl (by decide) (.slice TA tn tc) tn (LT.flatMap tkV) rfl hoa (some ⟨wr.heap.size + 1, 0, none⟩) 1 1 [.slice (some ⟨wr.heap.size, 0, none⟩) 1 1] rfl rfl (fun _ => ⟨_, rfl, (by have := news_new (wr.alloc (.cells #[str []] 9)) 23 [.slice (some ⟨wr.heap.size, 0, none⟩) 1 1]; rw [World.size_alloc] at this; exact this)⟩) (fun u hu => by simp at hu; subst hu; rfl) (by unfold maxLen; omega) (by omega) hba.size ?_; intro v6 w6 own6 gr6 _; obtain ⟨A6, c6, rfl, -, -⟩ := own_slc own6; have b6 := hbd2.off (Off.grown hoa gr6) (by decide); have y6 := b6.cell 1; have z6 := b6.free 1)
        have O6 := ((OO.out.alloc (.cells #[str []] 9)).alloc (.cells #[.slice (some ⟨wr.heap.size, 0, none⟩) 1 1] 23)).tok (y := ⟨some ⟨wr.heap.size, 0, none⟩, 1, 1⟩) (s := [[]]) eL.out hoa (fun x hx => ⟨((WL.out x hx).1.alloc _).alloc _, (WL.out x hx).2⟩) OWS.out own6 gr6
        have hB6 : Below w.heap.size w (w6.setCell ⟨w.heap.size + 2, 1, none⟩ (.slice A6 (tn + 1) c6)) := (hba.grown gr6 hba.size (fun k hk => (hoa.lt k hk).1)).setCell (p := ⟨w.heap.size + 2, 1, none⟩) (by show w.heap.size ≤ w.heap.size + 2; omega) _
        have O7 : Hid (OwnC (w6.setCell ⟨w.heap.size + 2, 1, none⟩ (.slice A6 (tn + 1) c6)) w.heap.size (w.heap.size + 2) ⟨⟨some ⟨w.heap.size, 0, none⟩, 1, 1⟩, ⟨A6, tn + 1, c6⟩, ⟨some ⟨w.heap.size + 1, 0, none⟩, 1, 1⟩, ⟨none, 0, 0⟩, ⟨none, 0, 0⟩, ⟨some ⟨gh, oh, none⟩, n, c⟩, ⟨some ⟨gs, os, none⟩, n, d⟩⟩ { lone n h l with toks := List.replicate (tn + 1) [[]] }) := by
          have := O6
          show OwnC _ _ _ _ _
          rw [List.replicate_succ']
          exact this
        have d1b : (w6.setCell ⟨w.heap.size + 2, 1, none⟩ (.slice A6 (tn + 1) c6)).cell? ⟨gh, oh + tn, none⟩ = some (.int .i64 z) := by
          obtain ⟨gh', oh', hk3', e, hg3', d1'⟩ := (hsl.under hB6).int hlt
          cases e
          rw [d1']
          have := HS2.out
          rw [List.take_succ_eq_append_getElem hk3'] at this
          have := List.append_cancel_left this
          simpa using this
        have d0b : (w6.setCell ⟨w.heap.size + 2, 1, none⟩ (.slice A6 (tn + 1) c6)).cell? ⟨gs, os + tn, none⟩ = some (str r) := by
          obtain ⟨gs', os', hk2', e, hg', d0'⟩ := (hst.under hB6).at_ (k := tn) hlt
          cases e
          rw [d0']
          have := HS1.out
          rw [List.take_succ_eq_append_getElem hk2'] at this
          have := List.append_cancel_left this
          simp at this
          rw [this]
        clear O6 own6 gr6 b6 y6 z6 y1 z1 hoa hba hbd2 d1 d0
        generalize (w6.setCell ⟨w.heap.size + 2, 1, none⟩ (.slice A6 (tn + 1) c6)) = w7 at hB6 O7 d1b d0b ⊢
        obtain ⟨b, hb⟩ : ∃ b, Cor.bare (h.take tn) (l.take tn) = b := ⟨_, rfl⟩
        rw [hb] at HBS
        simp only [hb]
        clear hb
        cases b with
        | false =>
          go_wp2
          go_roundw
          case rel => first | exact ⟨tn + 1, by omega, by go_num, by rw [HBS.out]; rfl, ⟨A6, tn + 1, c6⟩, hB6, O7.out⟩ | ((repeat apply Exists.intro); exact ⟨⟨tn + 1, by omega, by go_num, by rw [HBS.out]; rfl, ⟨A6, tn + 1, c6⟩, hB6, O7.out⟩, rfl⟩)
          case measure => simp [intOf]; omega
        | true =>
          by_cases hzz : z = -1
          · subst hzz
            by_cases hre : r = []
            · have e1 : (r == []) = true := by rw [hre]; rfl
              have e2 : r.isEmpty = true := by rw [hre]; rfl
              have HB2 : Hid (Cor.bare (h.take (tn + 1)) (l.take (tn + 1)) = true) := by show _ = _; rw [HBS.out, e2]; rfl
              clear hre
              go_wp2
              go_roundw
              case rel => first | exact ⟨tn + 1, by omega, by go_num, by rw [HB2.out], ⟨A6, tn + 1, c6⟩, hB6, O7.out⟩ | ((repeat apply Exists.intro); exact ⟨⟨tn + 1, by omega, by go_num, by rw [HB2.out], ⟨A6, tn + 1, c6⟩, hB6, O7.out⟩, rfl⟩)
              case measure => simp [intOf]; omega
            · have e1 : (r == []) = false := by simpa using hre
              have e2 : r.isEmpty = false := by simpa using hre
              have HB2 : Hid (Cor.bare (h.take (tn + 1)) (l.take (tn + 1)) = false) := by show _ = _; rw [HBS.out, e2]; rfl
              clear hre
              go_wp2
              go_roundw
              case rel => first | exact ⟨tn + 1, by omega, by go_num, by rw [HB2.out], ⟨A6, tn + 1, c6⟩, hB6, O7.out⟩ | ((repeat apply Exists.intro); exact ⟨⟨tn + 1, by omega, by go_num, by rw [HB2.out], ⟨A6, tn + 1, c6⟩, hB6, O7.out⟩, rfl⟩)
              case measure => simp [intOf]; omega
          · have e1 : (z == -1) = false := by simpa using hzz
            have HB2 : Hid (Cor.bare (h.take (tn + 1)) (l.take (tn + 1)) = false) := by show _ = _; rw [HBS.out, e1]; rfl
            clear hzz
            go_wp2
            go_roundw
            case rel => first | exact ⟨tn + 1, by omega, by go_num, by rw [HB2.out], ⟨A6, tn + 1, c6⟩, hB6, O7.out⟩ | ((repeat apply Exists.intro); exact ⟨⟨tn + 1, by omega, by go_num, by rw [HB2.out], ⟨A6, tn + 1, c6⟩, hB6, O7.out⟩, rfl⟩)
            case measure => simp [intOf]; omega
      · obtain rfl : n = k := by omega
        have hr : Reads wr wr.heap.size ⟨⟨some ⟨w.heap.size, 0, none⟩, 1, 1⟩, ⟨TA, tn, tc⟩, ⟨some ⟨w.heap.size + 1, 0, none⟩, 1, 1⟩, ⟨none, 0, 0⟩, ⟨none, 0, 0⟩, ⟨A, n, c⟩, ⟨B, n, d⟩⟩ (lone n h l) := ⟨hO.a.reads, hO.t.reads, hO.x.reads, hO.r.reads, hO.n.reads, (HN.out.under hB).up hB.size, (HW.out.under hB).up hB.size⟩
        have bd : Blk wr (w.heap.size + 2) 46 #[.slice (some ⟨w.heap.size, 0, none⟩) 1 1, .slice TA tn tc, .slice (some ⟨w.heap.size + 1, 0, none⟩) 1 1, .slice none 0 0, .slice none 0 0, .slice A n c, .slice B n d] := hO.blk
        have V1 := validate_any _ _ _ hr
        unfold Valed at V1
        have F1 := Lib.hid (fun (W : World) (hW : Below w.heap.size w W) => format_any A B n n c d h l W (by omega) (by omega) ((hsl.under hW).up hW.size) ((hst.under hW).up hW.size) HWL.out (fun W2 hW2 => (HT.out W2 (hW.trans (hW2.mono hW.size)))))
        unfold Fmtd at F1
        have HB := Lib.hid hB
        have hbs := hB.size
        have t1 : h.take n = h := List.take_of_length_le (by rw [HHL.out]; exact Nat.le_refl _)
        have t2 : l.take n = l := List.take_of_length_le (by rw [HLL.out]; exact Nat.le_refl _)
        rw [t1, t2]
        clear t1 t2
        have y0 := bd.cell 0
        have y1 := bd.cell 1
        have y2 := bd.cell 2
        have y3 := bd.cell 3
        have y4 := bd.cell 4
        have y5 := bd.cell 5
        have y6 := bd.cell 6
        clear hO bd hr hB hsl hst
        obtain ⟨bb0, hbb0⟩ : ∃ b, Cor.bare h l = b := ⟨_, rfl⟩
        simp only [hbb0]
        have HBB := Lib.hid hbb0
        clear hbb0
        cases bb0 with
        | false =>
          have HEL := lone_else hn1 (show n ≤ 60 by omega) HHL.out (by rintro ⟨_, q⟩; rw [HBB.out] at q; cases q)
          obtain ⟨e1, he1⟩ : ∃ e, (Cor.check (lone n h l)).2.2 = e := ⟨_, rfl⟩
          obtain ⟨⟨s, e2⟩, he2⟩ : ∃ x, fmtA h l = x := ⟨_, rfl⟩
          rw [he1, he2] at HEL
          rw [he1] at V1
          rw [he2] at F1
          obtain ⟨z1, hz1'⟩ : ∃ z : Int, (e1 : Int) = z := ⟨_, rfl⟩
          obtain ⟨z2, hz2'⟩ : ∃ z : Int, (e2 : Int) = z := ⟨_, rfl⟩
          simp only [hz1'] at V1
          simp only [hz2'] at F1
          obtain ⟨bb, hb1, hb2⟩ : ∃ bb : Bool, (z1 == 0) = bb ∧ (z2 == 0) = bb := by
            refine ⟨_, rfl, ?_⟩
            rw [Bool.eq_iff_iff, beq_iff_eq, beq_iff_eq]
            have := HEL
            simp only [] at this
            omega
          generalize ((Cor.check (lone n h l)).1 : Int) = p1 at V1
          generalize ((Cor.check (lone n h l)).2.1 : Int) = p2 at V1
          have V1 := Lib.hid V1
          clear he1 he2 hz1' hz2' HEL
          cases bb with
          | false =>
            go_wp2_with (first
              | (go_at_call 12; refine V1.out.mono ?_; rintro e' w8 ⟨rfl, hb8⟩; have HB8 := HB.out.trans (hb8.mono hbs))
              | (go_at_call 6; refine (F1.out _ HB8).mono ?_; rintro e' w9 ⟨rfl, hb9⟩; have HB9 := HB8.trans (hb9.mono HB8.size))
              | (go_at_call 8; refine (awake_any _).mono ?_; rintro e' w10 ⟨rfl, hb10⟩))
            go_ret
            exact ⟨rfl, HB9.trans (hb10.mono HB9.size)⟩
          | true =>
            go_wp2_with (first
              | (go_at_call 12; refine V1.out.mono ?_; rintro e' w8 ⟨rfl, hb8⟩; have HB8 := HB.out.trans (hb8.mono hbs))
              | (go_at_call 6; refine (F1.out _ HB8).mono ?_; rintro e' w9 ⟨rfl, hb9⟩; have HB9 := HB8.trans (hb9.mono HB8.size))
              | (go_at_call 8; refine (awake_any _).mono ?_; rintro e' w10 ⟨rfl, hb10⟩))
            go_ret
            exact ⟨rfl, HB9.trans (hb10.mono HB9.size)⟩
        | true =>
          have HL2 := lone_bare hn1 (show n ≤ 60 by omega) HHL.out HLL.out HBB.out
          obtain ⟨⟨s, e2⟩, he2⟩ : ∃ x, fmtA h l = x := ⟨_, rfl⟩
          rw [he2] at HL2 F1
          obtain ⟨q1, q2⟩ := HL2
          have q2 : e2 = 0 := q2
          subst q2
          simp only [q1] at V1
          generalize ((Cor.check (lone n h l)).1 : Int) = p1 at V1
          generalize ((Cor.check (lone n h l)).2.1 : Int) = p2 at V1
          have V1 := Lib.hid V1
          clear he2 q1
          go_wp2_with (first
            | (go_at_call 12; refine V1.out.mono ?_; rintro e' w8 ⟨rfl, hb8⟩; have HB8 := HB.out.trans (hb8.mono hbs))
            | (go_at_call 6; refine (F1.out _ HB8).mono ?_; rintro e' w9 ⟨rfl, hb9⟩; have HB9 := HB8.trans (hb9.mono HB8.size))
            | (go_at_call 8; refine (awake_any _).mono ?_; rintro e' w10 ⟨rfl, hb10⟩))
          go_ret
          exact ⟨rfl, HB9.trans (hb10.mono HB9.size)⟩
  · have hmn1 : ((m : Int) == (n : Int)) = false := by rw [beq_eq_false_iff_ne]; omega
    go_enter Tryd.func5, Tryd.ntmps5
    go_wp2
    go_loopw [42, 7] (fun iv bv wr => ∃ k : Nat, k ≤ n ∧ iv = .int .i64 k ∧ bv = .bool (false) ∧ ∃ T : Hd, Below w.heap.size w wr ∧ OwnC wr w.heap.size (w.heap.size + 2) ⟨⟨some ⟨w.heap.size, 0, none⟩, 1, 1⟩, T, ⟨some ⟨w.heap.size + 1, 0, none⟩, 1, 1⟩, ⟨none, 0, 0⟩, ⟨none, 0, 0⟩, ⟨A, n, c⟩, ⟨B, m, d⟩⟩ { lone n h l with toks := List.replicate k [[]] }) (fun iv _ _ => n - (intOf iv).toNat)
    case atStart => exact ⟨0, Nat.zero_le _, rfl, rfl, ⟨none, 0, 0⟩, hB0, O0.out⟩
    case round =>
      obtain ⟨k, hk, rfl, rfl, ⟨TA, tn, tc⟩, hB, hO⟩ := hrel
      by_cases hlt : k < n
      · obtain ⟨gh, oh, hk3, rfl, hg3, d1⟩ := (hsl.under hB).int hlt
        obtain ⟨z, hz⟩ : ∃ z, h[k] = z := ⟨_, rfl⟩
        have HS2 := Lib.hid (List.take_succ_eq_append_getElem hk3)
        rw [hz] at d1 HS2
        obtain ⟨LT, eLT, oLT, wLT⟩ := hO.t
        have hLT : LT.length = k := by have := congrArg List.length eLT; simpa [lone] using this
        have htn : tn = k := by have q : LT.length = tn := (own_sl oLT).flen tkV_len (by omega); omega
        subst htn
        have OO := Lib.hid hO
        have eL := Lib.hid eLT
        have HO := Lib.hid oLT
        have WL := Lib.hid wLT
        have HB := Lib.hid hB
        have bd : Blk wr (w.heap.size + 2) 46 #[.slice (some ⟨w.heap.size, 0, none⟩) 1 1, .slice TA tn tc, .slice (some ⟨w.heap.size + 1, 0, none⟩) 1 1, .slice none 0 0, .slice none 0 0, .slice (some ⟨gh, oh, none⟩) n c, .slice B m d] := hO.blk
        have hBs := hB.size
        have y1 : _ = some (Value.slice TA tn tc) := bd.cell 1
        have z1 := bd.free 1
        have bs := (Blk.new wr 9 #[str []]).alloc (.cells #[.slice (some ⟨wr.heap.size, 0, none⟩) 1 1] 23)
        have OWS := Lib.hid (show OwnW ((wr.alloc (.cells #[str []] 9)).alloc (.cells #[.slice (some ⟨wr.heap.size, 0, none⟩) 1 1] 23)) w.heap.size ⟨some ⟨wr.heap.size, 0, none⟩, 1, 1⟩ [[]] from ⟨own_one1 bs hBs, fun x hx => by rw [List.mem_singleton] at hx; subst hx; unfold Len; simp⟩)
        have hoa := (oLT.alloc (.cells #[str []] 9)).alloc (.cells #[.slice (some ⟨wr.heap.size, 0, none⟩) 1 1] 23)
        have hba := (hB.alloc hBs (.cells #[str []] 9)).alloc (by have := hBs; simp; omega) (.cells #[.slice (some ⟨wr.heap.size, 0, none⟩) 1 1] 23)
        have hbd2 := (bd.alloc (.cells #[str []] 9)).alloc (.cells #[.slice (some ⟨wr.heap.size, 0, none⟩) 1 1] 23)
        clear hO hz eLT oLT wLT bd bs hLT hB
        go_upto_region 10 with (at_builtin; refine wpList_app _ rfl (.tmp 48) (.tmp 50) _ rfl w.heap.size 23 i3 _ 1 24 Tryd.underlying42 hi3 hz30 hz31 hz32 rfl (by decide) (.slice TA tn tc) tn (LT.flatMap tkV) rfl hoa (some ⟨wr.heap.size + 1, 0, none⟩) 1 1 [.slice (some ⟨wr.heap.size, 0, none⟩) 1 1] rfl rfl (fun _ => ⟨_, rfl, (by have := news_new (wr.alloc (.cells #[str []] 9)) 23 [.slice (some ⟨wr.heap.size, 0, none⟩) 1 1]; rw [World.size_alloc] at this; exact this)⟩) (fun u hu => by simp at hu; subst hu; rfl) (by unfold maxLen; omega) (by omega) hba.size ?_; intro v6 w6 own6 gr6 _; obtain ⟨A6, c6, rfl, -, -⟩ := own_slc own6; have b6 := hbd2.off (Off.grown hoa gr6) (by decide); have y6 := b6.cell 1; have z6 := b6.free 1)
        have O6 := ((OO.out.alloc (.cells #[str []] 9)).alloc (.cells #[.slice (some ⟨wr.heap.size, 0, none⟩) 1 1] 23)).tok (y := ⟨some ⟨wr.heap.size, 0, none⟩, 1, 1⟩) (s := [[]]) eL.out hoa (fun x hx => ⟨((WL.out x hx).1.alloc _).alloc _, (WL.out x hx).2⟩) OWS.out own6 gr6
        have hB6 : Below w.heap.size w (w6.setCell ⟨w.heap.size + 2, 1, none⟩ (.slice A6 (tn + 1) c6)) := (hba.grown gr6 hba.size (fun k hk => (hoa.lt k hk).1)).setCell (p := ⟨w.heap.size + 2, 1, none⟩) (by show w.heap.size ≤ w.heap.size + 2; omega) _
        have O7 : Hid (OwnC (w6.setCell ⟨w.heap.size + 2, 1, none⟩ (.slice A6 (tn + 1) c6)) w.heap.size (w.heap.size + 2) ⟨⟨some ⟨w.heap.size, 0, none⟩, 1, 1⟩, ⟨A6, tn + 1, c6⟩, ⟨some ⟨w.heap.size + 1, 0, none⟩, 1, 1⟩, ⟨none, 0, 0⟩, ⟨none, 0, 0⟩, ⟨some ⟨gh, oh, none⟩, n, c⟩, ⟨B, m, d⟩⟩ { lone n h l with toks := List.replicate (tn + 1) [[]] }) := by
          have := O6
          show OwnC _ _ _ _ _
          rw [List.replicate_succ']
          exact this
        have d1b : (w6.setCell ⟨w.heap.size + 2, 1, none⟩ (.slice A6 (tn + 1) c6)).cell? ⟨gh, oh + tn, none⟩ = some (.int .i64 z) := by
          obtain ⟨gh', oh', hk3', e, hg3', d1'⟩ := (hsl.under hB6).int hlt
          cases e
          rw [d1']
          have := HS2.out
          rw [List.take_succ_eq_append_getElem hk3'] at this
          have := List.append_cancel_left this
          simpa using this
        clear O6 own6 gr6 b6 y6 z6 y1 z1 hoa hba hbd2 d1
        generalize (w6.setCell ⟨w.heap.size + 2, 1, none⟩ (.slice A6 (tn + 1) c6)) = w7 at hB6 O7 d1b ⊢
        go_wp2
        go_roundw
        case rel => first | exact ⟨tn + 1, by omega, by go_num, rfl, ⟨A6, tn + 1, c6⟩, hB6, O7.out⟩ | ((repeat apply Exists.intro); exact ⟨⟨tn + 1, by omega, by go_num, rfl, ⟨A6, tn + 1, c6⟩, hB6, O7.out⟩, rfl⟩)
        case measure => simp [intOf]; omega
      · obtain rfl : n = k := by omega
        have hr : Reads wr wr.heap.size ⟨⟨some ⟨w.heap.size, 0, none⟩, 1, 1⟩, ⟨TA, tn, tc⟩, ⟨some ⟨w.heap.size + 1, 0, none⟩, 1, 1⟩, ⟨none, 0, 0⟩, ⟨none, 0, 0⟩, ⟨A, n, c⟩, ⟨B, m, d⟩⟩ (lone n h l) := ⟨hO.a.reads, hO.t.reads, hO.x.reads, hO.r.reads, hO.n.reads, (HN.out.under hB).up hB.size, (HW.out.under hB).up hB.size⟩
        have bd : Blk wr (w.heap.size + 2) 46 #[.slice (some ⟨w.heap.size, 0, none⟩) 1 1, .slice TA tn tc, .slice (some ⟨w.heap.size + 1, 0, none⟩) 1 1, .slice none 0 0, .slice none 0 0, .slice A n c, .slice B m d] := hO.blk
        have V1 := validate_any _ _ _ hr
        unfold Valed at V1
        have F1 := Lib.hid (fun (W : World) (hW : Below w.heap.size w W) => format_any A B n m c d h l W (by omega) (by omega) ((hsl.under hW).up hW.size) ((hst.under hW).up hW.size) HWL.out (fun W2 hW2 => (HT.out W2 (hW.trans (hW2.mono hW.size)))))
        unfold Fmtd at F1
        have HB := Lib.hid hB
        have hbs := hB.size
        have y0 := bd.cell 0
        have y1 := bd.cell 1
        have y2 := bd.cell 2
        have y3 := bd.cell 3
        have y4 := bd.cell 4
        have y5 := bd.cell 5
        have y6 := bd.cell 6
        clear hO bd hr hB hsl hst
        have HEL := lone_else hn1 (show n ≤ 60 by omega) HHL.out (by rintro ⟨q, _⟩; rw [HLL.out] at q; omega)
        obtain ⟨e1, he1⟩ : ∃ e, (Cor.check (lone n h l)).2.2 = e := ⟨_, rfl⟩
        obtain ⟨⟨s, e2⟩, he2⟩ : ∃ x, fmtA h l = x := ⟨_, rfl⟩
        rw [he1, he2] at HEL
        rw [he1] at V1
        rw [he2] at F1
        obtain ⟨z1, hz1'⟩ : ∃ z : Int, (e1 : Int) = z := ⟨_, rfl⟩
        obtain ⟨z2, hz2'⟩ : ∃ z : Int, (e2 : Int) = z := ⟨_, rfl⟩
        simp only [hz1'] at V1
        simp only [hz2'] at F1
        obtain ⟨bb, hb1, hb2⟩ : ∃ bb : Bool, (z1 == 0) = bb ∧ (z2 == 0) = bb := by
          refine ⟨_, rfl, ?_⟩
          rw [Bool.eq_iff_iff, beq_iff_eq, beq_iff_eq]
          have := HEL
          simp only [] at this
          omega
        generalize ((Cor.check (lone n h l)).1 : Int) = p1 at V1
        generalize ((Cor.check (lone n h l)).2.1 : Int) = p2 at V1
        have V1 := Lib.hid V1
        clear he1 he2 hz1' hz2' HEL
        cases bb with
        | false =>
          go_wp2_with (first
            | (go_at_call 12; refine V1.out.mono ?_; rintro e' w8 ⟨rfl, hb8⟩; have HB8 := HB.out.trans (hb8.mono hbs))
            | (go_at_call 6; refine (F1.out _ HB8).mono ?_; rintro e' w9 ⟨rfl, hb9⟩; have HB9 := HB8.trans (hb9.mono HB8.size))
            | (go_at_call 8; refine (awake_any _).mono ?_; rintro e' w10 ⟨rfl, hb10⟩))
          go_ret
          exact ⟨rfl, HB9.trans (hb10.mono HB9.size)⟩
        | true =>
          go_wp2_with (first
            | (go_at_call 12; refine V1.out.mono ?_; rintro e' w8 ⟨rfl, hb8⟩; have HB8 := HB.out.trans (hb8.mono hbs))
            | (go_at_call 6; refine (F1.out _ HB8).mono ?_; rintro e' w9 ⟨rfl, hb9⟩; have HB9 := HB8.trans (hb9.mono HB8.size))
            | (go_at_call 8; refine (awake_any _).mono ?_; rintro e' w10 ⟨rfl, hb10⟩))
          go_ret
          exact ⟨rfl, HB9.trans (hb10.mono HB9.size)⟩
end Go.Proofs.YtnbnmomichegaaaDoor
