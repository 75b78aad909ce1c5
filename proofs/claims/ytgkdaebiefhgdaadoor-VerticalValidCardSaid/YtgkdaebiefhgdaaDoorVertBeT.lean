/-
  The contract of the reader's beginText. Conditions: the state is one of a reading, the tag's keys lie in a row of their own.
-/
import Derived.Test.YtgkdaebiefhgdaaDoorVertMm
import Derived.Test.YtgkdaebiefhgdaaDoorCorSortP
import Derived.Test.YtgkdaebiefhgdaaDoorCorFind
import Derived.Test.YtgkdaebiefhgdaaDoorCorHold
import Derived.Test.YtgkdaebiefhgdaaDoorMarkAll
import Derived.RegionTactic
import Derived.BigRegion
import Derived.Deep.RegionLaw
import Derived.Deep.CutRange
namespace Go.Proofs.YtgkdaebiefhgdaaDoor
set_option linter.unusedSimpArgs false
set_option linter.unusedVariables false
open Go.RowKit
open Feat (Bs)
open Tagp (KV okName)
open Vert (Rd isId)
open Cor (findT)
attribute [local go_sem] byte_mk ByteArray.extract_mk

theorem info_textV : (Tryd.prog.info? 61).map (fun i => (i.zero, i.size, i.bytes)) = some (some (.agg #[.string ⟨#[]⟩, .int .i64 0, .int .i64 0, .slice none 0 0]), 4, 56) := by kernel_rfl
/-- What the walk over the keys has found. -/
def Found (l : List KV) (fo : Bool) (tn : Bs) : Prop :=
  match (l.filter isId).getLast? with
  | none => fo = false ∧ tn = []
  | some p => fo = true ∧ tn = p.2
theorem found_id {l : List KV} {p : KV} (h : isId p = true) : Found (l ++ [p]) true p.2 := by
  unfold Found
  rw [List.filter_append, List.filter_cons, if_pos h, List.filter_nil, List.getLast?_append]
  exact ⟨rfl, rfl⟩
theorem found_no {l : List KV} {p : KV} {fo : Bool} {tn : Bs} (h : isId p = false) (k : Found l fo tn) : Found (l ++ [p]) fo tn := by
  unfold Found at k ⊢
  rw [List.filter_append, List.filter_cons, if_neg (by rw [h]; decide), List.filter_nil, List.append_nil]
  exact k
theorem meta_id {l : List KV} {p : KV} (h : isId p = true) : ((l ++ [p]).filter fun p => !isId p) = l.filter fun p => !isId p := by
  rw [List.filter_append, List.filter_cons, if_neg (by rw [h]; decide), List.filter_nil, List.append_nil]
theorem meta_no {l : List KV} {p : KV} (h : isId p = false) : ((l ++ [p]).filter fun p => !isId p) = (l.filter fun p => !isId p) ++ [p] := by
  rw [List.filter_append, List.filter_cons, if_pos (by rw [h]; decide), List.filter_nil]
theorem meta_le (l : List KV) (j : Nat) : ((l.take j).filter fun p => !isId p).length ≤ l.length := by
  refine Nat.le_trans (List.length_filter_le _ _) ?_
  rw [List.length_take]; omega
theorem flat_pair (l : List KV) : (l.flatMap prV).length = l.length * 2 := flat_len prV_len l

set_option maxRecDepth 100000 in
set_option maxHeartbeats 4000000 in
theorem beginText_any (B g : Nat) (h : RdH) (ats : List At) (s : Rd) (cl : Bool) (nm : Bs) (KA : Option Addr) (Kn Kc : Nat) (ks : List KV) (w : World) (k : OwnR w B g h ats s)
    (hK : w.ownsRow B 88 2 (.slice KA Kn Kc) Kn (ks.flatMap prV)) (hks : ∀ p ∈ ks, Len p.1 ∧ Len p.2) (hkl : ks.length ≤ 1048576) :
    Calls Tryd.prog 28 #[.pointer (some ⟨g, 0, none⟩), .agg #[.bool cl, str nm, .slice KA Kn Kc]] w (Steps B g ats w (Vert.beginText s ks)) := by
  obtain ⟨⟨Aa, na, ca⟩, ⟨At', nt, ct⟩, ⟨Ax, nx, cx⟩, ⟨Ar, nr, cr⟩, ⟨Ao, no, co⟩⟩ := h
  obtain ⟨toks, texts, regs, opn, tx⟩ := s
  obtain ⟨i0, hi0, hz0, hz1, hz2⟩ := info_parts info_pairM
  obtain ⟨i1, hi1, hy0, hy1, hy2⟩ := info_parts info_textV
  have hBg : B ≤ w.heap.size := Nat.le_trans k.bg (Nat.le_of_lt k.blk.lt)
  have hg0 : g < w.heap.size := k.blk.lt
  have hB0 := (Below.refl w.heap.size w).alloc (Nat.le_refl _) (.cells #[.bool cl, str nm, .slice KA Kn Kc] 68)
  have kb := k.below hB0
  have hT := Blk.new w 68 #[.bool cl, str nm, .slice KA Kn Kc]
  have c8 : _ = some (Value.bool tx) := kb.blk.cell 8
  have c2 : _ = some (Value.slice Ax nx cx) := kb.blk.cell 2
  have c1 : _ = some (Value.slice At' nt ct) := kb.blk.cell 1
  have v2 : _ = some (Value.slice KA Kn Kc) := hT.cell 2
  have hx : texts.length = nx := k.x.len
  have ht : toks.length = nt := k.t.reads.len
  have kt := k.ok.t
  have kx := k.ok.x
  dsimp only at kt kx
  have hKl : ks.length = Kn := by have h1 := hK.1; rw [flat_pair] at h1; omega
  have HKS : Hid (Keys w w.heap.size ⟨KA, Kn, Kc⟩ ks) := ⟨own_fit hK, own_sl hK, hks⟩
  have HB0 := Lib.hid hB0
  have HK := Lib.hid k
  have HT := Lib.hid hT
  clear hB0 k kb hT hK
  cases tx with
  | true =>
    have HF : Hid (Vert.beginText ⟨toks, texts, regs, opn, true⟩ ks = .error 17) := by show _ = _; unfold Vert.beginText; rfl
    go_enter Tryd.func28, Tryd.ntmps28
    go_wp2
    go_ret
    rw [HF.out]
    exact Steps.err hBg HB0.out rfl
  | false =>
    by_cases hmany : nx = 64
    · have HF : Hid (Vert.beginText ⟨toks, texts, regs, opn, false⟩ ks = .error 2) := by show _ = _; unfold Vert.beginText; dsimp only; rw [if_neg (by simp), if_pos (by rw [hx]; exact hmany)]
      have hm2 : ((nx : Int) == 64) = true := by rw [beq_iff_eq]; omega
      go_enter Tryd.func28, Tryd.ntmps28
      go_wp2
      go_ret
      rw [HF.out]
      exact Steps.err hBg HB0.out rfl
    · have hm2 : ((nx : Int) == 64) = false := by rw [beq_eq_false_iff_ne]; omega
      have hx64 : texts.length ≠ 64 := by omega
      have hmv : nx ≤ 63 := by omega
      have hB1 : Hid (Below w.heap.size w ((w.alloc (.cells #[.bool cl, str nm, .slice KA Kn Kc] 68)).alloc (.cells #[str [], .int .i64 (nt : Nat), .int .i64 (-1), .slice none 0 0] 61))) := HB0.out.alloc HB0.out.size _
      have hX1 : Hid (Blk ((w.alloc (.cells #[.bool cl, str nm, .slice KA Kn Kc] 68)).alloc (.cells #[str [], .int .i64 (nt : Nat), .int .i64 (-1), .slice none 0 0] 61)) (w.heap.size + 1) 61 #[str [], .int .i64 (nt : Nat), .int .i64 (-1), .slice none 0 0]) := by
        have := Blk.new (w.alloc (.cells #[.bool cl, str nm, .slice KA Kn Kc] 68)) 61 #[str [], .int .i64 (nt : Nat), .int .i64 (-1), .slice none 0 0]
        rwa [World.size_alloc] at this
      have v2' : ∀ o, ((w.alloc (.cells #[.bool cl, str nm, .slice KA Kn Kc] 68)).alloc o).cell? ⟨w.heap.size, 2, none⟩ = some (Value.slice KA Kn Kc) := fun o => (HT.out.alloc o).cell 2
      go_enter Tryd.func28, Tryd.ntmps28
      go_wp2_with fail
      go_loopw [32, 6] (fun iv fv wr => ∃ (j : Nat) (fo : Bool) (tn : Bs) (MA : Option Addr) (Mn Mc : Nat), iv = .int .i64 j ∧ j ≤ Kn ∧ fv = .bool fo ∧ Hid (Found (ks.take j) fo tn) ∧ Blk wr (w.heap.size + 1) 61 #[str tn, .int .i64 (nt : Nat), .int .i64 (-1), .slice MA Mn Mc] ∧
          Hid (wr.ownsRow (w.heap.size + 2) 88 2 (.slice MA Mn Mc) Mn (((ks.take j).filter fun p => !isId p).flatMap prV)) ∧ Below w.heap.size w wr ∧ Hid (Len tn)) (fun iv _ _ => Kn - (intOf iv).toNat)
      case atStart => exact ⟨0, false, [], none, 0, 0, rfl, Nat.zero_le _, rfl, ⟨rfl, rfl⟩, hX1.out, World.ownsRow_nil _ _ _ _, hB1.out, Nat.zero_le _⟩
      case round =>
        obtain ⟨j, fo, tn, MA, Mn, Mc, rfl, hj, rfl, hfnd, hxb, hown, hb, hlt⟩ := hrel
        clear c8 c2 c1 v2 v2' hm2
        by_cases hjl : j < Kn
        · obtain ⟨gk, ok, hk', hKA, hg, hpl, p0, p1⟩ := (HKS.out.under hb).at_ (k := j) hjl
          dsimp only at hKA
          subst hKA
          obtain ⟨p, hp⟩ : ∃ p, ks[j] = p := ⟨_, rfl⟩
          rw [hp] at p0 p1 hpl
          have HTK : Hid (ks.take (j + 1) = ks.take j ++ [p]) := by
            show _ = _
            rw [List.take_succ_eq_append_getElem hk', hp]
          have HPL := Lib.hid hpl
          have hj0 : (0 : Int) ≤ (j : Int) := by omega
          have hj1 : (j : Int) < (Kn : Int) := by omega
          have hw3 : IntKind.i64.wrap ((j : Int) + 1) = ((j + 1 : Nat) : Int) := by rw [IntWalk.i64_in _ (by omega)]; omega
          have hxa := hxb.alloc (.cells #[str p.1, str p.2] 88)
          have bA := hb.alloc hb.size (.cells #[str p.1, str p.2] 88)
          have y0 : _ = some (str tn) := hxa.cell 0
          have y3 : _ = some (Value.slice MA Mn Mc) := hxa.cell 3
          have f0 := hxa.free 0
          have f3 := hxa.free 3
          clear hp hpl
          by_cases hid : p.1 = [105, 100]
          · have hI : Hid (isId p = true) := by show _ = _; unfold isId; rw [hid]; rfl
            have he : (p.1 == [105, 100]) = true := by rw [beq_iff_eq]; exact hid
            have HXA := Lib.hid hxa
            have HBA := Lib.hid bA
            clear hid hxb hxa bA hb
            go_wp2
            go_roundw
            case rel =>
              refine ⟨j + 1, true, p.2, MA, Mn, Mc, by go_num, by omega, rfl, ?_, HXA.out.set_ 0 _, ?_, HBA.out.setCell (p := ⟨w.heap.size + 1, 0, none⟩) (by show w.heap.size ≤ w.heap.size + 1; omega) _, HPL.out.2⟩
              · show Found _ _ _; rw [HTK.out]; exact found_id hI.out
              · show World.ownsRow _ _ _ _ _ _ _
                rw [HTK.out, meta_id hI.out]
                exact own_off (hown.out.alloc _) (Off.set_ HXA.out 0 _) (by decide)
            case measure => simp [intOf]; omega
          · have hI : Hid (isId p = false) := by show _ = _; unfold isId; rw [beq_eq_false_iff_ne]; exact hid
            have he : (p.1 == [105, 100]) = false := by rw [beq_eq_false_iff_ne]; exact hid
            have hMn : Mn ≤ ks.length := by have h1 := hown.out.1; rw [flat_pair] at h1; have h2 := meta_le ks j; omega
            have hoa : Hid (World.ownsRow ((wr.alloc (.cells #[str p.1, str p.2] 88)).alloc (.cells #[str p.1, str p.2] 88)) (w.heap.size + 2) 88 2 (.slice MA Mn Mc) Mn (((ks.take j).filter fun p => !isId p).flatMap prV)) := (hown.out.alloc _).alloc _
            have hxa2 : Hid (Blk ((wr.alloc (.cells #[str p.1, str p.2] 88)).alloc (.cells #[str p.1, str p.2] 88)) (w.heap.size + 1) 61 #[str tn, .int .i64 (nt : Nat), .int .i64 (-1), .slice MA Mn Mc]) := hxa.alloc _
            have hba2 : Hid (Below w.heap.size w ((wr.alloc (.cells #[str p.1, str p.2] 88)).alloc (.cells #[str p.1, str p.2] 88))) := bA.alloc bA.size _
            have hsz2 : w.heap.size + 2 ≤ wr.heap.size := by have := hxb.lt; omega
            clear hid hxb hxa bA hb hown
            go_wp2_with (at_builtin; refine wpList_append_own_at _ rfl (.tmp 43) (.tmp 45) _ rfl (w.heap.size + 2) 88 i0 _ 2 32 Tryd.underlying56 hi0 hz0 hz1 hz2 rfl (by decide) _ _ _ rfl hoa.out ⟨_, 0, none⟩ 1 1 [str p.1, str p.2] rfl rfl ?pa1 ?pa2 ?pa3 ?pa4 ?pa5 ?_)
            case pa1 => exact news_two (by simp)
            case pa2 => first | rfl | (intro u hu; simp at hu; rcases hu with rfl | rfl <;> rfl)
            case pa3 => simp [maxLen]; omega
            case pa4 => omega
            case pa5 => simp; omega
            intro v6 w6 own6 gr6 _ hob6
            obtain ⟨A6, c6, rfl, -, -⟩ := own_slc own6
            have X6 := hxa2.out.off (Off.grown hoa.out gr6) (by decide)
            have x3 : _ = some (Value.slice MA Mn Mc) := X6.cell 3
            have g3 := X6.free 3
            have HX6 := Lib.hid X6
            have HB6 : Hid (Below w.heap.size w w6) := hba2.out.grown gr6 (by simp; omega) (fun q hq => by have := (hoa.out.lt _ hq).1; omega)
            have HO6 := Lib.hid own6
            clear own6 gr6 hob6 hoa hxa2 hba2 X6 y0 y3 f0 f3 p0 p1
            go_wp2
            go_roundw
            case rel =>
              refine ⟨j + 1, fo, tn, A6, Mn + 1, c6, by go_num, by omega, rfl, ?_, HX6.out.set_ 3 _, ?_, HB6.out.setCell (p := ⟨w.heap.size + 1, 3, none⟩) (by show w.heap.size ≤ w.heap.size + 1; omega) _, hlt⟩
              · show Found _ _ _; rw [HTK.out]; exact found_no hI.out hfnd.out
              · show World.ownsRow _ _ _ _ _ _ _
                rw [HTK.out, meta_no hI.out, List.flatMap_append, List.flatMap_cons, List.flatMap_nil, List.append_nil]
                exact own_off HO6.out (Off.set_ HX6.out 3 _) (by decide)
            case measure => simp [intOf]; omega
        · obtain rfl : j = Kn := by omega
          have hfk := hfnd.out
          rw [List.take_of_length_le (by omega)] at hfk
          have HOW := hown.out
          rw [List.take_of_length_le (by omega)] at HOW
          have HOWN := Lib.hid HOW
          have y0 : wr.cell? ⟨w.heap.size + 1, 0, none⟩ = some (str tn) := hxb.cell 0
          clear hfnd hown HOW
          cases fo with
          | false =>
            have HF : Hid (Vert.beginText ⟨toks, texts, regs, opn, false⟩ ks = .error 11) := by
              show _ = _
              unfold Vert.beginText Found at *
              dsimp only
              rw [if_neg (by simp), if_neg hx64]
              cases hf : (ks.filter isId).getLast? with
              | none => rfl
              | some p => rw [hf] at hfk; cases hfk.1
            have HBB := Lib.hid hb
            clear hb hxb
            go_wp2
            go_ret
            rw [HF.out]
            exact Steps.err hBg HBB.out rfl
          | true =>
            have hp : ∃ p, (ks.filter isId).getLast? = some p ∧ tn = p.2 := by
              unfold Found at hfk
              cases hf : (ks.filter isId).getLast? with
              | none => rw [hf] at hfk; cases hfk.1
              | some p => rw [hf] at hfk; exact ⟨p, rfl, hfk.2⟩
            obtain ⟨p, hlast, htn⟩ := hp
            have HLS := Lib.hid hlast
            have HTN := Lib.hid htn
            have HVN := Lib.hid (validName_any tn hlt.out wr)
            have HBB := Lib.hid hb
            have HXB := Lib.hid hxb
            clear hb hxb hfk hlast htn
            by_cases hok : okName tn = true
            · have kr := HK.out.below HBB.out
              have HKD := Lib.hid kr.drew
              have hkx : Txts wr.drew wr.drew.heap.size ⟨Ax, nx, cx⟩ texts := HKD.out.x.reads
              have q0 : wr.cell? ⟨g, 0, none⟩ = some (Value.slice Aa na ca) := kr.blk.cell 0
              have q1 : wr.cell? ⟨g, 1, none⟩ = some (Value.slice At' nt ct) := kr.blk.cell 1
              have q2 : wr.cell? ⟨g, 2, none⟩ = some (Value.slice Ax nx cx) := kr.blk.cell 2
              have q3 : wr.cell? ⟨g, 3, none⟩ = some (Value.slice Ar nr cr) := kr.blk.cell 3
              have q4 : wr.cell? ⟨g, 4, none⟩ = some (Value.slice none 0 0) := kr.blk.cell 4
              have q5 : wr.cell? ⟨g, 5, none⟩ = some (Value.slice none 0 0) := kr.blk.cell 5
              have q6 : wr.cell? ⟨g, 6, none⟩ = some (Value.slice none 0 0) := kr.blk.cell 6
              have HFT := Lib.hid (findText_any ⟨⟨Aa, na, ca⟩, ⟨At', nt, ct⟩, ⟨Ax, nx, cx⟩, ⟨Ar, nr, cr⟩, ⟨none, 0, 0⟩, ⟨none, 0, 0⟩, ⟨none, 0, 0⟩⟩ texts tn wr.drew hkx)
              have HXD : Hid (Blk wr.drew (w.heap.size + 1) 61 #[str tn, .int .i64 (nt : Nat), .int .i64 (-1), .slice MA Mn Mc]) := HXB.out.off (R := 4294967295) (Off.drew _) (by decide)
              clear kr hkx
              go_wp2_with fail
              refine HVN.out.mono ?_
              rintro en wv ⟨rfl, rfl⟩
              rw [hok]
              clear HVN
              obtain ⟨ft, hft⟩ : ∃ x, findT texts tn = x := ⟨_, rfl⟩
              rw [hft] at HFT
              have HFD := Lib.hid hft
              clear hft
              by_cases hdup : 0 ≤ ft
              · have HF : Hid (Vert.beginText ⟨toks, texts, regs, opn, false⟩ ks = .error 5) := by
                  show _ = _
                  unfold Vert.beginText
                  dsimp only
                  rw [if_neg (by simp), if_neg hx64, HLS.out]
                  dsimp only
                  rw [← HTN.out, hok, if_neg (by simp), if_pos (by rw [HFD.out]; exact hdup)]
                go_wp2
                go_region_held3 (fun W => W.cell? ⟨g, 0, none⟩ = some (.slice Aa na ca) ∧ W.cell? ⟨g, 1, none⟩ = some (.slice At' nt ct) ∧ W.cell? ⟨g, 2, none⟩ = some (.slice Ax nx cx) ∧ W.cell? ⟨g, 3, none⟩ = some (.slice Ar nr cr) ∧ W.cell? ⟨g, 4, none⟩ = some (.slice none 0 0) ∧ W.cell? ⟨g, 5, none⟩ = some (.slice none 0 0) ∧ W.cell? ⟨g, 6, none⟩ = some (.slice none 0 0) ∧ W.cell? ⟨w.heap.size + 1, 0, none⟩ = some (str tn)) (first | go_keep | exact ⟨x0, x1, x2, x3, x4, x5, x6, x7⟩) (first | (go_at_call 34; refine HFT.out.mono ?_; rintro en w5 ⟨rfl, hb5⟩; have K5 := HKD.out.below hb5; have x0 := K5.blk.cell 0; have x1 := K5.blk.cell 1; have x2 := K5.blk.cell 2; have x3 := K5.blk.cell 3; have x4 := K5.blk.cell 4; have x5 := K5.blk.cell 5; have x6 := K5.blk.cell 6; have x7 := (HXD.out.below hb5).cell 0))
                go_wp2
                go_ret
                rw [HF.out]
                exact Steps.err hBg (HBB.out.drew.trans (hb5.mono HBB.out.size)) rfl
              · have HF : Hid (Vert.beginText ⟨toks, texts, regs, opn, false⟩ ks = .ok ⟨toks, texts ++ [⟨tn, (nt : Nat), -1, ks.filter fun p => !isId p⟩], regs, opn, true⟩) := by
                  show _ = _
                  unfold Vert.beginText
                  dsimp only
                  rw [if_neg (by simp), if_neg hx64, HLS.out]
                  dsimp only
                  rw [← HTN.out, hok, if_neg (by simp), if_neg (by rw [HFD.out]; exact hdup), ht]
                go_wp2
                go_region_held3 (fun W => W.cell? ⟨g, 0, none⟩ = some (.slice Aa na ca) ∧ W.cell? ⟨g, 1, none⟩ = some (.slice At' nt ct) ∧ W.cell? ⟨g, 2, none⟩ = some (.slice Ax nx cx) ∧ W.cell? ⟨g, 3, none⟩ = some (.slice Ar nr cr) ∧ W.cell? ⟨g, 4, none⟩ = some (.slice none 0 0) ∧ W.cell? ⟨g, 5, none⟩ = some (.slice none 0 0) ∧ W.cell? ⟨g, 6, none⟩ = some (.slice none 0 0) ∧ W.cell? ⟨w.heap.size + 1, 0, none⟩ = some (str tn)) (first | go_keep | exact ⟨x0, x1, x2, x3, x4, x5, x6, x7⟩) (first | (go_at_call 34; refine HFT.out.mono ?_; rintro en w5 ⟨rfl, hb5⟩; have K5 := HKD.out.below hb5; have x0 := K5.blk.cell 0; have x1 := K5.blk.cell 1; have x2 := K5.blk.cell 2; have x3 := K5.blk.cell 3; have x4 := K5.blk.cell 4; have x5 := K5.blk.cell 5; have x6 := K5.blk.cell 6; have x7 := (HXD.out.below hb5).cell 0))
                have HKA := Lib.hid K5
                have BXA : Hid (Blk w5 (w.heap.size + 1) 61 #[str tn, .int .i64 (nt : Nat), .int .i64 (-1), .slice MA Mn Mc]) := HXD.out.below hb5
                have BA : Hid (Below w.heap.size w w5) := HBB.out.drew.trans (hb5.mono HBB.out.size)
                have HMO : Hid (w5.ownsRow B 88 2 (.slice MA Mn Mc) Mn ((ks.filter fun p => !isId p).flatMap prV)) := own_base (own_below (own_off HOWN.out (Off.drew (R := 4294967295) _) (by decide)) hb5) (by omega)
                clear K5 hb5 x0 x1 x2 x3 x4 x5 x6 x7 q0 q1 q2 q3 q4 q5 q6 y0
                generalize w5 = wa at HKA BXA BA HMO ⊢
                go_wp2
                obtain ⟨Lx, hLx, OWNA, hWx⟩ := HKA.out.x
                have HXlt : Hid (∀ b, (Value.slice Ax nx cx).ownBlock = some b → b < w.heap.size) := fun b hb => by
                  obtain ⟨L', _, o', _⟩ := HK.out.x
                  exact (o'.lt b hb).2
                have hS20 := (⟨HKA.out.blk.cell 2, BXA.out.cell 0, BXA.out.cell 1, BXA.out.cell 2, BXA.out.cell 3⟩ : _ ∧ _ ∧ _ ∧ _ ∧ _)
                have HBA1 : Hid (Below wa.heap.size wa (wa.alloc (.cells #[str tn, .int .i64 (nt : Nat), .int .i64 (-1), .slice MA Mn Mc] 61))) := (Below.refl _ _).alloc (Nat.le_refl _) _
                have KA1 := Lib.hid ((HKA.out.below HBA1.out).drew)
                have BX1 := BXA.out.below HBA1.out
                have hS20a := (⟨KA1.out.blk.cell 2, BX1.cell 0, BX1.cell 1, BX1.cell 2, BX1.cell 3⟩ : _ ∧ _ ∧ _ ∧ _ ∧ _)
                clear BX1
                have OWNX : Hid ((wa.alloc (.cells #[str tn, .int .i64 (nt : Nat), .int .i64 (-1), .slice MA Mn Mc] 61)).drew.ownsRow B 61 4 (.slice Ax nx cx) nx (Lx.flatMap txV)) := own_off (own_below OWNA HBA1.out) (Off.drew (R := 4294967295) _) (by decide)
                have hsza : B ≤ wa.heap.size := Nat.le_trans hBg BA.out.size
                have hnt : nt ≤ 4096 := by omega
                have hszb : w.heap.size ≤ wa.heap.size := BA.out.size
                have HLx := Lib.hid hLx
                have HWx := Lib.hid hWx
                clear hLx hWx OWNA
                refine wp_region_m (fun W => W.cell? ⟨g, 2, none⟩ = some (.slice Ax nx cx) ∧ W.cell? ⟨w.heap.size + 1, 0, none⟩ = some (str tn) ∧ W.cell? ⟨w.heap.size + 1, 1, none⟩ = some (.int .i64 (nt : Nat)) ∧ W.cell? ⟨w.heap.size + 1, 2, none⟩ = some (.int .i64 (-1)) ∧ W.cell? ⟨w.heap.size + 1, 3, none⟩ = some (.slice MA Mn Mc)) 12 (by as_aux_lemma => kernel_rfl) (hS20) (fun hHeld => ?_)
                refine wpAnyM_take (i := 0) (v := ?_) rfl (by as_aux_lemma => kernel_rfl) (by as_aux_lemma => kernel_rfl) (by as_aux_lemma => kernel_rfl) (by as_aux_lemma => kernel_rfl) (fun _ _ _ h => h) (Or.inl ⟨by rfl, ?_⟩) (hHeld) ?_
                rotate_left
                · ((intro W hSw); (try dsimp only at hSw); go_simp; try (with_reducible rfl))
                simp only [List.getElem_toArray, List.getElem_cons_zero, List.getElem_cons_succ, Act.put, List.setIfInBounds_toArray, List.set_cons_zero, List.set_cons_succ]
                refine wpAnyM_take (i := 1) (v := ?_) rfl (by as_aux_lemma => kernel_rfl) (by as_aux_lemma => kernel_rfl) (by as_aux_lemma => kernel_rfl) (by as_aux_lemma => kernel_rfl) (fun _ _ _ h => h) (Or.inl ⟨by rfl, ?_⟩) (hHeld) ?_
                rotate_left
                · ((intro W hSw); (try dsimp only at hSw); go_simp; try (with_reducible rfl))
                simp only [List.getElem_toArray, List.getElem_cons_zero, List.getElem_cons_succ, Act.put, List.setIfInBounds_toArray, List.set_cons_zero, List.set_cons_succ]
                refine wpAnyM_take (i := 2) (v := ?_) rfl (by as_aux_lemma => kernel_rfl) (by as_aux_lemma => kernel_rfl) (by as_aux_lemma => kernel_rfl) (by as_aux_lemma => kernel_rfl) (fun _ _ _ h => h) (Or.inl ⟨by rfl, ?_⟩) (hHeld) ?_
                rotate_left
                · ((intro W hSw); (try dsimp only at hSw); go_simp; try (with_reducible rfl))
                simp only [List.getElem_toArray, List.getElem_cons_zero, List.getElem_cons_succ, Act.put, List.setIfInBounds_toArray, List.set_cons_zero, List.set_cons_succ]
                refine wpAnyM_take (i := 3) (v := ?_) rfl (by as_aux_lemma => kernel_rfl) (by as_aux_lemma => kernel_rfl) (by as_aux_lemma => kernel_rfl) (by as_aux_lemma => kernel_rfl) (fun _ _ _ h => h) (Or.inl ⟨by rfl, ?_⟩) (hHeld) ?_
                rotate_left
                · ((intro W hSw); (try dsimp only at hSw); go_simp; try (with_reducible rfl))
                simp only [List.getElem_toArray, List.getElem_cons_zero, List.getElem_cons_succ, Act.put, List.setIfInBounds_toArray, List.set_cons_zero, List.set_cons_succ]
                refine wpAnyM_take (i := 4) (v := ?_) rfl (by as_aux_lemma => kernel_rfl) (by as_aux_lemma => kernel_rfl) (by as_aux_lemma => kernel_rfl) (by as_aux_lemma => kernel_rfl) (fun _ _ _ h => h) (Or.inl ⟨by rfl, ?_⟩) (hHeld) ?_
                rotate_left
                · ((intro W hSw); (try dsimp only at hSw); go_simp; try (with_reducible rfl))
                simp only [List.getElem_toArray, List.getElem_cons_zero, List.getElem_cons_succ, Act.put, List.setIfInBounds_toArray, List.set_cons_zero, List.set_cons_succ]
                refine wpAnyM_take (i := 5) (v := ?_) rfl (by as_aux_lemma => kernel_rfl) (by as_aux_lemma => kernel_rfl) (by as_aux_lemma => kernel_rfl) (by as_aux_lemma => kernel_rfl) (fun _ _ _ h => h) (Or.inl ⟨by rfl, ?_⟩) (hHeld) ?_
                rotate_left
                · ((intro W hSw); (try dsimp only at hSw); go_simp; try (with_reducible rfl))
                simp only [List.getElem_toArray, List.getElem_cons_zero, List.getElem_cons_succ, Act.put, List.setIfInBounds_toArray, List.set_cons_zero, List.set_cons_succ]
                refine wpAnyM_take (i := 6) (v := ?_) rfl (by as_aux_lemma => kernel_rfl) (by as_aux_lemma => kernel_rfl) (by as_aux_lemma => kernel_rfl) (by as_aux_lemma => kernel_rfl) (fun _ _ _ h => h) (Or.inl ⟨by rfl, ?_⟩) (hHeld) ?_
                rotate_left
                · ((intro W hSw); (try dsimp only at hSw); go_simp; try (with_reducible rfl))
                simp only [List.getElem_toArray, List.getElem_cons_zero, List.getElem_cons_succ, Act.put, List.setIfInBounds_toArray, List.set_cons_zero, List.set_cons_succ]
                refine wpAnyM_one (i := 7) (by as_aux_lemma => kernel_rfl) rfl (fun K hK => ?_)
                go_simp
                refine hK.out _ _ (fun _ => hS20a) ?_
                clear hK K
                try simp only [List.getElem_toArray, List.getElem_cons_zero, List.getElem_cons_succ, Act.put, List.setIfInBounds_toArray, List.set_cons_zero, List.set_cons_succ]
                refine wpAnyM_one (i := 8) (by as_aux_lemma => kernel_rfl) rfl (fun K hK => ?_)
                refine step_app _ rfl (.tmp 71) (.tmp 73) _ rfl B 61 i1 _ 4 56 Tryd.underlying24 hi1 hy0 hy1 hy2 rfl (by decide) (.slice Ax nx cx) nx (Lx.flatMap txV) (by rfl) OWNX.out (some ⟨wa.heap.size, 0, none⟩) 1 1 (txV (⟨tn, (nt : Nat), -1, ks.filter fun p => !Vert.isId p⟩, ⟨MA, Mn, Mc⟩)) (by rfl) rfl (fun _ => ⟨_, rfl, news_four rfl⟩) (txV_one7 [_]) (by unfold maxLen; omega) (by omega) (by simp; omega) ?_
                intro v3 w3 own3 gr3 ob3
                obtain ⟨A3, c3', rfl, -, -⟩ := own_slc own3
                have B3 := (KA1.out.blk.off (Off.grown OWNX.out gr3) (by decide))
                have BX3 : Blk w3 (w.heap.size + 1) 61 #[str tn, .int .i64 (nt : Nat), .int .i64 (-1), .slice MA Mn Mc] := (gr3.block (w.heap.size + 1) (Nat.lt_of_lt_of_le BXA.out.lt (by simp)) (fun e => by have := HXlt.out _ e.symm; omega)).trans (BXA.out.below HBA1.out.drew)
                have S20_ := (⟨B3.cell 2, BX3.cell 0, BX3.cell 1, BX3.cell 2, BX3.cell 3⟩ : _ ∧ _ ∧ _ ∧ _ ∧ _)
                have f2 := B3.free 2
                clear B3 BX3
                refine hK.out _ _ (fun _ => S20_) ?_
                clear hK K
                try simp only [List.getElem_toArray, List.getElem_cons_zero, List.getElem_cons_succ, Act.put, List.setIfInBounds_toArray, List.set_cons_zero, List.set_cons_succ]
                refine wpAnyM_one (i := 9) (by as_aux_lemma => kernel_rfl) rfl (fun K hK => ?_)
                go_simp
                refine hK.out _ _ (fun _ => S20_) ?_
                clear hK K
                try simp only [List.getElem_toArray, List.getElem_cons_zero, List.getElem_cons_succ, Act.put, List.setIfInBounds_toArray, List.set_cons_zero, List.set_cons_succ]
                refine wpAnyM_one (i := 10) (by as_aux_lemma => kernel_rfl) rfl (fun K hK => ?_)
                go_simp
                refine hK.out _ _ (fun _ => S20_) ?_
                clear hK K
                try simp only [List.getElem_toArray, List.getElem_cons_zero, List.getElem_cons_succ, Act.put, List.setIfInBounds_toArray, List.set_cons_zero, List.set_cons_succ]
                refine wpAnyM_one (i := 11) (by as_aux_lemma => kernel_rfl) rfl (fun K hK => ?_)
                go_simp
                refine hK.out _ _ (fun _ => S20_) ?_
                clear hK K
                try simp only [List.getElem_toArray, List.getElem_cons_zero, List.getElem_cons_succ, Act.put, List.setIfInBounds_toArray, List.set_cons_zero, List.set_cons_succ]
                refine wpAnyM_one (i := 12) (by as_aux_lemma => kernel_rfl) rfl (fun K hK => ?_)
                go_simp
                refine hK.out _ _ (fun h => absurd rfl h) ?_
                clear hK K
                try simp only [List.getElem_toArray, List.getElem_cons_zero, List.getElem_cons_succ, Act.put, List.setIfInBounds_toArray, List.set_cons_zero, List.set_cons_succ]
                refine wpAnyM_done (by as_aux_lemma => kernel_rfl) (NoPanic.normal ?_) _

                have HY : OwnT (wa.alloc (.cells #[str tn, .int .i64 (nt : Nat), .int .i64 (-1), .slice MA Mn Mc] 61)).drew B (⟨tn, (nt : Nat), -1, ks.filter fun p => !isId p⟩, ⟨MA, Mn, Mc⟩) :=
                  ⟨hlt.out, ⟨by show _ ≤ ((nt : Nat) : Int); omega, by show ((nt : Nat) : Int) ≤ _; omega⟩, ⟨by show _ ≤ (-1 : Int); omega, by show (-1 : Int) ≤ _; omega⟩, own_off (own_below HMO.out HBA1.out) (Off.drew (R := 4294967295) _) (by decide), fun p hp => hks p (List.mem_filter.1 hp).1⟩
                have HOK : RdOk ⟨toks, texts ++ [⟨tn, (nt : Nat), -1, ks.filter fun p => !isId p⟩], regs, opn, true⟩ := by
                  have q := HKA.out.ok
                  exact ⟨q.t, by show (texts ++ [_]).length ≤ 64; rw [List.length_append, List.length_singleton]; omega, q.r, q.o, q.ks, fun _ => by simp⟩
                have HP := KA1.out.push_x (L := Lx) (y := (⟨tn, (nt : Nat), -1, ks.filter fun p => !isId p⟩, ⟨MA, Mn, Mc⟩)) HLx.out OWNX.out (fun z hz => ((HWx.out z hz).off (R := 4294967295) (Off.alloc wa _) (by decide)).off (R := 4294967295) (Off.drew _) (by decide)) HY own3 gr3 HOK
                have B5 : Hid (Below B w ((w3.setCell ⟨g, 2, none⟩ (.slice A3 (nx + 1) c3')).setCell ⟨g, 8, none⟩ (.bool true))) := ((((BA.out.mono hBg).trans (HBA1.out.drew.mono hsza)).grown gr3 (Nat.le_trans hsza (by simp)) (fun j hj => (OWNX.out.lt j hj).1)).setCell (p := ⟨g, 2, none⟩) HKA.out.bg _).setCell (p := ⟨g, 8, none⟩) HKA.out.bg _
                have KB3 := (KA1.out.blk.off (Off.grown OWNX.out gr3) (by decide)).set_ 2 (.slice A3 (nx + 1) c3')
                have e8 : _ = some (Value.bool false) := KB3.cell 8
                have HN : Hid (Only w ((w3.setCell ⟨g, 2, none⟩ (.slice A3 (nx + 1) c3')).setCell ⟨g, 8, none⟩ (.bool true))) := ((((Only.below BA.out).trans (Only.below HBA1.out.drew)).off (Off.grown OWNX.out gr3) (by decide)).off (Off.set_ (KA1.out.blk.off (Off.grown OWNX.out gr3) (by decide)) 2 _) (by decide)).off (Off.set_ KB3 8 _) (by decide)
                have f8 := KB3.free 8
                have HPP := Lib.hid HP
                clear HP KB3 own3 gr3 ob3 HY hS20 hS20a hHeld S20_ f2
                go_wp2
                go_ret
                rw [HF.out]
                exact ⟨B5.out, HN.out, rfl, _, HPP.out⟩
            · have hok2 : okName tn = false := by simpa using hok
              have HF : Hid (Vert.beginText ⟨toks, texts, regs, opn, false⟩ ks = .error 4) := by
                show _ = _
                unfold Vert.beginText
                dsimp only
                rw [if_neg (by simp), if_neg hx64, HLS.out]
                dsimp only
                rw [← HTN.out, if_pos hok2]
              go_wp2_with fail
              refine HVN.out.mono ?_
              rintro en wv ⟨rfl, rfl⟩
              rw [hok2]
              clear HVN
              go_wp2
              go_ret
              rw [HF.out]
              exact Steps.err hBg HBB.out rfl
end Go.Proofs.YtgkdaebiefhgdaaDoor
