/-
 Several texts of this seat, one behind the other: ShelfJ, WrMem, WrOpen, WrTok, FmtMem, VertFc. No conditions but those of each.
-/
import Derived.Shelf.Strings.OnBuilder
import Derived.Test.YtgkdaebiefhgdaaGreatDoorProg
import Derived.Test.YtgkdaebiefhgdaaGreatDoorJCorOwn
import Derived.Test.YtgkdaebiefhgdaaGreatDoorJMarkAll
import Derived.Lib.Join
import Derived.Test.YtgkdaebiefhgdaaGreatDoorJMarkRnd
import Derived.Test.YtgkdaebiefhgdaaGreatDoorJCorHold
import Derived.Test.YtgkdaebiefhgdaaGreatDoorJCorSrt
import Derived.RegionTactic
import Derived.BigRegion
import Derived.Deep.RegionLaw
import Derived.Test.YtgkdaebiefhgdaaGreatDoorJVertRb
import Derived.Test.YtgkdaebiefhgdaaGreatDoorJVertMm
import Derived.Test.YtgkdaebiefhgdaaGreatDoorJCorMem
namespace Go.Proofs
open Go.Shelf
def Tryz.lays156_ren : Go.Shelf.Ren := ⟨fun | 156 => 83 | 165 => 126 | 166 => 127 | 169 => 128 | 240 => 153 | 241 => 154 | 276 => 162 | 277 => 163 | n => n, fun | 31 => 28 | 9 => 9 | 3 => 3 | 4 => 4 | 0 => 0 | 20 => 20 | 72 => 170 | 76 => 173 | 70 => 168 | 37 => 79 | 75 => 172 | 127 => 188 | 164 => 193 | 5 => 5 | 80 => 155 | n => n, fun | n => n⟩
theorem Tryz.lays156 : Go.Proofs.Lays.n156 Tryz.prog Tryz.lays156_ren := {
 mixed := by kernel_rfl
 f156 := Tryz.func83.trans (congrArg some (by kernel_rfl))
 f165 := Tryz.func126.trans (congrArg some (by kernel_rfl))
 f166 := Tryz.func127.trans (congrArg some (by kernel_rfl))
 f169 := Tryz.func128.trans (congrArg some (by kernel_rfl))
 f240 := Tryz.func153.trans (congrArg some (by kernel_rfl))
 f241 := Tryz.func154.trans (congrArg some (by kernel_rfl))
 f276 := Tryz.func162.trans (congrArg some (by kernel_rfl))
 f277 := Tryz.func163.trans (congrArg some (by kernel_rfl))
 t0 := Tryz.underlying0
 a0 := Tryz.isAgg0
 z0 := Tryz.sizeOf0
 v0 := Tryz.zeroValue0
 t3 := Tryz.underlying3
 a3 := Tryz.isAgg3
 z3 := Tryz.sizeOf3
 v3 := Tryz.zeroValue3
 t4 := Tryz.underlying4
 a4 := Tryz.isAgg4
 z4 := Tryz.sizeOf4
 v4 := Tryz.zeroValue4
 t9 := Tryz.underlying9
 a9 := Tryz.isAgg9
 z9 := Tryz.sizeOf9
 v9 := Tryz.zeroValue9
 t20 := Tryz.underlying20
 a20 := Tryz.isAgg20
 z20 := Tryz.sizeOf20
 v20 := Tryz.zeroValue20
 t31 := Tryz.underlying28
 a31 := Tryz.isAgg28
 z31 := Tryz.sizeOf28
 v31 := Tryz.zeroValue28
 t37 := Tryz.underlying79
 a37 := Tryz.isAgg79
 z37 := Tryz.sizeOf79
 v37 := Tryz.zeroValue79
 t70 := Tryz.underlying168
 a70 := Tryz.isAgg168
 z70 := Tryz.sizeOf168
 v70 := Tryz.zeroValue168
 t72 := Tryz.underlying170
 a72 := Tryz.isAgg170
 z72 := Tryz.sizeOf170
 v72 := Tryz.zeroValue170
 t75 := Tryz.underlying172
 a75 := Tryz.isAgg172
 z75 := Tryz.sizeOf172
 v75 := Tryz.zeroValue172
 t76 := Tryz.underlying173
 a76 := Tryz.isAgg173
 z76 := Tryz.sizeOf173
 v76 := Tryz.zeroValue173
 t127 := Tryz.underlying188
 a127 := Tryz.isAgg188
 z127 := Tryz.sizeOf188
 v127 := Tryz.zeroValue188
 t164 := Tryz.underlying193
 a164 := Tryz.isAgg193
 z164 := Tryz.sizeOf193
 v164 := Tryz.zeroValue193 }
theorem Tryz.Builder_Extra_156 : Builder.Extra Tryz.prog Tryz.lays156_ren := {
 sizeBuilder := by kernel_rfl
 liesBuilder := by kernel_rfl
 t5 := Tryz.underlying5
 a5 := Tryz.isAgg5
 z5 := Tryz.sizeOf5
 v5 := Tryz.zeroValue5
 infoByte := by kernel_rfl
 cellsByte := by kernel_rfl
 sizeByte := by kernel_rfl
 neB5 := by decide }
open Go.RowKit in
theorem Tryz.strings_Join_none (a : Option Addr) (c : Nat) (sep : ByteArray) (w : World) :
  Calls Tryz.prog 83 #[.slice a 0 c, .string sep] w fun e w' => e = .returned (.string ⟨#[]⟩) ∧ w' = w := Any.strings_Join_none Tryz.lays156 Tryz.Builder_Extra_156 a c sep w
open Go.RowKit in
theorem Tryz.strings_Join (bk o c : Nat) (xs : List ByteArray) (sep : ByteArray) (w : World) (hcells : ∀ (j : Nat) x, xs[j]? = some x → w.cell? ⟨bk, o + j, none⟩ = some (.string x)) (hbk : bk < w.heap.size) (hN : xs.length ≤ 140737488355328) (hcap : xs.length ≤ c) (hlen : (Lib.join (xs.map (·.data.toList)) sep.data.toList).length ≤ 140737488355328) :
  Calls Tryz.prog 83 #[.slice (some ⟨bk, o, none⟩) xs.length c, .string sep] w fun e w' => e = .returned (.string ⟨(Lib.join (xs.map (·.data.toList)) sep.data.toList).toArray⟩) ∧ Below w.heap.size w w' := Any.strings_Join Tryz.lays156 Tryz.Builder_Extra_156 bk o c xs sep w hcells hbk hN hcap hlen
end Go.Proofs
namespace Go.Proofs.YtgkdaebiefhgdaaGreatDoor
set_option linter.unusedSimpArgs false
set_option linter.unusedVariables false
open Go.RowKit
open Feat (Bs)
theorem step_app_str {ops : Array Oper} {o : Oper} {a : Act} {w : World} {K : Act → World → Prop} {Q : Exit → Act → World → Prop} {E : Prop} (hgd : o.guard = none) (sl x : Operand)
  (ho : o.op = .call { callee := .builtin .append, args := #[sl, x], argTypes := #[79, 9] })
  (base : Nat) (v : Value) (n : Nat) (l : Bs) (hv : a.eval sl = v) (hown : w.ownsRow base 5 1 v n (bys l)) (s : Bs) (hx : a.eval x = str s)
  (hbytes : n + s.length ≤ 140737488355328 - 4096) (hbase : base ≤ w.heap.size)
  (h : ∀ v' w', w'.ownsRow base 5 1 v' (n + s.length) (bys (l ++ s)) → w.grownBy w' v.ownBlock → K (a.put o.dst v') w') :
  if Region.wanted o (yielded ops a.tmps) = true then Oper.wp Tryz.prog o a w K Q else E := by
 obtain ⟨i0, hi0, hz0, hz1, hz2⟩ := info_parts info_u8
 have hsz : (ByteArray.mk s.toArray).size = s.length := by show s.toArray.size = _; simp
 have hw : Region.wanted o (yielded ops a.tmps) = true := by simp [Region.wanted, hgd]
 rw [if_pos hw]
 obtain ⟨v', w', hrun, h2, h3, _⟩ := Lib.run_append_own_string (P := Tryz.prog) w base 79 9 o.type 5 i0 Tryz.underlying79 Tryz.underlying9 hi0 hz0 hz1 hz2 v n (bys l) hown ⟨s.toArray⟩ (by rw [hsz]; simp [maxLen]; omega) (by rw [hsz]; omega) hbase
 rw [hsz, strCells_bys, ← bys_append] at h2
 unfold Oper.wp execOp
 simp only [ho, resolve, invoke, builtin, Sem.run_bind, Sem.run_pure, Result.andThen_ok, List.map_toArray, List.map_cons, List.map_nil, hv, hx, hrun]
 exact h v' w' h2 h3
def Dry (w w1 : World) : Prop := ∀ (k : Nat) (cs : Array Value) (t : TypeId), t ≠ 81 → t ≠ 5 → w.heap[k]? = some (Obj.cells cs t (0, 0)) → w1.heap[k]? = w.heap[k]?
theorem Dry.refl (w : World) : Dry w w := fun _ _ _ _ _ _ => rfl
theorem Dry.below {w w1 : World} (h : Below w.heap.size w w1) : Dry w w1 := fun k _ _ _ _ hk => h.block k (Array.getElem?_eq_some_iff.1 hk).1
theorem Dry.trans {a b c : World} (h : Dry a b) (k : Dry b c) : Dry a c := fun i cs t h1 h2 hi => by
 have q := h i cs t h1 h2 hi
 exact (k i cs t h1 h2 (q.trans hi)).trans q
theorem Dry.off {R : TypeId} {a b c : World} (h : Dry a b) (f : Off R b c) (n : R = 81 ∨ R = 5) : Dry a c := h.trans fun i cs t h1 h2 hi => f.keep i cs t hi (by rcases n with rfl | rfl <;> assumption)
theorem Dry.blk {w w1 : World} (h : Dry w w1) {g : Nat} {t : TypeId} {cs : Array Value} (k : Blk w g t cs) (h1 : t ≠ 81) (h2 : t ≠ 5) : Blk w1 g t cs := (h g cs t h1 h2 k).trans k
theorem Dry.own {w w1 : World} (h : Dry w w1) {b s n : Nat} {e : TypeId} {v : Value} {xs : List Value} (k : w.ownsRow b e s v n xs) (h1 : e ≠ 81) (h2 : e ≠ 5) : w1.ownsRow b e s v n xs := by
 refine ⟨k.1, ?_⟩
 rcases k.2 with hn | ⟨g, cap, cur, rfl, hb, hgg, rest⟩
 ·exact .inl hn
 ·exact .inr ⟨g, cap, cur, rfl, hb, (h g _ _ h1 h2 hgg).trans hgg, rest⟩
def OwnB (w : World) (B g : Nat) (L : Bs) : Prop := ∃ (A : Option Addr) (c : Nat), Blk w g 81 #[.slice A L.length c] ∧ w.ownsRow B 5 1 (.slice A L.length c) L.length (bys L) ∧ B ≤ g
theorem OwnB.off {R : TypeId} {w w1 : World} {B g : Nat} {L : Bs} (h : OwnB w B g L) (f : Off R w w1) (n1 : 81 ≠ R) (n2 : 5 ≠ R) : OwnB w1 B g L := by
 obtain ⟨A, c, h1, h2, h3⟩ := h
 exact ⟨A, c, h1.off f n1, own_off h2 f n2, h3⟩
theorem OwnB.below {w w1 : World} {B g : Nat} {L : Bs} (h : OwnB w B g L) (hb : Below w.heap.size w w1) : OwnB w1 B g L := h.off (R := 4294967295) (Off.below hb) (by decide) (by decide)
def Wrote (B g : Nat) (w : World) (L : Bs) (e : Ending) (w' : World) : Prop := e = .returned (.tuple #[]) ∧ Below B w w' ∧ Dry w w' ∧ OwnB w' B g L
theorem strs_map (l : List Bs) : strs l = (l.map fun s => ByteArray.mk s.toArray).map Value.string := by
 unfold strs; rw [List.map_map]; rfl
theorem datas (l : List Bs) : (l.map fun s => ByteArray.mk s.toArray).map (·.data.toList) = l := by
 rw [List.map_map]
 conv => rhs; rw [← List.map_id l]
 exact List.map_congr_left fun s _ => by simp
theorem join_any (l : List Bs) (A : Option Addr) (c : Nat) (w : World) (hs : Sl w w.heap.size 1 A l.length (strs l)) (hc : l.length ≤ c) (hN : l.length ≤ 1099511627776) (hlen : ([9].intercalate l).length ≤ 140737488355328) :
  Calls Tryz.prog 83 #[.slice A l.length c, .string ⟨#[9]⟩] w fun e w' => e = .returned (str ([9].intercalate l)) ∧ Below w.heap.size w w' := by
 rcases Nat.eq_zero_or_pos l.length with h0 | h0
 ·have hl : l = [] := List.eq_nil_of_length_eq_zero h0
  subst hl
  refine (Tryz.strings_Join_none A c ⟨#[9]⟩ w).mono ?_
  rintro e w' ⟨rfl, rfl⟩
  exact ⟨rfl, Below.refl _ _⟩
 ·obtain ⟨bk, o, rfl, hlt, hcell⟩ := hs.2 (by simpa [strs] using h0)
  have hx : (l.map fun s => ByteArray.mk s.toArray).length = l.length := by rw [List.length_map]
  have hj := Tryz.strings_Join bk o c (l.map fun s => ByteArray.mk s.toArray) ⟨#[9]⟩ w (fun j x hjx => hcell j _ (by rw [strs_map, List.getElem?_map, hjx]; rfl)) hlt (by rw [hx]; omega) (by rw [hx]; exact hc) (by rw [datas]; exact hlen)
  rw [hx, datas] at hj
  refine hj.mono ?_
  rintro e w' ⟨rfl, hb⟩
  exact ⟨rfl, hb⟩
end Go.Proofs.YtgkdaebiefhgdaaGreatDoor
namespace Go.Proofs.YtgkdaebiefhgdaaGreatDoor
set_option linter.unusedSimpArgs false
set_option linter.unusedVariables false
open Go.RowKit
open Feat (Bs)
open Tagp (KV fmtT esc)
attribute [local go_sem] byte_mk ByteArray.extract_mk
theorem wrote_push {w w1 : World} {B g : Nat} {L M : Bs} {A : Option Addr} {c : Nat} (hb : Blk w g 81 #[.slice A L.length c]) (hBg : B ≤ g) (ho : w.ownsRow B 5 1 (.slice A L.length c) L.length (bys L))
  {A' : Option Addr} {n' c' : Nat} (own' : w1.ownsRow B 5 1 (.slice A' n' c') n' (bys M)) (hn : n' = M.length) (f : Off 5 w w1) :
  OwnB (w1.setCell ⟨g, 0, none⟩ (.slice A' n' c')) B g M := by
 subst hn
 have b1 := hb.off f (by decide)
 exact ⟨A', c', b1.set_ 0 _, own_off own' (Off.set_ b1 0 _) (by decide), hBg⟩
set_option maxRecDepth 100000 in
set_option maxHeartbeats 4000000 in
theorem open_any (B g : Nat) (nm : Bs) (A : Option Addr) (n c : Nat) (ks : List KV) (L : Bs) (w : World) (k : OwnB w B g L) (hk : Keys w w.heap.size ⟨A, n, c⟩ ks) (hnm : Len nm) (hsz : L.length + (fmtT false nm ks).1.length ≤ 1099511627776) :
  Calls Tryz.prog 36 #[.pointer (some ⟨g, 0, none⟩), str nm, .slice A n c] w (Wrote B g w (L ++ (fmtT false nm ks).1 ++ [10])) := by
 obtain ⟨A1, c1, hb, ho, hBg⟩ := k
 obtain ⟨i0, hi0, hz0, hz1, hz2⟩ := info_parts info_u8
 have hB : B ≤ w.heap.size := Nat.le_trans hBg (Nat.le_of_lt hb.lt)
 have HF := Lib.hid (formatTag_any false nm A n c ks w hk.1.2 hk.1.1 hnm (fun j hj => hk.2.2 _ (List.getElem_mem hj)) hk.2.1)
 unfold Texted at HF
 generalize fmtT false nm ks = T at HF hsz ⊢
 obtain ⟨T, e⟩ := T
 dsimp only at HF hsz ⊢
 have HB := Lib.hid hb
 have HO := Lib.hid ho
 clear hb ho hk
 go_enter Tryz.func36, Tryz.ntmps36
 go_wp2_with fail
 refine HF.out.mono ?_
 rintro en w2 ⟨rfl, hb2⟩
 have b2 := HB.out.below hb2
 have o2 := own_below HO.out hb2
 have q0 : _ = some (Value.slice A1 L.length c1) := b2.cell 0
 have B2 : Below B w w2 := hb2.mono hB
 have hs2 : B ≤ w2.heap.size := Nat.le_trans hB hb2.size
 have HB2 := Lib.hid b2
 have hlt2 := o2.lt
 clear b2 HF
 go_wp2_with (first
  | (at_builtin; refine wpList_app_str rfl (.tmp 19) (.tmp 20) rfl B _ _ _ rfl o2 T rfl (by omega) hs2 ?_; intro v3 w3 own3 gr3; obtain ⟨A3, c3, rfl, -, -⟩ := own_slc own3; have B3 : Below B w w3 := B2.grown gr3 hs2 (fun j hj => (hlt2 j hj).1); have f3 := Off.grown o2 gr3; have b3 := HB2.out.off f3 (by decide); have hs3 : B ≤ w3.heap.size := Nat.le_trans hs2 gr3.size; have oa3 := own3.alloc (.cells #[.int .u8 10] 5); have ba3 := B3.alloc hs3 (.cells #[.int .u8 10] 5); have hlt3 := oa3.lt)
  | (at_builtin; refine wpList_append_own_at _ rfl (.tmp 21) (.tmp 22) _ rfl B 5 i0 _ 1 1 Tryz.underlying79 hi0 hz0 hz1 hz2 rfl (by decide) _ _ _ rfl oa3 ⟨w3.heap.size, 0, none⟩ 1 1 [.int .u8 10] rfl rfl (news_new _ _ [_]) (by intro u hu; simp at hu; subst hu; rfl) (by simp [maxLen]; omega) (by omega) (Nat.le_trans hB ba3.size) ?_; intro v5 w5 own5 gr5 _ _; obtain ⟨A5, c5, rfl, -, -⟩ := own_slc own5; have B5 : Below B w w5 := ba3.grown gr5 (Nat.le_trans hB ba3.size) (fun j hj => (hlt3 j hj).1); have f5 := (f3.trans (Off.alloc _ (.cells #[.int .u8 10] 5))).trans (Off.grown oa3 gr5); have b5 := HB2.out.off f5 (by decide); have q5 : _ = some (Value.slice A1 L.length c1) := b5.cell 0; have z5 := b5.free 0))
 have e5 : bys (L ++ T) ++ [Value.int .u8 10] = bys (L ++ T ++ [10]) := by simp [bys]
 rw [e5] at own5
 go_end0
 refine ⟨rfl, B5.setCell (p := ⟨g, 0, none⟩) hBg _, ((Dry.below hb2).off f5 (.inr rfl)).off (Off.set_ b5 0 _) (.inl rfl), ?_⟩
 exact wrote_push HB2.out hBg o2 own5 (by simp [Nat.add_assoc]) f5
def closeT (x : Cor.Reg) : Bs := [60, 47] ++ x.nm ++ [62, 10]
def closeL (regs : List Cor.Reg) (l : List Nat) : Bs := l.reverse.flatMap fun k => match regs[k]? with | some x => closeT x | none => []
theorem closeL_step {regs : List Cor.Reg} {l : List Nat} {j : Nat} {x : Cor.Reg} (hj : j < l.length) (hx : regs[l[j]]? = some x) : closeL regs (l.drop j) = closeL regs (l.drop (j + 1)) ++ closeT x := by
 unfold closeL
 rw [List.drop_eq_getElem_cons hj, List.reverse_cons, List.flatMap_append, List.flatMap_cons, List.flatMap_nil, List.append_nil, hx]
theorem closeL_len {regs : List Cor.Reg} {l : List Nat} (j : Nat) : (closeL regs (l.drop j)).length ≤ (closeL regs l).length := by
 unfold closeL
 have h := List.take_append_drop j l
 conv => rhs; rw [← h]
 rw [List.reverse_append, List.flatMap_append, List.length_append]
 omega
def nints (l : List Nat) : List Value := l.map fun k => Value.int .i64 (k : Nat)
theorem own_cellI {w : World} {B n c j : Nat} {g : Nat} {l : List Nat} (h : w.ownsRow B 3 1 (.slice (some ⟨g, 0, none⟩) n c) n (nints l)) (hj : j < l.length) : w.cell? ⟨g, j, none⟩ = some (.int .i64 (l[j] : Nat)) := by
 obtain ⟨g', o', e, _, hc⟩ := (own_sl h).2 (by simp [nints]; omega)
 cases e
 have := hc j _ (show (nints l)[j]? = some (Value.int .i64 (l[j] : Nat)) by simp [nints, hj])
 rwa [Nat.zero_add] at this
theorem own_fromI {w : World} {B n c : Nat} {A : Option Addr} {l : List Nat} (h : w.ownsRow B 3 1 (.slice A n c) n (nints l)) (hn : 0 < n) : ∃ g, A = some ⟨g, 0, none⟩ := by
 rcases h.2 with ⟨hv, h0⟩ | ⟨g', cap, cur, hv, _⟩
 ·cases hv; omega
 ·cases hv; exact ⟨g', rfl⟩
set_option maxRecDepth 100000 in
set_option maxHeartbeats 8000000 in
theorem closeAll_any (B g : Nat) (H : CH) (regs : List Cor.Reg) (A : Option Addr) (n c : Nat) (l : List Nat) (L : Bs) (w : World) (k : OwnB w B g L) (hr : Txts w B H.r regs) (hl : w.ownsRow B 3 1 (.slice A n c) n (nints l)) (hin : ∀ q ∈ l, q < regs.length)
  (hsz : L.length + (closeL regs l).length ≤ 1099511627776) (hn : n ≤ 1048576) :
  Calls Tryz.prog 37 #[.pointer (some ⟨g, 0, none⟩), H.v, .slice A n c] w (Wrote B g w (L ++ closeL regs l)) := by
 obtain ⟨Ha, Ht, Hx, ⟨RA, rn, rc⟩, Hn, Hh, Hl⟩ := H
 show Calls Tryz.prog 37 #[.pointer (some ⟨g, 0, none⟩), .agg #[Ha.v, Ht.v, Hx.v, .slice RA rn rc, Hn.v, Hh.v, Hl.v], .slice A n c] w _
 have hB : B ≤ w.heap.size := by obtain ⟨A1, c1, hb, ho, hBg⟩ := k; exact Nat.le_trans hBg (Nat.le_of_lt hb.lt)
 have hln : l.length = n := by have := hl.1; simpa [nints] using this
 have hrl : regs.length = rn := hr.len
 have hb1 := (Below.refl w.heap.size w).alloc (Nat.le_refl _) (.cells #[Ha.v, Ht.v, Hx.v, .slice RA rn rc, Hn.v, Hh.v, Hl.v] 30)
 have HX1 : Hid (Blk (w.alloc (.cells #[Ha.v, Ht.v, Hx.v, .slice RA rn rc, Hn.v, Hh.v, Hl.v] 30)) w.heap.size 30 #[Ha.v, Ht.v, Hx.v, .slice RA rn rc, Hn.v, Hh.v, Hl.v]) := Blk.new w _ _
 have HK1 := Lib.hid (k.below hb1)
 have HL1 := Lib.hid (own_below hl hb1)
 have HB1 := Lib.hid hb1
 have hw0 : IntKind.i64.wrap ((n : Int) - 1) = (n : Int) - 1 := IntWalk.i64_in _ (by omega)
 clear k hl hb1
 go_enter Tryz.func37, Tryz.ntmps37
 go_wp2_with fail
 go_loopw [6] (fun iv wr => ∃ j : Nat, iv = .int .i64 ((j : Int) - 1) ∧ j ≤ n ∧ OwnB wr B g (L ++ closeL regs (l.drop j)) ∧ Dry w wr ∧ Below B w wr ∧ Blk wr w.heap.size 30 #[Ha.v, Ht.v, Hx.v, .slice RA rn rc, Hn.v, Hh.v, Hl.v] ∧ Hid (wr.ownsRow B 3 1 (.slice A n c) n (nints l))) (fun iv _ => (intOf iv + 1).toNat)
 case atStart => exact ⟨n, rfl, Nat.le_refl _, by rw [List.drop_eq_nil_of_le (by omega)]; simpa [closeL] using HK1.out, Dry.below HB1.out, HB1.out.mono hB, HX1.out, HL1.out⟩
 case round =>
  obtain ⟨j, rfl, hj, hO, hD, hbB, hX, HLL⟩ := hrel
  rcases Nat.eq_zero_or_pos j with h0 | h0
  ·subst h0
   have e0 : ((0 : Nat) : Int) - 1 = -1 := rfl
   rw [e0]
   rw [List.drop_zero] at hO
   have HW : Hid (Wrote B g w (L ++ closeL regs l) (.returned (.tuple #[])) wr) := ⟨rfl, hbB, hD, hO⟩
   clear hO hD hbB hX
   go_wp2
   go_end0
   exact HW.out
  ·obtain ⟨j, rfl⟩ : ∃ q, j = q + 1 := ⟨j - 1, by omega⟩
   have e0 : ((j + 1 : Nat) : Int) - 1 = (j : Int) := by omega
   have hj2 : j < l.length := by omega
   obtain ⟨gl, rfl⟩ := own_fromI HLL.out (by omega)
   obtain ⟨q, hq⟩ : ∃ q, l[j] = q := ⟨_, rfl⟩
   have hqr : q < regs.length := by rw [← hq]; exact hin _ (List.getElem_mem hj2)
   obtain ⟨gr, orr, H2, hk2, hRA, hgr, -, r0', -, -, -⟩ := (hr.under hbB).at_ (k := q) (by show q < rn; omega)
   dsimp only at hRA
   subst hRA
   obtain ⟨x, hx⟩ : ∃ x, regs[q] = x := ⟨_, rfl⟩
   rw [hx] at r0'
   have r0 : wr.drew.cell? ⟨gr, orr + q * 4, none⟩ = some (str x.nm) := r0'
   have HST : Hid (closeL regs (l.drop j) = closeL regs (l.drop (j + 1)) ++ closeT x) := closeL_step hj2 (by rw [hq, List.getElem?_eq_getElem hqr, hx])
   have HQ := Lib.hid hq
   have hxl := closeL_len (regs := regs) (l := l) j
   rw [HST.out] at hxl
   have HSZ : Hid ((L ++ closeL regs (l.drop (j + 1))).length + (2 + x.nm.length + 2) ≤ 1099511627776) := by
    show _ ≤ _
    unfold closeT at hxl
    simp only [List.length_append, List.length_cons, List.length_nil] at hxl ⊢
    omega
   generalize hM : L ++ closeL regs (l.drop (j + 1)) = M at hO HSZ
   obtain ⟨A1, c1, hb, ho, hBg⟩ := hO
   have HBW : Hid (Blk wr.drew g 81 #[.slice A1 M.length c1]) := hb.off (R := 4294967295) (Off.drew _) (by decide)
   have HBX : Hid (Blk wr.drew w.heap.size 30 #[Ha.v, Ht.v, Hx.v, .slice (some ⟨gr, orr, none⟩) rn rc, Hn.v, Hh.v, Hl.v]) := hX.off (R := 4294967295) (Off.drew _) (by decide)
   have OWN : Hid (wr.drew.ownsRow B 5 1 (.slice A1 M.length c1) M.length (bys M)) := own_off ho (Off.drew (R := 4294967295) _) (by decide)
   have hloz : wr.drew.ownsRow B 3 1 (.slice (some ⟨gl, 0, none⟩) n c) n (nints l) := own_off HLL.out (Off.drew (R := 4294967295) _) (by decide)
   have HLO := Lib.hid hloz
   have hsB : B ≤ wr.drew.heap.size := Nat.le_trans hB hbB.size
   have hS4 := (⟨HBW.out.cell 0, HBX.out.cell 3, (own_cellI hloz hj2).trans (by rw [hq]), r0⟩ : _ ∧ _ ∧ _ ∧ _)
   have HM := Lib.hid hM
   have HD := Lib.hid hD
   have HbB := Lib.hid hbB
   have HBLK := Lib.hid hb
   have hj0 : (0 : Int) ≤ (j : Int) := by omega
   have hj1 : (j : Int) < (n : Int) := by omega
   have hq0 : (0 : Int) ≤ (q : Int) := by omega
   have hq1 : (q : Int) < (rn : Int) := by omega
   obtain ⟨P, hP⟩ : ∃ P, [60, 47] ++ x.nm = P := ⟨_, rfl⟩
   obtain ⟨R, hR⟩ : ∃ R, P ++ [62, 10] = R := ⟨_, rfl⟩
   have hPl : P.length = 2 + x.nm.length := by rw [← hP]; simp; omega
   have hRl : R.length = 2 + x.nm.length + 2 := by rw [← hR]; simp; omega
   have ha1 : ∀ W, (Op.stringOp .add ⟨#[60, 47]⟩ ⟨x.nm.toArray⟩).run Tryz.prog W = .ok (str P) W := fun W => by rw [← hP]; exact add_str W [60, 47] x.nm (by have := HSZ.out; simp; omega)
   have ha2 : ∀ W, (Op.stringOp .add ⟨P.toArray⟩ ⟨#[62, 10]⟩).run Tryz.prog W = .ok (str R) W := fun W => by rw [← hR]; exact add_str W P [62, 10] (by have := HSZ.out; simp; omega)
   have HCT : Hid (closeT x = R) := by show _ = _; rw [← hR, ← hP]; rfl
   have HRl := Lib.hid hRl
   have hw3 : IntKind.i64.wrap ((j : Int) - 1) = (j : Int) - 1 := IntWalk.i64_in _ (by omega)
   rw [e0]
   clear hb ho hX hM hD hbB hq hx r0' hloz hxl HK1 HL1 HX1 hP hR hPl hRl
   go_wp2
   refine wp_region_m (fun W => W.cell? ⟨g, 0, none⟩ = some (.slice A1 M.length c1) ∧ W.cell? ⟨w.heap.size, 3, none⟩ = some (.slice (some ⟨gr, orr, none⟩) rn rc) ∧ W.cell? ⟨gl, j, none⟩ = some (.int .i64 (q : Nat)) ∧ W.cell? ⟨gr, orr + q * 4, none⟩ = some (str x.nm)) 19 (by as_aux_lemma => kernel_rfl) (hS4) (fun hHeld => ?_)
   refine wpAnyM_take (i := 0) (v := ?_) rfl (by as_aux_lemma => kernel_rfl) (by as_aux_lemma => kernel_rfl) (by as_aux_lemma => kernel_rfl) (by as_aux_lemma => kernel_rfl) (fun _ _ _ h => h) (Or.inl ⟨by rfl, ?_⟩) (hHeld) ?_
   rotate_left
   ·((intro W hSw); (try dsimp only at hSw); go_simp; try (with_reducible rfl))
   simp only [List.getElem_toArray, List.getElem_cons_zero, List.getElem_cons_succ, Act.put, List.setIfInBounds_toArray, List.set_cons_zero, List.set_cons_succ]
   refine wpAnyM_take (i := 1) (v := ?_) rfl (by as_aux_lemma => kernel_rfl) (by as_aux_lemma => kernel_rfl) (by as_aux_lemma => kernel_rfl) (by as_aux_lemma => kernel_rfl) (fun _ _ _ h => h) (Or.inl ⟨by rfl, ?_⟩) (hHeld) ?_
   rotate_left
   ·((intro W hSw); (try dsimp only at hSw); go_simp; try (with_reducible rfl))
   simp only [List.getElem_toArray, List.getElem_cons_zero, List.getElem_cons_succ, Act.put, List.setIfInBounds_toArray, List.set_cons_zero, List.set_cons_succ]
   refine wpAnyM_take (i := 2) (v := ?_) rfl (by as_aux_lemma => kernel_rfl) (by as_aux_lemma => kernel_rfl) (by as_aux_lemma => kernel_rfl) (by as_aux_lemma => kernel_rfl) (fun _ _ _ h => h) (Or.inl ⟨by rfl, ?_⟩) (hHeld) ?_
   rotate_left
   ·((intro W hSw); (try dsimp only at hSw); go_simp; try (with_reducible rfl))
   simp only [List.getElem_toArray, List.getElem_cons_zero, List.getElem_cons_succ, Act.put, List.setIfInBounds_toArray, List.set_cons_zero, List.set_cons_succ]
   refine wpAnyM_take (i := 3) (v := ?_) rfl (by as_aux_lemma => kernel_rfl) (by as_aux_lemma => kernel_rfl) (by as_aux_lemma => kernel_rfl) (by as_aux_lemma => kernel_rfl) (fun _ _ _ h => h) (Or.inl ⟨by rfl, ?_⟩) (hHeld) ?_
   rotate_left
   ·((intro W hSw); (try dsimp only at hSw); go_simp; try (with_reducible rfl))
   simp only [List.getElem_toArray, List.getElem_cons_zero, List.getElem_cons_succ, Act.put, List.setIfInBounds_toArray, List.set_cons_zero, List.set_cons_succ]
   refine wpAnyM_take (i := 4) (v := ?_) rfl (by as_aux_lemma => kernel_rfl) (by as_aux_lemma => kernel_rfl) (by as_aux_lemma => kernel_rfl) (by as_aux_lemma => kernel_rfl) (fun _ _ _ h => h) (Or.inl ⟨by rfl, ?_⟩) (hHeld) ?_
   rotate_left
   ·((intro W hSw); (try dsimp only at hSw); go_simp; try (with_reducible rfl))
   simp only [List.getElem_toArray, List.getElem_cons_zero, List.getElem_cons_succ, Act.put, List.setIfInBounds_toArray, List.set_cons_zero, List.set_cons_succ]
   refine wpAnyM_take (i := 5) (v := ?_) rfl (by as_aux_lemma => kernel_rfl) (by as_aux_lemma => kernel_rfl) (by as_aux_lemma => kernel_rfl) (by as_aux_lemma => kernel_rfl) (fun _ _ _ h => h) (Or.inl ⟨by rfl, ?_⟩) (hHeld) ?_
   rotate_left
   ·((intro W hSw); (try dsimp only at hSw); go_simp; try (with_reducible rfl))
   simp only [List.getElem_toArray, List.getElem_cons_zero, List.getElem_cons_succ, Act.put, List.setIfInBounds_toArray, List.set_cons_zero, List.set_cons_succ]
   refine wpAnyM_take (i := 6) (v := ?_) rfl (by as_aux_lemma => kernel_rfl) (by as_aux_lemma => kernel_rfl) (by as_aux_lemma => kernel_rfl) (by as_aux_lemma => kernel_rfl) (fun _ _ _ h => h) (Or.inl ⟨by rfl, ?_⟩) (hHeld) ?_
   rotate_left
   ·((intro W hSw); (try dsimp only at hSw); go_simp; try (with_reducible rfl))
   simp only [List.getElem_toArray, List.getElem_cons_zero, List.getElem_cons_succ, Act.put, List.setIfInBounds_toArray, List.set_cons_zero, List.set_cons_succ]
   refine wpAnyM_take (i := 7) (v := ?_) rfl (by as_aux_lemma => kernel_rfl) (by as_aux_lemma => kernel_rfl) (by as_aux_lemma => kernel_rfl) (by as_aux_lemma => kernel_rfl) (fun _ _ _ h => h) (Or.inl ⟨by rfl, ?_⟩) (hHeld) ?_
   rotate_left
   ·((intro W hSw); (try dsimp only at hSw); go_simp; try (with_reducible rfl))
   simp only [List.getElem_toArray, List.getElem_cons_zero, List.getElem_cons_succ, Act.put, List.setIfInBounds_toArray, List.set_cons_zero, List.set_cons_succ]
   refine wpAnyM_take (i := 8) (v := ?_) rfl (by as_aux_lemma => kernel_rfl) (by as_aux_lemma => kernel_rfl) (by as_aux_lemma => kernel_rfl) (by as_aux_lemma => kernel_rfl) (fun _ _ _ h => h) (Or.inl ⟨by rfl, ?_⟩) (hHeld) ?_
   rotate_left
   ·((intro W hSw); (try dsimp only at hSw); go_simp; try (with_reducible rfl))
   simp only [List.getElem_toArray, List.getElem_cons_zero, List.getElem_cons_succ, Act.put, List.setIfInBounds_toArray, List.set_cons_zero, List.set_cons_succ]
   refine wpAnyM_take (i := 9) (v := ?_) rfl (by as_aux_lemma => kernel_rfl) (by as_aux_lemma => kernel_rfl) (by as_aux_lemma => kernel_rfl) (by as_aux_lemma => kernel_rfl) (fun _ _ _ h => h) (Or.inl ⟨by rfl, ?_⟩) (hHeld) ?_
   rotate_left
   ·((intro W hSw); (try dsimp only at hSw); go_simp; try (with_reducible rfl))
   simp only [List.getElem_toArray, List.getElem_cons_zero, List.getElem_cons_succ, Act.put, List.setIfInBounds_toArray, List.set_cons_zero, List.set_cons_succ]
   refine wpAnyM_take (i := 10) (v := ?_) rfl (by as_aux_lemma => kernel_rfl) (by as_aux_lemma => kernel_rfl) (by as_aux_lemma => kernel_rfl) (by as_aux_lemma => kernel_rfl) (fun _ _ _ h => h) (Or.inl ⟨by rfl, ?_⟩) (hHeld) ?_
   rotate_left
   ·((intro W hSw); (try dsimp only at hSw); go_simp; try (with_reducible rfl))
   simp only [List.getElem_toArray, List.getElem_cons_zero, List.getElem_cons_succ, Act.put, List.setIfInBounds_toArray, List.set_cons_zero, List.set_cons_succ]
   refine wpAnyM_take (i := 11) (v := ?_) rfl (by as_aux_lemma => kernel_rfl) (by as_aux_lemma => kernel_rfl) (by as_aux_lemma => kernel_rfl) (by as_aux_lemma => kernel_rfl) (fun _ _ _ h => h) (Or.inl ⟨by rfl, ?_⟩) (hHeld) ?_
   rotate_left
   ·((intro W hSw); (try dsimp only at hSw); go_simp; try (with_reducible rfl))
   simp only [List.getElem_toArray, List.getElem_cons_zero, List.getElem_cons_succ, Act.put, List.setIfInBounds_toArray, List.set_cons_zero, List.set_cons_succ]
   refine wpAnyM_take (i := 12) (v := ?_) rfl (by as_aux_lemma => kernel_rfl) (by as_aux_lemma => kernel_rfl) (by as_aux_lemma => kernel_rfl) (by as_aux_lemma => kernel_rfl) (fun _ _ _ h => h) (Or.inl ⟨by rfl, ?_⟩) (hHeld) ?_
   rotate_left
   ·((intro W hSw); (try dsimp only at hSw); go_simp; try (with_reducible rfl))
   simp only [List.getElem_toArray, List.getElem_cons_zero, List.getElem_cons_succ, Act.put, List.setIfInBounds_toArray, List.set_cons_zero, List.set_cons_succ]
   refine wpAnyM_take (i := 13) (v := ?_) rfl (by as_aux_lemma => kernel_rfl) (by as_aux_lemma => kernel_rfl) (by as_aux_lemma => kernel_rfl) (by as_aux_lemma => kernel_rfl) (fun _ _ _ h => h) (Or.inl ⟨by rfl, ?_⟩) (hHeld) ?_
   rotate_left
   ·((intro W hSw); (try dsimp only at hSw); go_simp; try (with_reducible rfl))
   simp only [List.getElem_toArray, List.getElem_cons_zero, List.getElem_cons_succ, Act.put, List.setIfInBounds_toArray, List.set_cons_zero, List.set_cons_succ]
   refine wpAnyM_take (i := 14) (v := ?_) rfl (by as_aux_lemma => kernel_rfl) (by as_aux_lemma => kernel_rfl) (by as_aux_lemma => kernel_rfl) (by as_aux_lemma => kernel_rfl) (fun _ _ _ h => h) (Or.inl ⟨by rfl, ?_⟩) (hHeld) ?_
   rotate_left
   ·((intro W hSw); (try dsimp only at hSw); go_simp; try (with_reducible rfl))
   simp only [List.getElem_toArray, List.getElem_cons_zero, List.getElem_cons_succ, Act.put, List.setIfInBounds_toArray, List.set_cons_zero, List.set_cons_succ]
   refine wpAnyM_take (i := 15) (v := ?_) rfl (by as_aux_lemma => kernel_rfl) (by as_aux_lemma => kernel_rfl) (by as_aux_lemma => kernel_rfl) (by as_aux_lemma => kernel_rfl) (fun _ _ _ h => h) (Or.inl ⟨by rfl, ?_⟩) (hHeld) ?_
   rotate_left
   ·((intro W hSw); (try dsimp only at hSw); go_simp; try (with_reducible rfl))
   simp only [List.getElem_toArray, List.getElem_cons_zero, List.getElem_cons_succ, Act.put, List.setIfInBounds_toArray, List.set_cons_zero, List.set_cons_succ]
   refine wpAnyM_one (i := 16) (by as_aux_lemma => kernel_rfl) rfl (fun K hK => ?_)
   refine step_app_str rfl (.tmp 18) (.tmp 29) rfl B (.slice A1 M.length c1) M.length M (by rfl) OWN.out R (by rfl) (by have := HSZ.out; have := HRl.out; omega) hsB ?_
   intro v3 w3 own3 gr3
   obtain ⟨A3, c3, rfl, -, -⟩ := own_slc own3
   have f3 := Off.grown OWN.out gr3
   have B3 := HBW.out.off f3 (by decide)
   have X3 := HBX.out.off f3 (by decide)
   have L3 := own_off HLO.out f3 (by decide)
   have b3lt : Below B wr.drew w3 := (Below.refl B wr.drew).grown gr3 hsB (fun k hk => (OWN.out.lt k hk).1)
   have S4_ := (⟨B3.cell 0, X3.cell 3, (own_cellI L3 hj2).trans (by rw [HQ.out]), (b3lt.cell (p := ⟨gr, orr + q * 4, none⟩) hgr).trans r0⟩ : _ ∧ _ ∧ _ ∧ _)
   have f0 := B3.free 0
   clear X3 L3
   refine hK.out _ _ (fun _ => S4_) ?_
   clear hK K
   try simp only [List.getElem_toArray, List.getElem_cons_zero, List.getElem_cons_succ, Act.put, List.setIfInBounds_toArray, List.set_cons_zero, List.set_cons_succ]
   refine wpAnyM_one (i := 17) (by as_aux_lemma => kernel_rfl) rfl (fun K hK => ?_)
   go_simp
   refine hK.out _ _ (fun _ => S4_) ?_
   clear hK K
   try simp only [List.getElem_toArray, List.getElem_cons_zero, List.getElem_cons_succ, Act.put, List.setIfInBounds_toArray, List.set_cons_zero, List.set_cons_succ]
   refine wpAnyM_one (i := 18) (by as_aux_lemma => kernel_rfl) rfl (fun K hK => ?_)
   go_simp
   refine hK.out _ _ (fun _ => S4_) ?_
   clear hK K
   try simp only [List.getElem_toArray, List.getElem_cons_zero, List.getElem_cons_succ, Act.put, List.setIfInBounds_toArray, List.set_cons_zero, List.set_cons_succ]
   refine wpAnyM_one (i := 19) (by as_aux_lemma => kernel_rfl) rfl (fun K hK => ?_)
   go_simp
   refine hK.out _ _ (fun h => absurd rfl h) ?_
   clear hK K
   try simp only [List.getElem_toArray, List.getElem_cons_zero, List.getElem_cons_succ, Act.put, List.setIfInBounds_toArray, List.set_cons_zero, List.set_cons_succ]
   refine wpAnyM_done (by as_aux_lemma => kernel_rfl) (NoPanic.normal ?_) _

   have OB : Hid (OwnB (w3.setCell ⟨g, 0, none⟩ (.slice A3 (M.length + R.length) c3)) B g (L ++ closeL regs (l.drop j))) := by
    have q := wrote_push HBW.out hBg OWN.out own3 (by simp) f3
    rw [HST.out, HCT.out, ← List.append_assoc, HM.out]
    exact q
   have DD : Hid (Dry w (w3.setCell ⟨g, 0, none⟩ (.slice A3 (M.length + R.length) c3))) := (((HD.out).off (R := 5) ((Off.drew (R := 5) wr).trans f3) (.inr rfl)).off (Off.set_ B3 0 _) (.inl rfl))
   have BB : Hid (Below B w (w3.setCell ⟨g, 0, none⟩ (.slice A3 (M.length + R.length) c3))) := (HbB.out.trans ((Below.refl B wr).drew.trans b3lt)).setCell (p := ⟨g, 0, none⟩) hBg _
   have XX : Hid (Blk (w3.setCell ⟨g, 0, none⟩ (.slice A3 (M.length + R.length) c3)) w.heap.size 30 #[Ha.v, Ht.v, Hx.v, .slice (some ⟨gr, orr, none⟩) rn rc, Hn.v, Hh.v, Hl.v]) := (HBX.out.off f3 (by decide)).off (Off.set_ B3 0 _) (by decide)
   have LL : Hid ((w3.setCell ⟨g, 0, none⟩ (.slice A3 (M.length + R.length) c3)).ownsRow B 3 1 (.slice (some ⟨gl, 0, none⟩) n c) n (nints l)) := own_off (own_off HLO.out f3 (by decide)) (Off.set_ B3 0 _) (by decide)
   clear hHeld S4_ hS4 f3 B3 b3lt own3 gr3 f0
   go_wp2
   go_roundw
   case rel => exact ⟨j, by go_num, by omega, OB.out, DD.out, BB.out, XX.out, LL.out⟩
   case measure => (simp [intOf] <;> omega)
end Go.Proofs.YtgkdaebiefhgdaaGreatDoor
namespace Go.Proofs.YtgkdaebiefhgdaaGreatDoor
set_option linter.unusedSimpArgs false
set_option linter.unusedVariables false
open Go.RowKit
open Feat (Bs)
open Tagp (KV fmtT esc)
attribute [local go_sem] byte_mk ByteArray.extract_mk
set_option maxRecDepth 100000 in
set_option maxHeartbeats 8000000 in
theorem wtoken_any (B g : Nat) (A : Option Addr) (n c : Nat) (vs : List Bs) (L : Bs) (w : World) (k : OwnB w B g L) (hv : Words w w.heap.size ⟨A, n, c⟩ vs) (hsh : ∀ v ∈ vs, v.length ≤ 1048576) (hn : n ≤ 4096)
  (hsz : L.length + ([9].intercalate (vs.map esc)).length ≤ 1099511627776) :
  Calls Tryz.prog 38 #[.pointer (some ⟨g, 0, none⟩), .slice A n c] w (Wrote B g w (L ++ [9].intercalate (vs.map esc) ++ [10])) := by
 obtain ⟨i1, hi1, hy0, hy1, hy2⟩ := info_parts info_string
 obtain ⟨i0, hi0, hz0, hz1, hz2⟩ := info_parts info_u8
 obtain ⟨A1, c1, hb, ho, hBg⟩ := k
 have hB : B ≤ w.heap.size := Nat.le_trans hBg (Nat.le_of_lt hb.lt)
 have hvl : vs.length = n := hv.len
 have HB := Lib.hid hb
 have HO := Lib.hid ho
 have HS := Lib.hid hsh
 obtain ⟨T, hT⟩ : ∃ T, [9].intercalate (vs.map esc) = T := ⟨_, rfl⟩
 rw [hT] at hsz ⊢
 clear hb ho hsh
 go_enter Tryz.func38, Tryz.ntmps38
 go_wp2_with fail
 go_loopw [9, 4] (fun iv lv wr => ∃ (j : Nat) (Av : Option Addr) (cv : Nat), iv = .int .i64 j ∧ j ≤ n ∧ lv = .slice Av j cv ∧ Hid (wr.ownsRow w.heap.size 9 1 (.slice Av j cv) j (strs ((vs.take j).map esc))) ∧ Below w.heap.size w wr) (fun iv _ _ => n - (intOf iv).toNat)
 case atStart => exact ⟨0, none, 0, rfl, Nat.zero_le _, rfl, World.ownsRow_nil _ _ _ _, Below.refl _ _⟩
 case round =>
  obtain ⟨j, Av, cv, rfl, hj, rfl, hown, hbw⟩ := hrel
  by_cases hjn : j < n
  ·obtain ⟨gk, ok, hk', hA, hg, hpl, p0⟩ := (hv.under hbw).at_ (k := j) hjn
   dsimp only at hA
   subst hA
   obtain ⟨s, hs⟩ : ∃ s, vs[j] = s := ⟨_, rfl⟩
   have hsl : s.length ≤ 1048576 := by rw [← hs]; exact HS.out _ (List.getElem_mem hk')
   rw [hs] at p0
   have HTK : Hid ((vs.take (j + 1)).map esc = (vs.take j).map esc ++ [esc s]) := by
    show _ = _
    rw [List.take_succ_eq_append_getElem hk', List.map_append, hs]; rfl
   have HE := Lib.hid (escape_any s (by omega) wr)
   have hj0 : (0 : Int) ≤ (j : Int) := by omega
   have hj1 : (j : Int) < (n : Int) := by omega
   have hw3 : IntKind.i64.wrap ((j : Int) + 1) = ((j + 1 : Nat) : Int) := by rw [IntWalk.i64_in _ (by omega)]; omega
   clear hs hpl
   generalize esc s = q at HTK HE
   go_wp2_with fail
   refine HE.out.mono ?_
   rintro en w2 ⟨rfl, hb2⟩
   have o2 := (own_below hown.out hb2).alloc (.cells #[str q] 9)
   have B2 := hbw.trans (hb2.mono hbw.size)
   have B2a := B2.alloc B2.size (.cells #[str q] 9)
   have HBB := Lib.hid B2a
   have hlt2 := o2.lt
   clear hown hbw B2 B2a hb2 p0
   go_wp2_with (at_builtin; refine wpList_append_own_at _ rfl (.tmp 13) (.tmp 16) _ rfl w.heap.size 9 i1 _ 1 16 Tryz.underlying28 hi1 hy0 hy1 hy2 rfl (by decide) _ _ _ rfl o2 ⟨w2.heap.size, 0, none⟩ 1 1 [str q] rfl rfl (news_new _ _ [_]) (by intro u hu; simp at hu; subst hu; rfl) (by simp [maxLen]; omega) (by omega) HBB.out.size ?_; intro v5 w5 own5 gr5 _ _; obtain ⟨A5, c5, rfl, -, -⟩ := own_slc own5)
   have B5 : Hid (Below w.heap.size w w5) := HBB.out.grown gr5 HBB.out.size (fun j hj => (hlt2 j hj).1)
   have O5 : Hid (w5.ownsRow w.heap.size 9 1 (.slice A5 (j + 1) c5) (j + 1) (strs ((vs.take (j + 1)).map esc))) := by
    rw [HTK.out, strs_snoc]; exact own5
   clear own5 gr5 o2 hlt2
   go_wp2
   go_roundw
   case rel => exact ⟨j + 1, A5, c5, by go_num, by omega, rfl, O5, B5.out⟩
   case measure => (simp [intOf] <;> omega)
  ·obtain rfl : j = n := by omega
   rw [List.take_of_length_le (by omega)] at hown
   have hbd := hbw.drew
   have BW := Lib.hid (HB.out.below hbd)
   have OW := Lib.hid (own_below HO.out hbd)
   have hml : (vs.map esc).length = j := by rw [List.length_map, hvl]
   have hod := own_off hown.out (Off.drew (R := 4294967295) _) (by decide)
   have HJ := join_any (vs.map esc) Av cv wr.drew (by rw [hml]; exact own_sl hod) (by rw [hml]; exact (own_fit hod).1) (by omega) (by rw [hT]; omega)
   rw [hml] at HJ
   have HJ := Lib.hid HJ
   have hS6 : wr.drew.cell? ⟨g, 0, none⟩ = some (.slice A1 L.length c1) := BW.out.cell 0
   have HBD := Lib.hid hbd
   rw [hT] at HJ
   clear hown hbw hbd hod
   go_wp2
   refine wp_region_m (fun W => W.cell? ⟨g, 0, none⟩ = some (.slice A1 L.length c1)) 10 (by as_aux_lemma => kernel_rfl) (hS6) (fun hHeld => ?_)
   refine wpAnyM_take (i := 0) (v := ?_) rfl (by as_aux_lemma => kernel_rfl) (by as_aux_lemma => kernel_rfl) (by as_aux_lemma => kernel_rfl) (by as_aux_lemma => kernel_rfl) (fun _ _ _ h => h) (Or.inl ⟨by rfl, ?_⟩) (hHeld) ?_
   rotate_left
   ·((intro W hSw); (try dsimp only at hSw); go_simp; try (with_reducible rfl))
   simp only [List.getElem_toArray, List.getElem_cons_zero, List.getElem_cons_succ, Act.put, List.setIfInBounds_toArray, List.set_cons_zero, List.set_cons_succ]
   refine wpAnyM_take (i := 1) (v := ?_) rfl (by as_aux_lemma => kernel_rfl) (by as_aux_lemma => kernel_rfl) (by as_aux_lemma => kernel_rfl) (by as_aux_lemma => kernel_rfl) (fun _ _ _ h => h) (Or.inl ⟨by rfl, ?_⟩) (hHeld) ?_
   rotate_left
   ·((intro W hSw); (try dsimp only at hSw); go_simp; try (with_reducible rfl))
   simp only [List.getElem_toArray, List.getElem_cons_zero, List.getElem_cons_succ, Act.put, List.setIfInBounds_toArray, List.set_cons_zero, List.set_cons_succ]
   refine wpAnyM_take (i := 2) (v := ?_) rfl (by as_aux_lemma => kernel_rfl) (by as_aux_lemma => kernel_rfl) (by as_aux_lemma => kernel_rfl) (by as_aux_lemma => kernel_rfl) (fun _ _ _ h => h) (Or.inl ⟨by rfl, ?_⟩) (hHeld) ?_
   rotate_left
   ·((intro W hSw); (try dsimp only at hSw); go_simp; try (with_reducible rfl))
   simp only [List.getElem_toArray, List.getElem_cons_zero, List.getElem_cons_succ, Act.put, List.setIfInBounds_toArray, List.set_cons_zero, List.set_cons_succ]
   refine wpAnyM_take (i := 3) (v := ?_) rfl (by as_aux_lemma => kernel_rfl) (by as_aux_lemma => kernel_rfl) (by as_aux_lemma => kernel_rfl) (by as_aux_lemma => kernel_rfl) (fun _ _ _ h => h) (Or.inl ⟨by rfl, ?_⟩) (hHeld) ?_
   rotate_left
   ·((intro W hSw); (try dsimp only at hSw); go_simp; try (with_reducible rfl))
   simp only [List.getElem_toArray, List.getElem_cons_zero, List.getElem_cons_succ, Act.put, List.setIfInBounds_toArray, List.set_cons_zero, List.set_cons_succ]
   refine wpAnyM_take (i := 4) (v := ?_) rfl (by as_aux_lemma => kernel_rfl) (by as_aux_lemma => kernel_rfl) (by as_aux_lemma => kernel_rfl) (by as_aux_lemma => kernel_rfl) (fun _ _ _ h => h) (Or.inl ⟨by rfl, ?_⟩) (hHeld) ?_
   rotate_left
   ·((intro W hSw); (try dsimp only at hSw); go_simp; try (with_reducible rfl))
   simp only [List.getElem_toArray, List.getElem_cons_zero, List.getElem_cons_succ, Act.put, List.setIfInBounds_toArray, List.set_cons_zero, List.set_cons_succ]
   refine wpAnyM_take (i := 5) (v := ?_) rfl (by as_aux_lemma => kernel_rfl) (by as_aux_lemma => kernel_rfl) (by as_aux_lemma => kernel_rfl) (by as_aux_lemma => kernel_rfl) (fun _ _ _ h => h) (Or.inl ⟨by rfl, ?_⟩) (hHeld) ?_
   rotate_left
   ·((intro W hSw); (try dsimp only at hSw); go_simp; try (with_reducible rfl))
   simp only [List.getElem_toArray, List.getElem_cons_zero, List.getElem_cons_succ, Act.put, List.setIfInBounds_toArray, List.set_cons_zero, List.set_cons_succ]
   refine wpAnyM_one (i := 6) (by as_aux_lemma => kernel_rfl) rfl (fun K hK => ?_)
   go_simp
   refine HJ.out.mono ?_
   rintro en w5 ⟨rfl, hb5⟩
   have b5 := BW.out.below hb5
   have o5 := own_below OW.out hb5
   have S6_ : w5.cell? ⟨g, 0, none⟩ = some (.slice A1 L.length c1) := b5.cell 0
   have hs5 : B ≤ w5.heap.size := Nat.le_trans (Nat.le_trans hB HBD.out.size) hb5.size
   have BB5 : Hid (Below w.heap.size w w5) := HBD.out.trans (hb5.mono HBD.out.size)
   have HB5 := Lib.hid b5
   have HO5 := Lib.hid o5
   clear hb5 b5 o5
   refine hK.out _ _ (fun _ => S6_) ?_
   clear hK K
   try simp only [List.getElem_toArray, List.getElem_cons_zero, List.getElem_cons_succ, Act.put, List.setIfInBounds_toArray, List.set_cons_zero, List.set_cons_succ]
   refine wpAnyM_one (i := 7) (by as_aux_lemma => kernel_rfl) rfl (fun K hK => ?_)
   refine step_app_str rfl (.tmp 23) (.tmp 25) rfl B (.slice A1 L.length c1) L.length L (by rfl) HO5.out T (by rfl) (by omega) hs5 ?_
   intro v3 w3 own3 gr3
   obtain ⟨A3, c3, rfl, -, -⟩ := own_slc own3
   have f3 := Off.grown HO5.out gr3
   have B3 := HB5.out.off f3 (by decide)
   have S7_ : w3.cell? ⟨g, 0, none⟩ = some (.slice A1 L.length c1) := B3.cell 0
   have f0 := B3.free 0
   refine hK.out _ _ (fun _ => S7_) ?_
   clear hK K
   try simp only [List.getElem_toArray, List.getElem_cons_zero, List.getElem_cons_succ, Act.put, List.setIfInBounds_toArray, List.set_cons_zero, List.set_cons_succ]
   refine wpAnyM_one (i := 8) (by as_aux_lemma => kernel_rfl) rfl (fun K hK => ?_)
   go_simp
   refine hK.out _ _ (fun _ => S7_) ?_
   clear hK K
   try simp only [List.getElem_toArray, List.getElem_cons_zero, List.getElem_cons_succ, Act.put, List.setIfInBounds_toArray, List.set_cons_zero, List.set_cons_succ]
   refine wpAnyM_one (i := 9) (by as_aux_lemma => kernel_rfl) rfl (fun K hK => ?_)
   go_simp
   refine hK.out _ _ (fun _ => S7_) ?_
   clear hK K
   try simp only [List.getElem_toArray, List.getElem_cons_zero, List.getElem_cons_succ, Act.put, List.setIfInBounds_toArray, List.set_cons_zero, List.set_cons_succ]
   refine wpAnyM_one (i := 10) (by as_aux_lemma => kernel_rfl) rfl (fun K hK => ?_)
   go_simp
   refine hK.out _ _ (fun h => absurd rfl h) ?_
   clear hK K
   try simp only [List.getElem_toArray, List.getElem_cons_zero, List.getElem_cons_succ, Act.put, List.setIfInBounds_toArray, List.set_cons_zero, List.set_cons_succ]
   refine wpAnyM_done (by as_aux_lemma => kernel_rfl) (NoPanic.normal ?_) _
   have O6 := wrote_push HB5.out hBg HO5.out own3 (by simp) f3
   have B6 : Below B w (w3.setCell ⟨g, 0, none⟩ (.slice A3 (L.length + T.length) c3)) := ((BB5.out.mono hB).grown gr3 hs5 (fun k hk => (HO5.out.lt k hk).1)).setCell (p := ⟨g, 0, none⟩) hBg _
   have D6 : Hid (Dry w (w3.setCell ⟨g, 0, none⟩ (.slice A3 (L.length + T.length) c3))) := ((Dry.below BB5.out).off f3 (.inr rfl)).off (Off.set_ B3 0 _) (.inl rfl)
   obtain ⟨A6, c6, b6, o6, -⟩ := O6
   have hlt6 : (L ++ T).length = L.length + T.length := List.length_append
   have hs6 : B ≤ (w3.setCell ⟨g, 0, none⟩ (.slice A3 (L.length + T.length) c3)).heap.size := Nat.le_trans hB (Nat.le_trans BB5.out.size (Nat.le_trans gr3.size (by simp [World.setCell])))
   generalize w3.setCell ⟨g, 0, none⟩ (.slice A3 (L.length + T.length) c3) = w6 at b6 o6 B6 D6 hs6 ⊢
   obtain ⟨LT, hLT⟩ : ∃ LT, L ++ T = LT := ⟨_, rfl⟩
   rw [hLT] at b6 o6 hlt6
   have HLT := Lib.hid hLT
   have q6 : _ = some (Value.slice A6 LT.length c6) := b6.cell 0
   have oa6 := o6.alloc (.cells #[.int .u8 10] 5)
   have ba6 := B6.alloc hs6 (.cells #[.int .u8 10] 5)
   have hlt7 := oa6.lt
   have HB6 := Lib.hid b6
   have HO6 := Lib.hid o6
   have HL6 := Lib.hid hlt6
   clear hHeld S6_ S7_ hS6 f0 f3 B3 own3 gr3 b6 hLT hlt6
   go_wp2_with (at_builtin; refine wpList_append_own_at _ rfl (.tmp 33) (.tmp 34) _ rfl B 5 i0 _ 1 1 Tryz.underlying79 hi0 hz0 hz1 hz2 rfl (by decide) _ _ _ rfl oa6 ⟨w6.heap.size, 0, none⟩ 1 1 [.int .u8 10] rfl rfl (news_new _ _ [_]) (by intro u hu; simp at hu; subst hu; rfl) (by have := HL6.out; simp [maxLen]; omega) (by have := HL6.out; omega) (Nat.le_trans hs6 (by simp)) ?_; intro v7 w7 own7 gr7 _ _; obtain ⟨A7, c7, rfl, -, -⟩ := own_slc own7; have B7 : Below B w w7 := ba6.grown gr7 (Nat.le_trans hs6 (by simp)) (fun j hj => (hlt7 j hj).1); have f7 := (Off.alloc (R := 5) w6 (.cells #[.int .u8 10] 5)).trans (Off.grown oa6 gr7); have b7 := HB6.out.off f7 (by decide); have q7 : _ = some (Value.slice A6 LT.length c6) := b7.cell 0; have z7 := b7.free 0)
   have e7 : bys LT ++ [Value.int .u8 10] = bys (LT ++ [10]) := by simp [bys]
   rw [e7] at own7
   go_end0
   refine ⟨rfl, B7.setCell (p := ⟨g, 0, none⟩) hBg _, (D6.out.off f7 (.inr rfl)).off (Off.set_ b7 0 _) (.inl rfl), ?_⟩
   have q := wrote_push HB6.out hBg HO6.out own7 (by simp) f7
   rw [HLT.out]
   exact q

end Go.Proofs.YtgkdaebiefhgdaaGreatDoor
namespace Go.Proofs.YtgkdaebiefhgdaaGreatDoor
set_option linter.unusedSimpArgs false
set_option linter.unusedVariables false
open Go.RowKit
open Feat (Bs)
open Tagp (KV)
abbrev BH := Hd × List Nat
def Apart (a b : BH) : Prop := ∀ k, a.1.v.ownBlock = some k → b.1.v.ownBlock ≠ some k
theorem Apart.symm {a b : BH} (h : Apart a b) : Apart b a := fun k h1 h2 => h k h2 h1
def Rws (w : World) (B : Nat) (Z : List BH) : Prop := (∀ z ∈ Z, w.ownsRow B 3 1 z.1.v z.1.n (nints z.2)) ∧ ∀ i j (hi : i < Z.length) (hj : j < Z.length), i ≠ j → Apart Z[i] Z[j]
theorem Rws.dry {w w1 : World} {B : Nat} {Z : List BH} (h : Rws w B Z) (d : Dry w w1) : Rws w1 B Z := ⟨fun z hz => d.own (h.1 z hz) (by decide) (by decide), h.2⟩
theorem Rws.off {R : TypeId} {w w1 : World} {B : Nat} {Z : List BH} (h : Rws w B Z) (f : Off R w w1) (n : 3 ≠ R) : Rws w1 B Z := ⟨fun z hz => own_off (h.1 z hz) f n, h.2⟩
theorem Rws.push {w w1 : World} {B : Nat} {Z : List BH} {i q : Nat} (h : Rws w B Z) (hi : i < Z.length) {A' : Option Addr} {n' c' : Nat} (own' : w1.ownsRow B 3 1 (.slice A' n' c') n' (nints (Z[i].2 ++ [q])))
  (gr : w.grownBy w1 Z[i].1.v.ownBlock) (hob : (Value.slice A' n' c').ownBlock = Z[i].1.v.ownBlock ∨ (Value.slice A' n' c').ownBlock = some w.heap.size) :
  Rws w1 B (Z.set i (⟨A', n', c'⟩, Z[i].2 ++ [q])) := by
 have hnew : ∀ j (hj : j < Z.length), j ≠ i → Apart Z[j] ((⟨A', n', c'⟩ : Hd), Z[i].2 ++ [q]) := fun j hj hne k h1 h2 => by
  rcases hob with e | e
  ·exact h.2 j i hj hi hne k h1 (e.symm.trans h2)
  ·have h3 := (h.1 _ (List.getElem_mem hj)).lt k h1
   have h4 := e.symm.trans h2
   injection h4 with h4
   omega
 refine ⟨fun z hz => ?_, fun a b ha hb hab => ?_⟩
 ·obtain ⟨j, hj, rfl⟩ := List.getElem_of_mem hz
  rw [List.getElem_set]
  by_cases e : i = j
  ·rw [if_pos e]; exact own'
  ·rw [if_neg e]
   have hj' : j < Z.length := by simpa using hj
   exact own_grownV (h.1 _ (List.getElem_mem hj')) gr (h.2 j i hj' hi (fun e2 => e e2.symm))
 ·have ha' : a < Z.length := by simpa using ha
  have hb' : b < Z.length := by simpa using hb
  rw [List.getElem_set, List.getElem_set]
  by_cases e1 : i = a
  ·rw [if_pos e1, if_neg (by omega)]
   exact (hnew b hb' (by omega)).symm
  ·rw [if_neg e1]
   by_cases e2 : i = b
   ·rw [if_pos e2]; exact hnew a ha' (by omega)
   ·rw [if_neg e2]; exact h.2 a b ha' hb' hab
def hdrs (Z : List BH) : Array Value := (Z.map fun z => z.1.v).toArray
theorem hdrs_at {Z : List BH} {i : Nat} (hi : i < Z.length) : (hdrs Z)[i]? = some Z[i].1.v := by simp [hdrs, hi]
theorem hdrs_set {Z : List BH} {i : Nat} {x : BH} : (hdrs Z).setIfInBounds i x.1.v = hdrs (Z.set i x) := by simp [hdrs, List.map_set]
structure Fs (w0 w : World) (gb ge : Nat) (H : CH) (X Y : List BH) : Prop where
 below : Below w0.heap.size w0 w
 cor : Blk w w0.heap.size 30 H.cs
 bx : Blk w gb 27 (hdrs X)
 by_ : Blk w ge 27 (hdrs Y)
 gb0 : w0.heap.size ≤ gb
 ge0 : w0.heap.size ≤ ge
 gbe : gb ≠ ge
 rows : Rws w w0.heap.size (X ++ Y)
section
variable {w0 w w1 : World} {gb ge : Nat} {H : CH} {X Y : List BH}
theorem Fs.dry (h : Fs w0 w gb ge H X Y) (d : Dry w w1) (b : Below w0.heap.size w w1) : Fs w0 w1 gb ge H X Y :=
 ⟨h.below.trans b, d.blk h.cor (by decide) (by decide), d.blk h.bx (by decide) (by decide), d.blk h.by_ (by decide) (by decide), h.gb0, h.ge0, h.gbe, h.rows.dry d⟩
theorem Fs.under (h : Fs w0 w gb ge H X Y) (b : Below w.heap.size w w1) : Fs w0 w1 gb ge H X Y := h.dry (Dry.below b) (b.mono h.below.size)
theorem Fs.alloc (h : Fs w0 w gb ge H X Y) (o : Obj) : Fs w0 (w.alloc o) gb ge H X Y := h.under ((Below.refl _ _).alloc (Nat.le_refl _) o)
theorem Fs.drew (h : Fs w0 w gb ge H X Y) : Fs w0 w.drew gb ge H X Y := h.under ((Below.refl _ _).drew)
theorem Fs.putX (h : Fs w0 w gb ge H X Y) {i q : Nat} (hi : i < X.length) {A' : Option Addr} {n' c' : Nat} (own' : w1.ownsRow w0.heap.size 3 1 (.slice A' n' c') n' (nints (X[i].2 ++ [q])))
  (gr : w.grownBy w1 X[i].1.v.ownBlock) (hob : (Value.slice A' n' c').ownBlock = X[i].1.v.ownBlock ∨ (Value.slice A' n' c').ownBlock = some w.heap.size) :
  Fs w0 (w1.setCell ⟨gb, i, none⟩ (.slice A' n' c')) gb ge H (X.set i (⟨A', n', c'⟩, X[i].2 ++ [q])) Y := by
 have hr : w.ownsRow w0.heap.size 3 1 X[i].1.v X[i].1.n (nints X[i].2) := h.rows.1 _ (List.mem_append_left _ (List.getElem_mem hi))
 have f1 := Off.grown hr gr
 have bx1 := h.bx.off f1 (by decide)
 have f2 := Off.set_ bx1 i (.slice A' n' c')
 have hi2 : i < (X ++ Y).length := by rw [List.length_append]; omega
 have he : (X ++ Y)[i] = X[i] := List.getElem_append_left hi
 have rp := Rws.push h.rows hi2 (q := q) (by rw [he]; exact own') (by rw [he]; exact gr) (by rw [he]; exact hob)
 rw [he, List.set_append_left _ _ hi] at rp
 have b2 := bx1.set_ i (.slice A' n' c')
 rw [show (hdrs X).setIfInBounds i (.slice A' n' c') = hdrs (X.set i (⟨A', n', c'⟩, X[i].2 ++ [q])) from hdrs_set (x := (⟨A', n', c'⟩, X[i].2 ++ [q]))] at b2
 exact ⟨(h.below.grown gr h.below.size (fun k hk => (hr.lt k hk).1)).setCell (p := ⟨gb, i, none⟩) h.gb0 _, (h.cor.off f1 (by decide)).off f2 (by decide), b2, (h.by_.off f1 (by decide)).other (p := ⟨gb, i, none⟩) h.gbe _, h.gb0, h.ge0, h.gbe, rp.off f2 (by decide)⟩
theorem Fs.putY (h : Fs w0 w gb ge H X Y) {i q : Nat} (hi : i < Y.length) {A' : Option Addr} {n' c' : Nat} (own' : w1.ownsRow w0.heap.size 3 1 (.slice A' n' c') n' (nints (Y[i].2 ++ [q])))
  (gr : w.grownBy w1 Y[i].1.v.ownBlock) (hob : (Value.slice A' n' c').ownBlock = Y[i].1.v.ownBlock ∨ (Value.slice A' n' c').ownBlock = some w.heap.size) :
  Fs w0 (w1.setCell ⟨ge, i, none⟩ (.slice A' n' c')) gb ge H X (Y.set i (⟨A', n', c'⟩, Y[i].2 ++ [q])) := by
 have hr : w.ownsRow w0.heap.size 3 1 Y[i].1.v Y[i].1.n (nints Y[i].2) := h.rows.1 _ (List.mem_append_right _ (List.getElem_mem hi))
 have f1 := Off.grown hr gr
 have bx1 := h.by_.off f1 (by decide)
 have f2 := Off.set_ bx1 i (.slice A' n' c')
 have hi2 : X.length + i < (X ++ Y).length := by rw [List.length_append]; omega
 have he : (X ++ Y)[X.length + i] = Y[i] := by rw [List.getElem_append_right (by omega)]; simp
 have rp := Rws.push h.rows hi2 (q := q) (by rw [he]; exact own') (by rw [he]; exact gr) (by rw [he]; exact hob)
 rw [he, List.set_append_right _ _ (by omega), Nat.add_sub_cancel_left] at rp
 have b2 := bx1.set_ i (.slice A' n' c')
 rw [show (hdrs Y).setIfInBounds i (.slice A' n' c') = hdrs (Y.set i (⟨A', n', c'⟩, Y[i].2 ++ [q])) from hdrs_set (x := (⟨A', n', c'⟩, Y[i].2 ++ [q]))] at b2
 exact ⟨(h.below.grown gr h.below.size (fun k hk => (hr.lt k hk).1)).setCell (p := ⟨ge, i, none⟩) h.ge0 _, (h.cor.off f1 (by decide)).off f2 (by decide), (h.bx.off f1 (by decide)).other (p := ⟨ge, i, none⟩) (fun e => h.gbe e.symm) _, b2, h.gb0, h.ge0, h.gbe, rp.off f2 (by decide)⟩
end
theorem news_oneF {w : World} {t : TypeId} {a : Value} {k : Nat} (h : w.heap.size = k) : ∀ j u, [a][j]? = some u → (w.alloc (.cells #[a] t)).cell? ((⟨k, 0, none⟩ : Addr).add j) = some u := by
 subst h
 exact news_new w t [a]
def Tab (Z : List BH) (N : Nat) (f : Nat → List Nat) : Prop := Z.length = N + 1 ∧ ∀ k (h : k < Z.length), Z[k].2 = f k
theorem Tab.put {Z : List BH} {N i : Nat} {f g : Nat → List Nat} {x : BH} (h : Tab Z N f) (hi : i ≤ N) (hx : x.2 = g i) (ho : ∀ k, k ≠ i → g k = f k) : Tab (Z.set i x) N g := by
 refine ⟨by rw [List.length_set]; exact h.1, fun k hk => ?_⟩
 rw [List.getElem_set]
 by_cases e : i = k
 ·subst e; rw [if_pos rfl]; exact hx
 ·rw [if_neg e, ho k (fun e2 => e e2.symm)]
  exact h.2 k _
end Go.Proofs.YtgkdaebiefhgdaaGreatDoor
namespace Go.Proofs.YtgkdaebiefhgdaaGreatDoor
set_option linter.unusedSimpArgs false
set_option linter.unusedVariables false
open Go.RowKit
open Feat (Bs)
open Tagp (KV)
open Vert (isId badT fmtErr)
attribute [local go_sem] byte_mk ByteArray.extract_mk
theorem fmtErr_at {c : Cor.C} {j : Nat} (hj : j < c.texts.length) (hb : badT c.texts[j] = true) (hn : ∀ i (hi : i < c.texts.length), i < j → badT c.texts[i] = false) : fmtErr c = if c.texts[j].ks.any isId = true then 4 else 2 := by
 unfold fmtErr
 have : c.texts.find? badT = some c.texts[j] := by
  rw [List.find?_eq_some_iff_getElem]
  exact ⟨hb, j, hj, rfl, fun i hi => by simpa using hn i (by omega) hi⟩
 rw [this]
theorem fmtErr_none {c : Cor.C} (hn : ∀ i (hi : i < c.texts.length), badT c.texts[i] = false) : fmtErr c = if c.regs.any (fun r => r.nm == Vert.text) = true then 4 else 0 := by
 unfold fmtErr
 have : c.texts.find? badT = none := by
  rw [List.find?_eq_none]
  intro t ht
  obtain ⟨i, hi, rfl⟩ := List.getElem_of_mem ht
  simp [hn i hi]
 rw [this]
set_option maxRecDepth 100000 in
set_option maxHeartbeats 8000000 in
theorem vcheck_any (H : CH) (c : Cor.C) (w : World) (hx : Txts w w.heap.size H.x c.texts) (hr : Txts w w.heap.size H.r c.regs) :
  Calls Tryz.prog 35 #[H.v] w (Kept (.int .i64 (fmtErr c : Nat)) w) := by
 obtain ⟨Ha, Ht, ⟨XA, xn, xc⟩, ⟨RA, rn, rc⟩, Hn, Hh, Hl⟩ := H
 show Calls Tryz.prog 35 #[.agg #[Ha.v, Ht.v, .slice XA xn xc, .slice RA rn rc, Hn.v, Hh.v, Hl.v]] w _
 have hxl : c.texts.length = xn := hx.len
 have hrl : c.regs.length = rn := hr.len
 have hxf : xn ≤ 9223372036854775807 := hx.fit.2
 have hrf : rn ≤ 9223372036854775807 := hr.fit.2
 have hb1 := (Below.refl w.heap.size w).alloc (Nat.le_refl _) (.cells #[Ha.v, Ht.v, .slice XA xn xc, .slice RA rn rc, Hn.v, Hh.v, Hl.v] 30)
 have hX1 := Blk.new w 30 #[Ha.v, Ht.v, .slice XA xn xc, .slice RA rn rc, Hn.v, Hh.v, Hl.v]
 have HX1 := Lib.hid hX1
 have HB1 := Lib.hid hb1
 clear hX1 hb1
 go_enter Tryz.func35, Tryz.ntmps35
 go_wp2_with fail
 go_loopw [12] (fun iv wo => ∃ j : Nat, iv = .int .i64 j ∧ j ≤ xn ∧ Below w.heap.size w wo ∧ Blk wo w.heap.size 30 #[Ha.v, Ht.v, .slice XA xn xc, .slice RA rn rc, Hn.v, Hh.v, Hl.v] ∧ Hid (∀ i (hi : i < c.texts.length), i < j → badT c.texts[i] = false)) (fun iv _ => xn - (intOf iv).toNat)
 case atStart => exact ⟨0, rfl, Nat.zero_le _, HB1.out, HX1.out, fun i hi h => by omega⟩
 case round =>
  obtain ⟨j, rfl, hj, hb, hblk, hno⟩ := hrel
  obtain ⟨wo, rfl⟩ : ∃ wo : World, wo = wr := ⟨_, rfl⟩
  by_cases hjn : j < xn
  ·obtain ⟨gx, ox, ⟨KA, kn, kc⟩, hk, hA, hg, hok, t0, t1, t2, t3⟩ := (hx.under hb).at_ (k := j) hjn
   dsimp only at hA t3
   subst hA
   obtain ⟨t, ht⟩ : ∃ t, c.texts[j] = t := ⟨_, rfl⟩
   rw [ht] at hok t0 t1 t2
   have hks : Keys wo w.heap.size ⟨KA, kn, kc⟩ t.ks := hok.2.2.2
   have hkl : t.ks.length = kn := hks.len
   have hkf : kn ≤ 9223372036854775807 := hks.1.2
   have HT := Lib.hid ht
   have hj0 : (0 : Int) ≤ (j : Int) := by omega
   have hj1 : (j : Int) < (xn : Int) := by omega
   have hw3 : IntKind.i64.wrap ((j : Int) + 1) = ((j + 1 : Nat) : Int) := by rw [IntWalk.i64_in _ (by omega)]; omega
   have hba := hb.alloc hb.size (.cells #[str t.nm, .int .i64 t.b, .int .i64 t.e, .slice KA kn kc] 66)
   have hblka := hblk.alloc (.cells #[str t.nm, .int .i64 t.b, .int .i64 t.e, .slice KA kn kc] 66)
   have hT := Blk.new wo 66 #[str t.nm, .int .i64 t.b, .int .i64 t.e, .slice KA kn kc]
   have HBA := Lib.hid hba
   have HBL := Lib.hid hblka
   have HTT := Lib.hid hT
   have hzr : w.heap.size ≤ wo.heap.size := hb.size
   have HKS : Hid (Keys (wo.alloc (.cells #[str t.nm, .int .i64 t.b, .int .i64 t.e, .slice KA kn kc] 66)) w.heap.size ⟨KA, kn, kc⟩ t.ks) := hks.under ((Below.refl _ _).alloc hzr _)
   clear ht hok hba hblka hT hb hblk hks
   go_wp2_with fail
   go_loopw [19] (fun iv wr => ∃ i : Nat, iv = .int .i64 i ∧ i ≤ kn ∧ Below w.heap.size w wr ∧ Below (wo.alloc (.cells #[str t.nm, .int .i64 t.b, .int .i64 t.e, .slice KA kn kc] 66)).heap.size (wo.alloc (.cells #[str t.nm, .int .i64 t.b, .int .i64 t.e, .slice KA kn kc] 66)) wr ∧ Hid (∀ q ∈ t.ks.take i, isId q = false)) (fun iv _ => kn - (intOf iv).toNat)
   case atStart => exact ⟨0, rfl, Nat.zero_le _, HBA.out, Below.refl _ _, fun q hq => by simp at hq⟩
   case round =>
    obtain ⟨i, rfl, hi, hbx, hby, hnk⟩ := hrel
    by_cases hik : i < kn
    ·obtain ⟨gk, ok, hk', hKA, hgk, -, p0, p1⟩ := (HKS.out.under (hby.mono (by simp; omega))).at_ (k := i) hik
     dsimp only at hKA
     subst hKA
     obtain ⟨p, hp⟩ : ∃ p, t.ks[i] = p := ⟨_, rfl⟩
     rw [hp] at p0 p1
     have hi0 : (0 : Int) ≤ (i : Int) := by omega
     have hi1 : (i : Int) < (kn : Int) := by omega
     have hw4 : IntKind.i64.wrap ((i : Int) + 1) = ((i + 1 : Nat) : Int) := by rw [IntWalk.i64_in _ (by omega)]; omega
     have HPA : Hid (Below w.heap.size w (wr.alloc (.cells #[str p.1, str p.2] 84))) := hbx.alloc hbx.size _
     have HPB : Hid (Below (wo.alloc (.cells #[str t.nm, .int .i64 t.b, .int .i64 t.e, .slice (some ⟨gk, ok, none⟩) kn kc] 66)).heap.size (wo.alloc (.cells #[str t.nm, .int .i64 t.b, .int .i64 t.e, .slice (some ⟨gk, ok, none⟩) kn kc] 66)) (wr.alloc (.cells #[str p.1, str p.2] 84))) := hby.alloc hby.size _
     by_cases hid : p.1 = [105, 100]
     ·have hII : isId p = true := by unfold isId; rw [hid]; rfl
      have hany : t.ks.any isId = true := by rw [List.any_eq_true]; exact ⟨p, by rw [← hp]; exact List.getElem_mem hk', hII⟩
      have HF : Hid (fmtErr c = 4) := by
       show _ = _
       rw [fmtErr_at (j := j) (by omega) (by rw [HT.out]; unfold badT; rw [hany]; rfl) hno.out, HT.out, if_pos hany]
      have he : (p.1 == [105, 100]) = true := by rw [beq_iff_eq]; exact hid
      clear hid hp hbx hby
      go_wp2
      go_ret
      exact ⟨by rw [HF.out]; rfl, HPA.out⟩
     ·have hII : isId p = false := by unfold isId; rw [beq_eq_false_iff_ne]; exact hid
      have he : (p.1 == [105, 100]) = false := by rw [beq_eq_false_iff_ne]; exact hid
      have HNK : Hid (∀ q ∈ t.ks.take (i + 1), isId q = false) := fun q hq => by
       rw [List.take_succ_eq_append_getElem hk', hp] at hq
       rcases List.mem_append.1 hq with hq | hq
       ·exact hnk.out q hq
       ·simp at hq; subst hq; exact hII
      clear hid hp hbx hby
      go_wp2
      go_roundw
      case rel => exact ⟨i + 1, by go_num, by omega, HPA.out, HPB.out, HNK⟩
      case measure => (simp [intOf] <;> omega)
    ·obtain rfl : i = kn := by omega
     have hany : t.ks.any isId = false := by
      rw [List.any_eq_false]
      intro q hq
      have := hnk.out q (by rw [List.take_of_length_le (by omega)]; exact hq)
      simp [this]
     have hTx := HTT.out.below hby
     have q3 : wr.cell? ⟨wo.heap.size, 3, none⟩ = some (Value.slice KA i kc) := hTx.cell 3
     have HBX := Lib.hid hbx
     have HBLX := Lib.hid (HBL.out.below hby)
     clear hbx hby hTx
     by_cases h8 : 8 ≤ i
     ·have HF : Hid (fmtErr c = 2) := by
       show _ = _
       rw [fmtErr_at (j := j) (by omega) (by rw [HT.out]; unfold badT; rw [hany, decide_eq_true (by omega : 8 ≤ t.ks.length)]; rfl) hno.out, HT.out, if_neg (by rw [hany]; simp)]
      go_wp2
      go_ret
      exact ⟨by rw [HF.out]; rfl, HBX.out⟩
     ·have HNO : Hid (∀ q (hq : q < c.texts.length), q < j + 1 → badT c.texts[q] = false) := fun q hq hqj => by
       by_cases e : q = j
       ·subst e
        rw [HT.out]; unfold badT; rw [hany, decide_eq_false (by omega : ¬ 8 ≤ t.ks.length)]; rfl
       ·exact hno.out q hq (by omega)
      go_wp2
      go_roundw
      case rel => exact ⟨j + 1, by go_num, by omega, HBX.out, HBLX.out, HNO⟩
      case measure => (simp [intOf] <;> omega)
  ·obtain rfl : j = xn := by omega
   have HNO : Hid (∀ q (hq : q < c.texts.length), badT c.texts[q] = false) := fun q hq => hno.out q hq (by omega)
   have c3 : wo.cell? ⟨w.heap.size, 3, none⟩ = some (Value.slice RA rn rc) := hblk.cell 3
   have HB := Lib.hid hb
   have hRG : Hid (Txts wo w.heap.size ⟨RA, rn, rc⟩ c.regs) := hr.under hb
   clear hb hblk hno
   go_wp2_with fail
   go_loopw [35] (fun iv wr => ∃ i : Nat, iv = .int .i64 i ∧ i ≤ rn ∧ Below w.heap.size w wr ∧ Below wo.heap.size wo wr ∧ Hid (∀ q ∈ c.regs.take i, (q.nm == Vert.text) = false)) (fun iv _ => rn - (intOf iv).toNat)
   case atStart => exact ⟨0, rfl, Nat.zero_le _, HB.out, Below.refl _ _, fun q hq => by simp at hq⟩
   case round =>
    obtain ⟨i, rfl, hi, hbx, hby, hnk⟩ := hrel
    by_cases hik : i < rn
    ·obtain ⟨gk, ok, ⟨KA, kn, kc⟩, hk', hRA, hgk, -, p0, p1, p2, p3⟩ := (hr.under hbx).at_ (k := i) hik
     dsimp only at hRA p3
     subst hRA
     obtain ⟨p, hp⟩ : ∃ p, c.regs[i] = p := ⟨_, rfl⟩
     rw [hp] at p0 p1 p2
     have hi0 : (0 : Int) ≤ (i : Int) := by omega
     have hi1 : (i : Int) < (rn : Int) := by omega
     have hw4 : IntKind.i64.wrap ((i : Int) + 1) = ((i + 1 : Nat) : Int) := by rw [IntWalk.i64_in _ (by omega)]; omega
     have HPA : Hid (Below w.heap.size w (wr.alloc (.cells #[str p.nm, .int .i64 p.b, .int .i64 p.e, .slice KA kn kc] 69))) := hbx.alloc hbx.size _
     have HPB : Hid (Below wo.heap.size wo (wr.alloc (.cells #[str p.nm, .int .i64 p.b, .int .i64 p.e, .slice KA kn kc] 69))) := hby.alloc hby.size _
     by_cases hid : p.nm = [116, 101, 120, 116]
     ·have HF : Hid (fmtErr c = 4) := by
       show _ = _
       rw [fmtErr_none HNO.out, if_pos]
       rw [List.any_eq_true]
       exact ⟨p, by rw [← hp]; exact List.getElem_mem hk', by rw [beq_iff_eq]; exact hid⟩
      have he : (p.nm == [116, 101, 120, 116]) = true := by rw [beq_iff_eq]; exact hid
      clear hid hp hbx hby
      go_wp2
      go_ret
      exact ⟨by rw [HF.out]; rfl, HPA.out⟩
     ·have he : (p.nm == [116, 101, 120, 116]) = false := by rw [beq_eq_false_iff_ne]; exact hid
      have HNK : Hid (∀ q ∈ c.regs.take (i + 1), (q.nm == Vert.text) = false) := fun q hq => by
       rw [List.take_succ_eq_append_getElem hk', hp] at hq
       rcases List.mem_append.1 hq with hq | hq
       ·exact hnk.out q hq
       ·simp only [List.mem_singleton] at hq; subst hq; exact he
      clear hid hp hbx hby
      go_wp2
      go_roundw
      case rel => exact ⟨i + 1, by go_num, by omega, HPA.out, HPB.out, HNK⟩
      case measure => (simp [intOf] <;> omega)
    ·have HF : Hid (fmtErr c = 0) := by
      show _ = _
      rw [fmtErr_none HNO.out, if_neg]
      rw [Bool.not_eq_true, List.any_eq_false]
      intro q hq
      have := hnk.out q (by rw [List.take_of_length_le (by omega)]; exact hq)
      simp [this]
     have HBX := Lib.hid hbx
     clear hbx hby
     go_wp2
     go_ret
     exact ⟨by rw [HF.out]; rfl, HBX.out⟩
end Go.Proofs.YtgkdaebiefhgdaaGreatDoor
