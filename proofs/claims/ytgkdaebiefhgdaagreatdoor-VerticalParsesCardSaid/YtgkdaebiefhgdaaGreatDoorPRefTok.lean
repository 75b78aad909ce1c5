/-
 The contract of the reference's reader: a token line. Conditions: the state is one of a reading without an error, the line lies in the text.
-/
import Derived.Test.YtgkdaebiefhgdaaGreatDoorPRefEnd
import Derived.Test.YtgkdaebiefhgdaaGreatDoorPVertLn
import Derived.Test.YtgkdaebiefhgdaaGreatDoorPMarkRefUn
namespace Go.Proofs.YtgkdaebiefhgdaaGreatDoor
set_option linter.unusedSimpArgs false
set_option linter.unusedVariables false
open Go.RowKit Utf
open Feat (Bs)
open Tagp (KV)
open Vert (splitT fields)
attribute [local go_sem] byte_mk ByteArray.extract_mk
theorem splitT_scan {s : Bs} : ∀ (n p q : Nat), q - p = n → p ≤ q → q ≤ s.length → (∀ x, p ≤ x → x < q → s[x]? ≠ some 9) → (q = s.length ∨ s[q]? = some 9) → splitT (s.drop p) = (s.drop p).take (q - p) :: (if q < s.length then splitT (s.drop (q + 1)) else [])
 | 0, p, q, hn, h1, h2, h3, h4 => by
  obtain rfl : p = q := by omega
  rw [Nat.sub_self, List.take_zero]
  rcases h4 with h4 | h4
  ·rw [if_neg (by omega), List.drop_eq_nil_of_le (by omega)]; rfl
  ·obtain ⟨hl, e⟩ := List.getElem?_eq_some_iff.1 h4
   rw [if_pos hl, List.drop_eq_getElem_cons hl, e]
   rw [splitT, if_pos rfl]
 | n + 1, p, q, hn, h1, h2, h3, h4 => by
  have hl : p < s.length := by omega
  have ih := splitT_scan n (p + 1) q (by omega) (by omega) h2 (fun x hx => h3 x (by omega)) h4
  have hne : s[p] ≠ 9 := fun e => h3 p (Nat.le_refl _) (by omega) (by rw [List.getElem?_eq_getElem hl, e])
  rw [List.drop_eq_getElem_cons hl, splitT, if_neg hne, ih]
  dsimp only
  have e : q - p = (q - (p + 1)) + 1 := by omega
  rw [e, List.take_succ_cons]
section
variable {w w1 : World} {B g : Nat} {h : RfH} {d : Bs} {ats : List At} {y : Rf}
theorem OwnF.push_t {L : List KH} (k : OwnF w B g h d ats y) (hL : L.map Prod.fst = y.toks) (ho : w.ownsRow B 28 1 h.t.v h.t.n (L.flatMap tkV)) (hW : ∀ z ∈ L, OwnW w B z.2 z.1) {z : Hd} {s : List Bs} (hz : OwnW w B z s)
  {A' : Option Addr} {n' c' : Nat} (own' : w1.ownsRow B 28 1 (.slice A' n' c') n' (L.flatMap tkV ++ [z.v])) (gr : w.grownBy w1 h.t.v.ownBlock) (hok : y.toks.length < 4096) :
  OwnF (w1.setCell ⟨g, 2, none⟩ (.slice A' n' c')) B g { h with t := ⟨A', n', c'⟩ } d ats { y with toks := y.toks ++ [s] } := by
 have f1 := Off.grown ho gr
 have b1 := k.blk.off f1 (by decide)
 have f2 := Off.set_ b1 2 (.slice A' n' c')
 exact ⟨b1.set_ 2 _, k.bg, (k.a.off f1 (by decide)).off f2 (by decide), ⟨L ++ [(s, z)], by simp [hL], by simpa [tkV] using own_off own' f2 (by decide), fun u hu => by
   rcases List.mem_append.1 hu with hu | hu
   ·exact ((hW u hu).off f1 (by decide)).off f2 (by decide)
   ·simp at hu; subst hu; exact (hz.off f1 (by decide)).off f2 (by decide)⟩,
  (k.x.off f1 (by decide) (by decide)).off f2 (by decide) (by decide), (k.r.off f1 (by decide) (by decide)).off f2 (by decide) (by decide), (k.o.off f1 (by decide)).off f2 (by decide), ⟨by show (y.toks ++ [_]).length ≤ 4096; simp; omega, k.ok.x, k.ok.r, k.ok.o, k.ok.ks⟩⟩
end
theorem tok_bad {ats : List (Bs × Bool)} {y : Rf} {a : Nat} {s : Bs} {p k : Nat} (htx : y.tx = true) (h4 : ¬ 4096 ≤ y.toks.length) (h : fields ats (splitT s) 0 [] = .error (p, k)) : Rf.fTok ats y a s = y.fail (a + p) k := by
 unfold Rf.fTok
 rw [if_neg (by rw [htx]; simp), if_neg h4, h]
theorem tok_fine {ats : List (Bs × Bool)} {y : Rf} {a : Nat} {s : Bs} {vs : List Bs} (htx : y.tx = true) (h4 : ¬ 4096 ≤ y.toks.length) (h : fields ats (splitT s) 0 [] = .ok vs) : Rf.fTok ats y a s = { (if vs.length < ats.length then y.fail (a + s.length) 15 else y) with toks := y.toks ++ [vs] } := by
 unfold Rf.fTok
 rw [if_neg (by rw [htx]; simp), if_neg h4, h]

set_option maxRecDepth 100000 in
set_option maxHeartbeats 8000000 in
theorem rtoken_any (B g : Nat) (h : RfH) (d : Bs) (ats : List At) (y : Rf) (pre s post : Bs) (a b : Nat) (w : World) (k : OwnF w B g h d ats y) (he : y.e = 0) (hd : d = pre ++ (s ++ post)) (ha : pre.length = a) (hb : a + s.length = b) (hdl : d.length ≤ 1048576) (hats : ats.length ≤ 8) :
  Calls Tryz.prog 27 #[.pointer (some ⟨g, 0, none⟩), .int .i64 (a : Nat), .int .i64 (b : Nat)] w (StepF B g d ats w (Rf.fTok ats y a s)) := by
 obtain ⟨⟨Aa, na, ca⟩, ⟨At', nt, ct⟩, ⟨Ax, nx, cx⟩, ⟨Ar, nr, cr⟩, ⟨Ao, no, co⟩⟩ := h
 obtain ⟨i0, hi0, hz0, hz1, hz2⟩ := info_parts info_string
 obtain ⟨i1, hi1, hy0, hy1, hy2⟩ := info_parts info_slsV
 have hBg := k.Bg
 have ht : y.toks.length = nt := k.t.reads.len
 have hna : ats.length = na := k.a.reads.len
 have kt := k.ok.t
 have hal : na ≤ 8 := by omega
 have hbd : b ≤ d.length := by rw [hd]; simp; omega
 have HAT : Hid (∀ x, a ≤ x → x < b → d[x]? = s[x - a]?) := fun x h1 h2 => by
  rw [hd, List.getElem?_append_right (by omega), ha, List.getElem?_append_left (by omega)]
 have HSUB : Hid (∀ P Q, a ≤ P → P ≤ Q → Q ≤ b → (d.drop P).take (Q - P) = (s.drop (P - a)).take (Q - P)) := fun P Q h1 h2 h3 => by
  rw [hd, List.drop_append, List.drop_eq_nil_of_le (by omega), List.nil_append, ha, List.drop_append_of_le_length (by omega), List.take_append_of_le_length (by rw [List.length_drop]; omega)]
 have c9 : w.cell? ⟨g, 9, none⟩ = some (.bool y.tx) := k.blk.cell 9
 have c2 : w.cell? ⟨g, 2, none⟩ = some (Value.slice At' nt ct) := k.blk.cell 2
 have HK := Lib.hid k
 clear k hd
 by_cases htx : y.tx = false
 ·have HF : Hid (Rf.fTok ats y a s = y.fail a 17) := by show _ = _; unfold Rf.fTok; rw [if_pos htx]
  have HC := Lib.hid (rfail_any a 17 w HK.out.blk)
  rw [htx] at c9
  clear htx
  go_enter Tryz.func27, Tryz.ntmps27
  go_wp2_with fail
  refine HC.out.mono ?_
  rintro en w1 ⟨rfl, rfl⟩
  go_wp2
  go_end0
  rw [HF.out]
  exact ⟨rfl, failW_below (Below.refl _ _) HK.out.bg _ _ _, _, HK.out.fail a 17⟩
 ·have htx1 : y.tx = true := by simpa using htx
  rw [htx1] at c9
  have HTX := Lib.hid htx1
  by_cases h4 : 4096 ≤ nt
  ·have HF : Hid (Rf.fTok ats y a s = y.fail a 2) := by show _ = _; unfold Rf.fTok; rw [if_neg htx, if_pos (by omega)]
   have HC := Lib.hid (rfail_any a 2 w HK.out.blk)
   clear htx htx1
   go_enter Tryz.func27, Tryz.ntmps27
   go_wp2_with fail
   refine HC.out.mono ?_
   rintro en w1 ⟨rfl, rfl⟩
   go_wp2
   go_end0
   rw [HF.out]
   exact ⟨rfl, failW_below (Below.refl _ _) HK.out.bg _ _ _, _, HK.out.fail a 2⟩
  ·have H4 : Hid (¬ 4096 ≤ y.toks.length) := by show ¬ _; omega
   clear htx htx1
   go_enter Tryz.func27, Tryz.ntmps27
   go_wp2
   clear c9 c2
   go_loopw [6, 7] (fun tv av wr => ∃ (P : Nat) (vs : List Bs) (Av : Option Addr) (cv : Nat), av = .int .i64 (P : Nat) ∧ a ≤ P ∧ P ≤ b ∧ tv = .slice Av vs.length cv ∧ Hid (wr.ownsRow w.heap.size 9 1 (.slice Av vs.length cv) vs.length (strs vs)) ∧ Below w.heap.size w wr ∧
     Hid (fields ats (splitT s) 0 [] = fields ats (splitT (s.drop (P - a))) (P - a) vs) ∧ Hid (∀ x ∈ vs, Len x) ∧ vs.length ≤ na) (fun _ av _ => b + 1 - (intOf av).toNat)
   case atStart => exact ⟨a, [], none, 0, rfl, Nat.le_refl _, by omega, rfl, World.ownsRow_nil _ _ _ _, Below.refl _ _, by show _ = _; rw [Nat.sub_self, List.drop_zero], fun x hx => by simp at hx, Nat.zero_le _⟩
   case round =>
    obtain ⟨P, vs, Av, cv, rfl, hP1, hP2, rfl, hown, hbw, hfl, hlen, hvl⟩ := hrel
    obtain ⟨wo, rfl⟩ : ∃ wo : World, wo = wr := ⟨_, rfl⟩
    have HKR := Lib.hid (HK.out.below hbw)
    have c11 : wo.cell? ⟨g, 11, none⟩ = some (.int .i64 (y.e : Nat)) := HKR.out.blk.cell 11
    rw [he] at c11
    have c0 : wo.cell? ⟨g, 0, none⟩ = some (str d) := HKR.out.blk.cell 0
    have HBW := Lib.hid hbw
    obtain ⟨vn, hvn⟩ : ∃ vn, vs.length = vn := ⟨_, rfl⟩
    rw [hvn] at hown hvl ⊢
    clear hbw
    go_wp2
    clear c11
    go_loopw [8] (fun qv wr => ∃ Q : Nat, P ≤ Q ∧ Q ≤ b ∧ qv = .int .i64 (Q : Nat) ∧ Hid (∀ x, P ≤ x → x < Q → d[x]? ≠ some 9) ∧ wr = wo) (fun qv _ => b - (intOf qv).toNat)
    case atStart => exact ⟨P, Nat.le_refl _, hP2, rfl, fun x h1 h2 => absurd h2 (by omega), rfl⟩
    case round =>
     obtain ⟨Q, hQ1, hQ2, rfl, hno, rfl⟩ := hrel
     have hQd : Q ≤ d.length := by omega
     have hgo : (Q < b ∧ d[Q]? ≠ some 9) ∨ (Q = b ∨ d[Q]? = some 9) := by
      by_cases h1 : Q = b
      ·exact .inr (.inl h1)
      ·by_cases h2 : d[Q]? = some 9
       ·exact .inr (.inr h2)
       ·exact .inl ⟨by omega, h2⟩
     rcases hgo with ⟨hQb, hQ9⟩ | hstop
     ·have hQl : Q < d.length := by omega
      obtain ⟨c, hc⟩ : ∃ c, d[Q] = c := ⟨_, rfl⟩
      have hcn : c ≠ 9 := fun e => hQ9 (by rw [List.getElem?_eq_getElem hQl, hc, e])
      have hce : ((c.toNat : Int) == 9) = false := by
       rw [beq_eq_false_iff_ne]
       intro e
       exact hcn (UInt8.toNat_inj.1 (by have : (9 : UInt8).toNat = 9 := rfl; omega))
      have HNO : Hid (∀ x, P ≤ x → x < Q + 1 → d[x]? ≠ some 9) := fun x h1 h2 => by
       by_cases e : x = Q
       ·subst e; exact hQ9
       ·exact hno.out x h1 (by omega)
      have hwQ : IntKind.i64.wrap ((Q : Int) + 1) = ((Q + 1 : Nat) : Int) := by rw [IntWalk.i64_in _ (by omega)]; omega
      have hQi : (Q : Int) < (b : Int) := by omega
      clear hQ9 hcn
      go_wp2
      go_roundw
      case rel => exact ⟨Q + 1, by omega, by omega, by go_num, HNO, (by first | rfl | trivial)⟩
      case measure => simp [intOf]; omega
     ·have hscan := splitT_scan (s := s) (Q - P) (P - a) (Q - a) (by omega) (by omega) (by omega) (fun x h1 h2 => by
       rw [show x = (x + a) - a by omega, ← HAT.out (x + a) (by omega) (by omega)]
       exact hno.out (x + a) (by omega) (by omega)) (by
       rcases hstop with h1 | h1
       ·left; omega
       ·by_cases h2 : Q = b
        ·left; omega
        ·right; rw [← HAT.out Q (by omega) (by omega)]; exact h1)
      obtain ⟨raw, hraw⟩ : ∃ raw, (s.drop (P - a)).take (Q - P) = raw := ⟨_, rfl⟩
      have hqp : Q - a - (P - a) = Q - P := by omega
      rw [hqp, hraw] at hscan
      have hrl : raw.length = Q - P := by rw [← hraw, List.length_take, List.length_drop]; omega
      have hSL : ∀ W, (Instr.slice 9 (str d) (some (.int .i64 ((P : Nat) : Int))) (some (.int .i64 ((Q : Nat) : Int))) none).run Tryz.prog W = .ok (str raw) W := fun W => by
       rw [str_mid 9 (by kernel_rfl) d P Q hQ1 hQd W, HSUB.out P Q hP1 hQ1 hQ2, hraw]
      have HFL : Hid (fields ats (splitT s) 0 [] = fields ats (raw :: (if Q - a < s.length then splitT (s.drop (Q - a + 1)) else [])) (P - a) vs) := by show _ = _; rw [hfl.out, hscan]
      have HST := Lib.hid hstop
      have hf9 : Q < b → ∃ hx : Q < d.length, d[Q] = 9 := fun hx => by
       rcases hstop with h1 | h1
       ·omega
       ·exact List.getElem?_eq_some_iff.1 h1
      clear hscan hstop hno hraw hqp
      have c1 : wr.cell? ⟨g, 1, none⟩ = some (Value.slice Aa na ca) := HKR.out.blk.cell 1
      have hul := unesc_len raw
      obtain ⟨u1, u2, u3, hu⟩ : ∃ u1 u2 u3, Tagp.unesc raw = (u1, u2, u3) := ⟨_, _, _, rfl⟩
      have HU := Lib.hid (refUnescape_any raw (by omega) wr)
      unfold Une at HU
      rw [hu] at HU hul
      dsimp only at HU hul
      have Hu := Lib.hid hu
      clear hu
      by_cases hQb : Q < b
      ·obtain ⟨hQl, hc9⟩ := hf9 hQb
       have hQi : (Q : Int) < (b : Int) := by omega
       have hce : (((9 : UInt8).toNat : Int) == 9) = true := rfl
       clear hf9
       by_cases hfull : na ≤ vn
       ·have HR : Hid (Rf.fTok ats y a s = y.fail P 15) := by
         show _ = _
         rw [tok_bad (p := P - a) (k := 15) HTX.out H4.out (by rw [HFL.out, fields_many (by omega)])]
         congr 1; omega
        have HC := Lib.hid (rfail_any (P) 15 wr HKR.out.blk)
        go_wp2_with fail
        refine HC.out.mono ?_
        rintro en wz ⟨rfl, rfl⟩
        go_wp2
        go_end0
        rw [HR.out]
        exact ⟨rfl, failW_below (HBW.out.mono hBg) HK.out.bg _ _ _, _, HKR.out.fail (P) 15⟩
       ·have hv : vs.length < ats.length := by omega
        have hvi : (vn : Int) < (na : Int) := by omega
        go_wp2_with fail
        refine HU.out.mono ?_
        rintro en w3 ⟨hb3, rfl⟩
        have HB3 := Lib.hid (HBW.out.trans (hb3.mono HBW.out.size))
        have HK3 := Lib.hid (HKR.out.below hb3)
        have HO3 := Lib.hid (own_below hown.out hb3)
        clear hb3 HU c0 c1
        by_cases hu3 : u3 = 0
        ·have e3 : ((u3 : Int) == 0) = true := by rw [hu3]; rfl
         obtain ⟨ga, oa, hka, hAa, -, hla, ca0, ca1⟩ := HK3.out.a.reads.at_ (k := vn) (by show vn < na; omega)
         dsimp only at hAa
         subst hAa
         obtain ⟨⟨ax, ab⟩, hax⟩ : ∃ x, ats[vn] = x := ⟨_, rfl⟩
         simp only [hax] at ca0 ca1 hla
         have HAX : Hid (ats[vs.length]'hv = (ax, ab)) := by show _ = _; simp only [hvn]; exact hax
         have c1 : w3.cell? ⟨g, 1, none⟩ = some (Value.slice (some ⟨ga, oa, none⟩) na ca) := HK3.out.blk.cell 1
         have HV := Lib.hid (refValue1_any (ax, ab) u1 (by omega) w3)
         obtain ⟨ve, hve⟩ : ∃ v, Cor.vlErr (ax, ab) u1 = v := ⟨_, rfl⟩
         rw [hve] at HV
         have Hve := Lib.hid hve
         clear hve hax hla
         have HU3 := Lib.hid hu3
         clear hu3
         go_wp2_with fail
         refine HV.out.mono ?_
         rintro en w4 ⟨rfl, hb4⟩
         have HB4 := Lib.hid (HB3.out.trans (hb4.mono HB3.out.size))
         have HK4 := Lib.hid (HK3.out.below hb4)
         have ho4 := own_below HO3.out hb4
         clear hb4 HB3 HK3 HO3 HV c1 ca0 ca1
         by_cases hv0 : ve = 0
         ·have e4 : ((ve : Int) == 0) = true := by rw [hv0]; rfl
          have HSTP : Hid (fields ats (splitT s) 0 [] = fields ats (splitT (s.drop (Q + 1 - a))) (Q + 1 - a) (vs ++ [u1])) := by
           show _ = _
           rw [HFL.out, if_pos (by omega), fields_step hv (by rw [Hu.out]; exact HU3.out) (by rw [HAX.out, Hu.out]; exact Hve.out.trans hv0), Hu.out]
           rw [show Q - a + 1 = Q + 1 - a by omega, show P - a + raw.length + 1 = Q + 1 - a by omega]
          have hob := ho4.alloc (.cells #[str u1] 9)
          clear ho4 hv0
          have HLE : Hid (∀ x ∈ vs ++ [u1], Len x) := by
           show ∀ x ∈ vs ++ [u1], Len x
           intro x hx
           rcases List.mem_append.1 hx with hx | hx
           ·exact hlen.out x hx
           ·simp at hx; subst hx; show _ ≤ _; omega
          go_wp2_with (at_builtin; refine wpList_append_own_at _ rfl (.tmp 101) (.tmp 103) _ rfl w.heap.size 9 i0 _ 1 16 Tryz.underlying28 hi0 hz0 hz1 hz2 rfl (by decide) _ _ _ rfl hob ⟨_, 0, none⟩ 1 1 [str u1] rfl rfl ?lb1 ?lb2 ?lb3 ?lb4 ?lb5 ?_)
          try (case lb1 => first | (intro q u hq; cases q with
             | zero => simp only [List.getElem?_cons_zero, Option.some.injEq] at hq; subst hq; exact (Blk.new w4 9 #[str u1]).cell 0
             | succ q => simp at hq) | trivial)
          try (case lb2 => first | rfl | (intro u hu; simp only [List.mem_singleton] at hu; subst hu; rfl))
          try (case lb3 => first | omega | (simp [maxLen]; omega))
          try (case lb4 => omega)
          try (case lb5 => first | exact Nat.le_trans HB4.out.size (by simp) | (simp; omega))
          intro v6 w6 own6 gr6 _ hob6
          obtain ⟨A6, c6, rfl, -, -⟩ := own_slc own6
          have hba := HB4.out.alloc HB4.out.size (.cells #[str u1] 9)
          have hgw : Below w.heap.size w w6 := hba.grown gr6 hba.size (fun q hq => (hob.lt q hq).1)
          have HB6 := Lib.hid hgw
          have HK6 := Lib.hid (HK.out.below hgw)
          rw [← strs_snoc] at own6
          have HO6 := Lib.hid own6
          clear own6 gr6 hob6 hob hba hgw HB4 HK4
          have hwq : IntKind.i64.wrap ((Q : Int) + 1) = ((Q + 1 : Nat) : Int) := by rw [IntWalk.i64_in _ (by omega)]; omega
          have hQb2 : (Q : Int) < (b : Int) := by omega
          go_wp2
          go_roundw
          case rel =>
           refine ⟨Q + 1, vs ++ [u1], A6, c6, by go_num, by omega, by omega, by simp [hvn], ?_, HB6.out, HSTP, HLE, by simp; omega⟩
           show World.ownsRow _ _ _ _ _ _ _
           have h := HO6.out
           simpa [hvn] using h
          case measure => simp [intOf]; omega
         ·have e4 : ((ve : Int) == 0) = false := by rw [beq_eq_false_iff_ne]; omega
          have HR : Hid (Rf.fTok ats y a s = y.fail P ve) := by
           show _ = _
           rw [tok_bad (p := P - a) (k := ve) HTX.out H4.out (by rw [HFL.out, fields_val hv (by rw [Hu.out]; exact HU3.out) (by rw [HAX.out, Hu.out]; dsimp only; rw [Hve.out]; exact hv0), HAX.out, Hu.out]; dsimp only; rw [Hve.out])]
           congr 1; omega
          have HC := Lib.hid (rfail_any (P) ve w4 HK4.out.blk)
          go_wp2_with fail
          refine HC.out.mono ?_
          rintro en wz ⟨rfl, rfl⟩
          go_wp2
          go_end0
          rw [HR.out]
          exact ⟨rfl, failW_below (HB4.out.mono hBg) HK.out.bg _ _ _, _, HK4.out.fail (P) ve⟩
        ·have e3 : ((u3 : Int) == 0) = false := by rw [beq_eq_false_iff_ne]; omega
         have HR : Hid (Rf.fTok ats y a s = y.fail (P + u2) u3) := by
          show _ = _
          rw [tok_bad (p := P - a + u2) (k := u3) HTX.out H4.out (by rw [HFL.out, fields_une hv (by rw [Hu.out]; exact hu3), Hu.out])]
          congr 1; omega
         have hw1 : IntKind.i64.wrap ((P : Int) + (u2 : Int)) = ((P + u2 : Nat) : Int) := by rw [IntWalk.i64_in _ (by omega)]; omega
         have HC := Lib.hid (rfail_any (P + u2) u3 w3 HK3.out.blk)
         go_wp2_with fail
         refine HC.out.mono ?_
         rintro en wz ⟨rfl, rfl⟩
         go_wp2
         go_end0
         rw [HR.out]
         exact ⟨rfl, failW_below (HB3.out.mono hBg) HK.out.bg _ _ _, _, HK3.out.fail (P + u2) u3⟩
      ·obtain rfl : Q = b := by omega
       clear hf9
       by_cases hfull : na ≤ vn
       ·have HR : Hid (Rf.fTok ats y a s = y.fail P 15) := by
         show _ = _
         rw [tok_bad (p := P - a) (k := 15) HTX.out H4.out (by rw [HFL.out, fields_many (by omega)])]
         congr 1; omega
        have HC := Lib.hid (rfail_any (P) 15 wr HKR.out.blk)
        go_wp2_with fail
        refine HC.out.mono ?_
        rintro en wz ⟨rfl, rfl⟩
        go_wp2
        go_end0
        rw [HR.out]
        exact ⟨rfl, failW_below (HBW.out.mono hBg) HK.out.bg _ _ _, _, HKR.out.fail (P) 15⟩
       ·have hv : vs.length < ats.length := by omega
        have hvi : (vn : Int) < (na : Int) := by omega
        go_wp2_with fail
        refine HU.out.mono ?_
        rintro en w3 ⟨hb3, rfl⟩
        have HB3 := Lib.hid (HBW.out.trans (hb3.mono HBW.out.size))
        have HK3 := Lib.hid (HKR.out.below hb3)
        have HO3 := Lib.hid (own_below hown.out hb3)
        clear hb3 HU c0 c1
        by_cases hu3 : u3 = 0
        ·have e3 : ((u3 : Int) == 0) = true := by rw [hu3]; rfl
         obtain ⟨ga, oa, hka, hAa, -, hla, ca0, ca1⟩ := HK3.out.a.reads.at_ (k := vn) (by show vn < na; omega)
         dsimp only at hAa
         subst hAa
         obtain ⟨⟨ax, ab⟩, hax⟩ : ∃ x, ats[vn] = x := ⟨_, rfl⟩
         simp only [hax] at ca0 ca1 hla
         have HAX : Hid (ats[vs.length]'hv = (ax, ab)) := by show _ = _; simp only [hvn]; exact hax
         have c1 : w3.cell? ⟨g, 1, none⟩ = some (Value.slice (some ⟨ga, oa, none⟩) na ca) := HK3.out.blk.cell 1
         have HV := Lib.hid (refValue1_any (ax, ab) u1 (by omega) w3)
         obtain ⟨ve, hve⟩ : ∃ v, Cor.vlErr (ax, ab) u1 = v := ⟨_, rfl⟩
         rw [hve] at HV
         have Hve := Lib.hid hve
         clear hve hax hla
         have HU3 := Lib.hid hu3
         clear hu3
         go_wp2_with fail
         refine HV.out.mono ?_
         rintro en w4 ⟨rfl, hb4⟩
         have HB4 := Lib.hid (HB3.out.trans (hb4.mono HB3.out.size))
         have HK4 := Lib.hid (HK3.out.below hb4)
         have ho4 := own_below HO3.out hb4
         clear hb4 HB3 HK3 HO3 HV c1 ca0 ca1
         by_cases hv0 : ve = 0
         ·have e4 : ((ve : Int) == 0) = true := by rw [hv0]; rfl
          have HEND : Hid (fields ats (splitT s) 0 [] = .ok (vs ++ [u1])) := by
           show _ = _
           rw [HFL.out, if_neg (by omega), fields_step hv (by rw [Hu.out]; exact HU3.out) (by rw [HAX.out, Hu.out]; exact Hve.out.trans hv0), Hu.out]
           unfold fields; rfl
          have hob := ho4.alloc (.cells #[str u1] 9)
          clear ho4 hv0
          have HLE : Hid (∀ x ∈ vs ++ [u1], Len x) := by
           show ∀ x ∈ vs ++ [u1], Len x
           intro x hx
           rcases List.mem_append.1 hx with hx | hx
           ·exact hlen.out x hx
           ·simp at hx; subst hx; show _ ≤ _; omega
          go_wp2_with (at_builtin; refine wpList_append_own_at _ rfl (.tmp 101) (.tmp 103) _ rfl w.heap.size 9 i0 _ 1 16 Tryz.underlying28 hi0 hz0 hz1 hz2 rfl (by decide) _ _ _ rfl hob ⟨_, 0, none⟩ 1 1 [str u1] rfl rfl ?la1 ?la2 ?la3 ?la4 ?la5 ?_)
          try (case la1 => first | (intro q u hq; cases q with
             | zero => simp only [List.getElem?_cons_zero, Option.some.injEq] at hq; subst hq; exact (Blk.new w4 9 #[str u1]).cell 0
             | succ q => simp at hq) | trivial)
          try (case la2 => first | rfl | (intro u hu; simp only [List.mem_singleton] at hu; subst hu; rfl))
          try (case la3 => first | omega | (simp [maxLen]; omega))
          try (case la4 => omega)
          try (case la5 => first | exact Nat.le_trans HB4.out.size (by simp) | (simp; omega))
          intro v6 w6 own6 gr6 _ hob6
          obtain ⟨A6, c6, rfl, -, -⟩ := own_slc own6
          have hba := HB4.out.alloc HB4.out.size (.cells #[str u1] 9)
          have hgw : Below w.heap.size w w6 := hba.grown gr6 hba.size (fun q hq => (hob.lt q hq).1)
          have HB6 := Lib.hid hgw
          have HK6 := Lib.hid (HK.out.below hgw)
          rw [← strs_snoc] at own6
          have HO6 := Lib.hid own6
          clear own6 gr6 hob6 hob hba hgw HB4 HK4
          by_cases hfew : vn + 1 < na
          ·have hfi : (vn : Int) + 1 < (na : Int) := by omega
           have HR : Hid (Rf.fTok ats y a s = { (y.fail Q 15) with toks := (y.fail Q 15).toks ++ [vs ++ [u1]] }) := by
            show _ = _
            rw [tok_fine HTX.out H4.out HEND.out, if_pos (by simp; omega), hb, (fail_same y Q 15).1]
           have c1 : w6.cell? ⟨g, 1, none⟩ = some (Value.slice (some ⟨ga, oa, none⟩) na ca) := HK6.out.blk.cell 1
           have HC := Lib.hid (rfail_any Q 15 w6 HK6.out.blk)
           go_wp2_with fail
           refine HC.out.mono ?_
           rintro en wz ⟨rfl, rfl⟩
           clear c1
           have HO := Lib.hid (failW_off HK6.out.blk y Q 15)
           have HK9 := Lib.hid (HK6.out.fail Q 15)
           have HB9 := Lib.hid (failW_below (HB6.out.mono hBg) HK.out.bg y Q 15)
           have HO9 := Lib.hid (own_off HO6.out HO.out (by decide))
           generalize failW w6 g y Q 15 = w9 at HK9 HB9 HO9 ⊢
           clear HC HO HK6 HB6 HO6
           have c2 : w9.cell? ⟨g, 2, none⟩ = some (Value.slice At' nt ct) := HK9.out.blk.cell 2
           have kx := HK9.out.alloc (.cells #[.slice A6 (vn + 1) c6] 28)
           obtain ⟨L, hL, hoL, hWL⟩ := kx.t
           have HY : Hid (OwnW (w9.alloc (.cells #[.slice A6 (vn + 1) c6] 28)) B ⟨A6, vn + 1, c6⟩ (vs ++ [u1])) := ⟨own_below (own_base HO9.out hBg) ((Below.refl _ _).alloc (Nat.le_refl _) _), HLE.out⟩
           have hBr : B ≤ w9.heap.size := HK9.out.Bg
           have HB7 := Lib.hid (HB9.out.alloc hBr (.cells #[.slice A6 (vn + 1) c6] 28))
           have KX := Lib.hid kx
           dsimp only at hoL
           have HOL := Lib.hid hoL
           have HWL := Lib.hid hWL
           clear kx hWL
           go_wp2_with (at_builtin; refine wpList_append_own_at _ rfl (.tmp 127) (.tmp 129) _ rfl B 28 i1 _ 1 24 Tryz.underlying23 hi1 hy0 hy1 hy2 rfl (by decide) _ _ _ rfl hoL ⟨_, 0, none⟩ 1 1 [.slice A6 (vn + 1) c6] rfl rfl ?bb1 ?bb2 ?bb3 ?bb4 ?bb5 ?_)
           try (case bb1 => first | (intro q u hq; cases q with
              | zero => simp only [List.getElem?_cons_zero, Option.some.injEq] at hq; subst hq; exact (Blk.new w9 28 #[.slice A6 (vn + 1) c6]).cell 0
              | succ q => simp at hq) | trivial)
           try (case bb2 => first | rfl | (intro u hu; simp only [List.mem_singleton] at hu; subst hu; rfl))
           try (case bb3 => first | omega | (simp [maxLen]; omega))
           try (case bb4 => omega)
           try (case bb5 => first | omega | (simp; omega))
           intro v7 w7 own7 gr7 _ hob7
           obtain ⟨A7, c7, rfl, -, -⟩ := own_slc own7
           have E7 := KX.out.push_t hL HOL.out HWL.out HY.out own7 gr7 (by have := H4.out; rw [(fail_same y Q 15).1]; omega)
           have k7 := KX.out.blk.off (Off.grown HOL.out gr7) (by decide)
           have x2 : _ = some (Value.slice At' nt ct) := k7.cell 2
           have xf := k7.free 2
           have HE7 := Lib.hid E7
           have HB8 := Lib.hid ((HB7.out.grown gr7 (Nat.le_trans hBr (by simp)) (fun j hj => (HOL.out.lt j hj).1)).setCell (p := ⟨g, 2, none⟩) HK.out.bg (.slice A7 (nt + 1) c7))
           clear k7 E7 own7 gr7 hob7 hoL hL
           go_wp2
           go_end0
           rw [HR.out]
           exact ⟨rfl, HB8.out, _, HE7.out⟩
          ·have hfi : ¬ (vn : Int) + 1 < (na : Int) := by omega
           have HR : Hid (Rf.fTok ats y a s = { y with toks := y.toks ++ [vs ++ [u1]] }) := by
            show _ = _
            rw [tok_fine HTX.out H4.out HEND.out, if_neg (by simp; omega)]
           have hfb : decide ((vn : Int) + 1 < (na : Int)) = false := by rw [decide_eq_false_iff_not]; exact hfi
           have c1 : w6.cell? ⟨g, 1, none⟩ = some (Value.slice (some ⟨ga, oa, none⟩) na ca) := HK6.out.blk.cell 1
           have HB9 := Lib.hid (HB6.out.mono hBg)
           go_upto_region 23 with (fail)
           clear c1
           have c2 : w6.cell? ⟨g, 2, none⟩ = some (Value.slice At' nt ct) := HK6.out.blk.cell 2
           have kx := HK6.out.alloc (.cells #[.slice A6 (vn + 1) c6] 28)
           obtain ⟨L, hL, hoL, hWL⟩ := kx.t
           have HY : Hid (OwnW (w6.alloc (.cells #[.slice A6 (vn + 1) c6] 28)) B ⟨A6, vn + 1, c6⟩ (vs ++ [u1])) := ⟨own_below (own_base HO6.out hBg) ((Below.refl _ _).alloc (Nat.le_refl _) _), HLE.out⟩
           have hBr : B ≤ w6.heap.size := HK6.out.Bg
           have HB7 := Lib.hid (HB9.out.alloc hBr (.cells #[.slice A6 (vn + 1) c6] 28))
           have KX := Lib.hid kx
           dsimp only at hoL
           have HOL := Lib.hid hoL
           have HWL := Lib.hid hWL
           clear kx hWL
           go_wp2_with (at_builtin; refine wpList_append_own_at _ rfl (.tmp 127) (.tmp 129) _ rfl B 28 i1 _ 1 24 Tryz.underlying23 hi1 hy0 hy1 hy2 rfl (by decide) _ _ _ rfl hoL ⟨_, 0, none⟩ 1 1 [.slice A6 (vn + 1) c6] rfl rfl ?cc1 ?cc2 ?cc3 ?cc4 ?cc5 ?_)
           try (case cc1 => first | (intro q u hq; cases q with
              | zero => simp only [List.getElem?_cons_zero, Option.some.injEq] at hq; subst hq; exact (Blk.new w6 28 #[.slice A6 (vn + 1) c6]).cell 0
              | succ q => simp at hq) | trivial)
           try (case cc2 => first | rfl | (intro u hu; simp only [List.mem_singleton] at hu; subst hu; rfl))
           try (case cc3 => first | omega | (simp [maxLen]; omega))
           try (case cc4 => omega)
           try (case cc5 => first | omega | (simp; omega))
           intro v7 w7 own7 gr7 _ hob7
           obtain ⟨A7, c7, rfl, -, -⟩ := own_slc own7
           have E7 := KX.out.push_t hL HOL.out HWL.out HY.out own7 gr7 (by have := H4.out; omega)
           have k7 := KX.out.blk.off (Off.grown HOL.out gr7) (by decide)
           have x2 : _ = some (Value.slice At' nt ct) := k7.cell 2
           have xf := k7.free 2
           have HE7 := Lib.hid E7
           have HB8 := Lib.hid ((HB7.out.grown gr7 (Nat.le_trans hBr (by simp)) (fun j hj => (HOL.out.lt j hj).1)).setCell (p := ⟨g, 2, none⟩) HK.out.bg (.slice A7 (nt + 1) c7))
           clear k7 E7 own7 gr7 hob7 hoL hL
           go_wp2
           go_end0
           rw [HR.out]
           exact ⟨rfl, HB8.out, _, HE7.out⟩
         ·have e4 : ((ve : Int) == 0) = false := by rw [beq_eq_false_iff_ne]; omega
          have HR : Hid (Rf.fTok ats y a s = y.fail P ve) := by
           show _ = _
           rw [tok_bad (p := P - a) (k := ve) HTX.out H4.out (by rw [HFL.out, fields_val hv (by rw [Hu.out]; exact HU3.out) (by rw [HAX.out, Hu.out]; dsimp only; rw [Hve.out]; exact hv0), HAX.out, Hu.out]; dsimp only; rw [Hve.out])]
           congr 1; omega
          have HC := Lib.hid (rfail_any (P) ve w4 HK4.out.blk)
          go_wp2_with fail
          refine HC.out.mono ?_
          rintro en wz ⟨rfl, rfl⟩
          go_wp2
          go_end0
          rw [HR.out]
          exact ⟨rfl, failW_below (HB4.out.mono hBg) HK.out.bg _ _ _, _, HK4.out.fail (P) ve⟩
        ·have e3 : ((u3 : Int) == 0) = false := by rw [beq_eq_false_iff_ne]; omega
         have HR : Hid (Rf.fTok ats y a s = y.fail (P + u2) u3) := by
          show _ = _
          rw [tok_bad (p := P - a + u2) (k := u3) HTX.out H4.out (by rw [HFL.out, fields_une hv (by rw [Hu.out]; exact hu3), Hu.out])]
          congr 1; omega
         have hw1 : IntKind.i64.wrap ((P : Int) + (u2 : Int)) = ((P + u2 : Nat) : Int) := by rw [IntWalk.i64_in _ (by omega)]; omega
         have HC := Lib.hid (rfail_any (P + u2) u3 w3 HK3.out.blk)
         go_wp2_with fail
         refine HC.out.mono ?_
         rintro en wz ⟨rfl, rfl⟩
         go_wp2
         go_end0
         rw [HR.out]
         exact ⟨rfl, failW_below (HB3.out.mono hBg) HK.out.bg _ _ _, _, HK3.out.fail (P + u2) u3⟩
end Go.Proofs.YtgkdaebiefhgdaaGreatDoor
