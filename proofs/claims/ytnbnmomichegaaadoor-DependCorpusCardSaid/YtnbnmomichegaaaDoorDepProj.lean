/-
  The contracts of depend.Projective and the reference's: a bool that says whether the heads are projective. Condition: the list's length is an int.
-/
import Derived.Test.YtnbnmomichegaaaDoorDepNum
namespace Go.Proofs.YtnbnmomichegaaaDoor
open Go.RowKit Dep

namespace Dep
/-- Each token strictly between a token and its head is a descendant of the head. -/
def Btw (h : Hs) (d x : Nat) : Prop := ∀ p : Nat, nx h (d : Nat) = (p : Nat) → min d p < x → x < max d p → (p : Int) ∈ way h (nx h (x : Nat))
def Proj (h : Hs) : Prop := Dep.Good h ∧ ∀ d x, d < h.length → x < h.length → Btw h d x
theorem btw_neg {h : Hs} {d x : Nat} (hn : nx h (d : Nat) < 0) : Btw h d x := fun p hp => by omega
theorem btw_out {h : Hs} {d x p : Nat} (hp : nx h (d : Nat) = (p : Nat)) (hx : ¬ (min d p < x ∧ x < max d p)) : Btw h d x := fun q hq h1 h2 => by
  obtain rfl : q = p := by omega
  exact absurd ⟨h1, h2⟩ hx
theorem btw_yes {h : Hs} {d x p : Nat} (hp : nx h (d : Nat) = (p : Nat)) (hx : (p : Int) ∈ way h (nx h (x : Nat))) : Btw h d x := fun q hq h1 h2 => by
  obtain rfl : q = p := by omega
  exact hx
theorem head_ne {h : Hs} (hg : Dep.Good h) {d p : Nat} (hd : d < h.length) (e : nx h (d : Nat) = (p : Nat)) : d ≠ p := by
  rintro rfl; exact hg.none d hd ⟨by omega, 0, e⟩
end Dep

/-- What Projective hands back. -/
def Prjd (h : Hs) (w : World) (e : Ending) (w' : World) : Prop := ∃ b : Bool, e = .returned (.bool b) ∧ (b = true ↔ Proj h) ∧ Below w.heap.size w w'
theorem prjd_no {h : Hs} {w w' : World} (hn : ¬ Proj h) (hb : Below w.heap.size w w') : Prjd h w (.returned (.bool false)) w' := ⟨false, rfl, ⟨(fun e => by cases e), fun e => absurd e hn⟩, hb⟩
theorem prjd_yes {h : Hs} {w w' : World} (hn : Proj h) (hb : Below w.heap.size w w') : Prjd h w (.returned (.bool true)) w' := ⟨true, rfl, ⟨fun _ => hn, fun _ => rfl⟩, hb⟩

set_option maxRecDepth 100000 in
set_option maxHeartbeats 4000000 in
theorem projective_any (A : Option Addr) (n c : Nat) (h : Hs) (w : World) (hn : n ≤ 9223372036854775807) (hsl : Sl w w.heap.size 1 A n (ints h)) :
    Calls Tryd.prog 21 #[.slice A n c] w (Prjd h w) := by
  have hl := hsl.ilen
  go_enter Tryd.func21, Tryd.ntmps21
  go_wp2_with fail
  refine (depCheck_any A n c h _ hn hsl).mono ?_
  rintro e w1 ⟨rfl, hb1⟩
  by_cases h0 : (chk h).2 = 0
  · have E : (((chk h).2 : Int) != 0) = false := by rw [h0]; rfl
    have hg := chk_zero.1 h0
    have HG := Lib.hid hg
    have hn4 : n ≤ 4096 := by have := hg.len; omega
    have HL := Lib.hid hl
    have hln : h.length ≤ n ∧ n ≤ h.length := by omega
    clear hg hl h0
    go_wp2_with fail
    refine (numbers_any A n c h _ HG.out ((hsl.under hb1).up hb1.size)).mono ?_
    rintro e w2 ⟨gF, gL, f, l, rfl, hfl, hat, hlast, hbF, hbL, hb2⟩
    have hB2 := hb1.trans (hb2.mono hb1.size)
    have hll := hlast.len
    have HNT : Hid (∀ x g (hx : x < f.length) (hg : g < f.length) (hg' : g < l.length), (f[g] < f[x] ∧ f[x] ≤ l[g]) ↔ (g : Int) ∈ way h (nx h (x : Nat))) := fun x g hx hg hg' => numbers_tell HG.out hfl hat hlast (by omega) (by omega)
    have HFL := Lib.hid hfl
    have HLL := Lib.hid hll
    clear hat hlast hfl hll
    go_wp2
    go_loopw [24] (fun iv wr => ∃ k q : Nat, k ≤ n ∧ iv = .int .i64 k ∧ wr = w2.drewN q ∧ Hid (∀ d x, d < k → x < h.length → Btw h d x)) (fun iv _ => n - (intOf iv).toNat)
    case atStart => exact ⟨0, 0, by omega, rfl, rfl, fun d x hd => by omega⟩
    case round =>
      obtain ⟨k, q, hk, rfl, rfl, hbt⟩ := hrel
      by_cases hlt : k < n
      · obtain ⟨g, o, hk', rfl, hgl, c0⟩ := (hsl.under hB2).int hlt
        have hnx : Hid (nx h (k : Nat) = h[k]) := nx_at hk'
        have hok := HG.out.ok _ (List.getElem_mem hk')
        obtain ⟨x, hx⟩ : ∃ x, h[k] = x := ⟨_, rfl⟩
        rw [hx] at c0 hnx hok
        have hx1 := hok.1
        have hx2 : x < n := by omega
        clear hx hok
        by_cases hx0 : x < 0
        · have HB : Hid (∀ d x, d < k + 1 → x < h.length → Btw h d x) := fun d y hd hy => by
            by_cases e : d = k
            · subst e; exact btw_neg (by rw [hnx.out]; exact hx0)
            · exact hbt.out d y (by omega) hy
          go_wp2
          go_roundw
          case rel => exact ⟨k + 1, q, by omega, by go_num, rfl, HB⟩
          case measure => simp [intOf]; omega
        · obtain ⟨p, rfl⟩ : ∃ p : Nat, x = p := ⟨x.toNat, by omega⟩
          have hpn : p < n := by omega
          have hkp : k ≠ p := head_ne HG.out (by omega) hnx.out
          have cFp := hbF.nat (show p < f.length by rw [HFL.out]; omega)
          have cLp := hbL.nat (show p < l.length by rw [HLL.out]; omega)
          obtain ⟨fp, hfp⟩ : ∃ a, f[p]'(by rw [HFL.out]; omega) = a := ⟨_, rfl⟩
          obtain ⟨lp, hlp⟩ : ∃ a, l[p]'(by rw [HLL.out]; omega) = a := ⟨_, rfl⟩
          rw [hfp] at cFp
          rw [hlp] at cLp
          have HFP := Lib.hid hfp
          have HLP := Lib.hid hlp
          clear hfp hlp
          rcases Nat.lt_or_gt_of_ne hkp with hc | hc
          · have hc1 : (k : Int) < p := by omega
            go_wp2
            go_loopw [9] (fun xv wr => ∃ x q2 : Nat, k + 1 ≤ x ∧ x ≤ p ∧ xv = .int .i64 x ∧ wr = w2.drewN q2 ∧ Hid (∀ y, k + 1 ≤ y → y < x → (p : Int) ∈ way h (nx h (y : Nat)))) (fun xv _ => p - (intOf xv).toNat)
            case atStart => exact ⟨k + 1, q, by omega, by omega, by go_num, rfl, fun y h1 h2 => by omega⟩
            case round =>
              obtain ⟨x, q2, hxl, hxh, rfl, rfl, hall⟩ := hrel
              by_cases hxlt : x < p
              · have hxn : x < n := by omega
                have cFx := hbF.nat (show x < f.length by rw [HFL.out]; omega)
                have hT := HNT.out x p (by rw [HFL.out]; omega) (by rw [HFL.out]; omega) (by rw [HLL.out]; omega)
                rw [HFP.out, HLP.out] at hT
                have hbad : Hid (¬ (p : Int) ∈ way h (nx h (x : Nat)) → ¬ Proj h) := fun hno hp => hno (hp.2 k x (by omega) (by omega) p hnx.out (by omega) (by omega))
                obtain ⟨fx, hfx⟩ : ∃ a, f[x]'(by rw [HFL.out]; omega) = a := ⟨_, rfl⟩
                rw [hfx] at cFx hT
                have HT := Lib.hid hT
                have bx0 : (0 : Int) ≤ (x : Int) := by omega
                have bx1 : (x : Int) < (n : Int) := by omega
                have bp0 : (0 : Int) ≤ (p : Int) := by omega
                have bp1 : (p : Int) < (n : Int) := by omega
                clear hfx hT
                by_cases h1 : fx ≤ fp
                · have HN := Lib.hid (hbad.out (fun hm => by have := HT.out.2 hm; omega))
                  have d1 : decide ((fx : Int) ≤ fp) = true := by simp; omega
                  go_wp2
                  go_quiet (fail)
                  go_wp2
                  go_ret
                  exact prjd_no HN.out (below_drewN (below_drewN hB2 _) _)
                · have d1 : decide ((fx : Int) ≤ fp) = false := by simp; omega
                  by_cases h2 : lp < fx
                  · have HN := Lib.hid (hbad.out (fun hm => by have := HT.out.2 hm; omega))
                    have d2 : decide ((lp : Int) < fx) = true := by simp; omega
                    go_wp2
                    go_quiet (fail)
                    go_wp2
                    go_ret
                    exact prjd_no HN.out (below_drewN (below_drewN hB2 _) _)
                  · have hm := Lib.hid (HT.out.1 ⟨by omega, by omega⟩)
                    have d2 : decide ((lp : Int) < fx) = false := by simp; omega
                    have HALL : Hid (∀ y, k + 1 ≤ y → y < x + 1 → (p : Int) ∈ way h (nx h (y : Nat))) := fun y hy1 hy2 => by
                      by_cases e : y = x
                      · subst e; exact hm.out
                      · exact hall.out y hy1 (by omega)
                    go_wp2
                    go_quiet (fail)
                    go_wp2
                    go_roundw
                    case rel => exact ⟨x + 1, _, by omega, by omega, by go_num, rfl, HALL⟩
                    case measure => simp [intOf]; omega
              · have HB : Hid (∀ d x, d < k + 1 → x < h.length → Btw h d x) := fun d y hd hy => by
                  by_cases e : d = k
                  · subst e
                    by_cases hbt2 : min d p < y ∧ y < max d p
                    · exact btw_yes hnx.out (hall.out y (by omega) (by omega))
                    · exact btw_out hnx.out hbt2
                  · exact hbt.out d y (by omega) hy
                go_wp2
                go_roundw
                case rel => exact ⟨k + 1, q2, by omega, by go_num, rfl, HB⟩
                case measure => simp [intOf]; omega
          · have hc1 : (p : Int) < k := by omega
            go_wp2
            go_loopw [9] (fun xv wr => ∃ x q2 : Nat, p + 1 ≤ x ∧ x ≤ k ∧ xv = .int .i64 x ∧ wr = w2.drewN q2 ∧ Hid (∀ y, p + 1 ≤ y → y < x → (p : Int) ∈ way h (nx h (y : Nat)))) (fun xv _ => k - (intOf xv).toNat)
            case atStart => exact ⟨p + 1, q, by omega, by omega, by go_num, rfl, fun y h1 h2 => by omega⟩
            case round =>
              obtain ⟨x, q2, hxl, hxh, rfl, rfl, hall⟩ := hrel
              by_cases hxlt : x < k
              · have hxn : x < n := by omega
                have cFx := hbF.nat (show x < f.length by rw [HFL.out]; omega)
                have hT := HNT.out x p (by rw [HFL.out]; omega) (by rw [HFL.out]; omega) (by rw [HLL.out]; omega)
                rw [HFP.out, HLP.out] at hT
                have hbad : Hid (¬ (p : Int) ∈ way h (nx h (x : Nat)) → ¬ Proj h) := fun hno hp => hno (hp.2 k x (by omega) (by omega) p hnx.out (by omega) (by omega))
                obtain ⟨fx, hfx⟩ : ∃ a, f[x]'(by rw [HFL.out]; omega) = a := ⟨_, rfl⟩
                rw [hfx] at cFx hT
                have HT := Lib.hid hT
                have bx0 : (0 : Int) ≤ (x : Int) := by omega
                have bx1 : (x : Int) < (n : Int) := by omega
                have bp0 : (0 : Int) ≤ (p : Int) := by omega
                have bp1 : (p : Int) < (n : Int) := by omega
                clear hfx hT
                by_cases h1 : fx ≤ fp
                · have HN := Lib.hid (hbad.out (fun hm => by have := HT.out.2 hm; omega))
                  have d1 : decide ((fx : Int) ≤ fp) = true := by simp; omega
                  go_wp2
                  go_quiet (fail)
                  go_wp2
                  go_ret
                  exact prjd_no HN.out (below_drewN (below_drewN hB2 _) _)
                · have d1 : decide ((fx : Int) ≤ fp) = false := by simp; omega
                  by_cases h2 : lp < fx
                  · have HN := Lib.hid (hbad.out (fun hm => by have := HT.out.2 hm; omega))
                    have d2 : decide ((lp : Int) < fx) = true := by simp; omega
                    go_wp2
                    go_quiet (fail)
                    go_wp2
                    go_ret
                    exact prjd_no HN.out (below_drewN (below_drewN hB2 _) _)
                  · have hm := Lib.hid (HT.out.1 ⟨by omega, by omega⟩)
                    have d2 : decide ((lp : Int) < fx) = false := by simp; omega
                    have HALL : Hid (∀ y, p + 1 ≤ y → y < x + 1 → (p : Int) ∈ way h (nx h (y : Nat))) := fun y hy1 hy2 => by
                      by_cases e : y = x
                      · subst e; exact hm.out
                      · exact hall.out y hy1 (by omega)
                    go_wp2
                    go_quiet (fail)
                    go_wp2
                    go_roundw
                    case rel => exact ⟨x + 1, _, by omega, by omega, by go_num, rfl, HALL⟩
                    case measure => simp [intOf]; omega
              · have HB : Hid (∀ d x, d < k + 1 → x < h.length → Btw h d x) := fun d y hd hy => by
                  by_cases e : d = k
                  · subst e
                    by_cases hbt2 : min d p < y ∧ y < max d p
                    · exact btw_yes hnx.out (hall.out y (by omega) (by omega))
                    · exact btw_out hnx.out hbt2
                  · exact hbt.out d y (by omega) hy
                go_wp2
                go_roundw
                case rel => exact ⟨k + 1, q2, by omega, by go_num, rfl, HB⟩
                case measure => simp [intOf]; omega
      · have HP : Hid (Proj h) := ⟨HG.out, fun d x hd hx => hbt.out d x (by omega) hx⟩
        go_wp2
        go_ret
        exact prjd_yes HP.out (below_drewN hB2 _)
  · have E : (((chk h).2 : Int) != 0) = true := by rw [bne_iff_ne]; omega
    have HN : Hid (¬ Proj h) := fun hp => h0 (chk_zero.2 hp.1)
    clear h0 hl
    go_wp2
    go_ret
    exact prjd_no HN.out hb1
end Go.Proofs.YtnbnmomichegaaaDoor
