/-
  The contract of depend.Check: the least faulty index and its error. Condition: the list's length is an int.
-/
import Derived.Test.YtnbnmomichegaaaDoorBase6
import Derived.Deep.LoopGhost
import Derived.BigQuiet
import Derived.Deep.QuietTactic
namespace Go.Proofs.YtnbnmomichegaaaDoor
open Go.RowKit Dep

/-- What Check hands back. -/
def Chked (h : Hs) (w : World) (e : Ending) (w' : World) : Prop := e = .returned (.tuple #[.int .i64 ((chk h).1 : Nat), .int .i64 ((chk h).2 : Nat)]) ∧ Below w.heap.size w w'
theorem chked_ret {h : Hs} {w w' : World} {a b : Nat} (e : chk h = (a, b)) (hb : Below w.heap.size w w') {en : Ending} (he : en = .returned (.tuple #[.int .i64 (a : Nat), .int .i64 (b : Nat)])) : Chked h w en w' := by
  unfold Chked; rw [e]; exact ⟨he, hb⟩
theorem nz_pos {s : Int} (h : s ≠ 0) : (s == 0) = false := by rw [beq_eq_false_iff_ne]; exact h

set_option maxRecDepth 100000 in
set_option maxHeartbeats 4000000 in
theorem depCheck_any (A : Option Addr) (n c : Nat) (h : Hs) (w : World) (hn : n ≤ 9223372036854775807) (hsl : Sl w w.heap.size 1 A n (ints h)) :
    Calls Tryd.prog 13 #[.slice A n c] w (Chked h w) := by
  have hl := hsl.ilen
  obtain ⟨i0, hi0, hz0, hz1, hz2⟩ := info_parts info_int
  by_cases hlong : 4096 < n
  · have HC := Lib.hid (chk_long (h := h) (by omega))
    clear hl
    go_enter Tryd.func13, Tryd.ntmps13
    go_wp2
    go_ret2
    exact chked_ret HC.out (Below.refl _ _) rfl
  · have HL := Lib.hid hl
    have hln : h.length ≤ n ∧ n ≤ h.length := by omega
    clear hl
    go_enter Tryd.func13, Tryd.ntmps13
    go_wp2
    go_loop [17] (fun iv => ∃ k : Nat, k ≤ n ∧ iv = .int .i64 k ∧ Hid (∀ j (hj : j < h.length), j < k → bad h.length h[j] = false)) (fun iv => n - (intOf iv).toNat)
    case atStart => exact ⟨0, Nat.zero_le _, rfl, fun j hj h => by omega⟩
    case round =>
      obtain ⟨k, hk, rfl, hlo⟩ := hrel
      by_cases hlt : k < n
      · obtain ⟨g, o, hk', rfl, hg, c0⟩ := hsl.int hlt
        have hstep : Hid (bad h.length h[k] = false → ∀ j (hj : j < h.length), j < k + 1 → bad h.length h[j] = false) := fun hb j hj hjk => by
          by_cases e : j = k
          · subst e; exact hb
          · exact hlo.out j hj (by omega)
        have hbad : Hid (bad h.length h[k] = true → chk h = (k, 8)) := fun hb => chk_bad (by omega) hk' hb (fun j hj => hlo.out j (by omega) hj)
        obtain ⟨x, hx⟩ : ∃ x, h[k] = x := ⟨_, rfl⟩
        rw [hx] at c0 hstep hbad
        clear hx hlo
        by_cases hx1 : x < -1
        · have HB := Lib.hid (hbad.out (by unfold bad; simp [hx1]))
          go_wp2
          go_ret2
          exact chked_ret HB.out (Below.refl _ _) rfl
        · by_cases hx2 : (n : Int) ≤ x
          · have HB := Lib.hid (hbad.out (by unfold bad; simp; omega))
            go_wp2
            go_ret2
            exact chked_ret HB.out (Below.refl _ _) rfl
          · have HB := Lib.hid (hstep.out (by unfold bad; simp; omega))
            go_wp2
            go_round
            case rel => exact ⟨k + 1, by omega, by go_num, HB⟩
            case measure => simp [intOf]; omega
      · have ho : Ok h := ok_all fun j hj => hlo.out j hj (by omega)
        have HO := Lib.hid ho
        clear ho hlo
        go_wp2_with (at_make; refine wpList_make_full _ rfl (.tmp 33) (.tmp 33) 22 rfl w.heap.size 3 i0 _ 1 Tryd.underlying22 hi0 hz0 hz1 _ _ _ _ n rfl rfl rfl rfl ?c1 ?c2 ?c3 ?_)
        case c1 => omega
        case c2 => simp [maxLen]; omega
        intro w1 own1 gr1
        rw [toList_madeCells_one] at own1
        have hB1 : Below w.heap.size w w1 := (Below.refl _ _).grown gr1 (Nat.le_refl _) (fun k hk => by cases hk)
        have hb1 : Blk w1 w.heap.size 3 (ints (List.replicate h.length 0)).toArray := by rw [ints_replicate, HL.out]; exact made_blk own1
        clear own1 gr1
        have HI0 := Lib.hid (inv_start h)
        go_wp2
        go_loopw [37, 7] (fun iv lv wr => ∃ (i : Nat) (seen : List Int) (least : Int), i ≤ n ∧ iv = .int .i64 i ∧ lv = .int .i64 least ∧ -1 ≤ least ∧ Hid (Inv h i seen least) ∧ Below w.heap.size w wr ∧ Blk wr w.heap.size 3 (ints seen).toArray) (fun iv _ _ => n - (intOf iv).toNat)
        case atStart => exact ⟨0, _, -1, Nat.zero_le _, rfl, rfl, by omega, HI0, hB1, hb1⟩
        case round =>
          obtain ⟨i, seen, least, hi, rfl, rfl, hleast, hinv, hB, hb⟩ := hrel
          obtain ⟨wo, rfl⟩ : ∃ wo : World, wo = wr := ⟨_, rfl⟩
          by_cases hlt : i < n
          · have hs0 : Hid (seen.length = h.length) := hinv.out.len
            go_wp2
            go_loopg [9] (n + 1) (fun gk av wr => ∃ (k : Nat) (x : Int) (sn : List Int), gk + k = n + 1 ∧ av = .int .i64 x ∧ -1 ≤ x ∧ x < n ∧ Hid (up h k (i : Nat) = x) ∧ Hid (Inn h i k seen sn) ∧ Below w.heap.size w wr ∧ Blk wr w.heap.size 3 (ints sn).toArray)
            case atStart => exact ⟨0, (i : Nat), seen, by omega, rfl, by omega, by omega, rfl, inn_start h i seen, hB, hb⟩
            case round =>
              obtain ⟨k, x, sn, hgk, rfl, hx1, hx2, hup, hinn, hB2, hb2⟩ := hrel
              obtain ⟨wx, rfl⟩ : ∃ wx : World, wx = wr := ⟨_, rfl⟩
              have hkn : k ≤ n := by have := inn_le HO.out hinn.out (by omega); omega
              have hsn : Hid (sn.length = h.length) := hinn.out.len.trans hs0.out
              by_cases hx0 : 0 ≤ x
              · obtain ⟨a, rfl⟩ : ∃ a : Nat, x = a := ⟨x.toNat, by omega⟩
                have ha : a < sn.length := by rw [hsn.out]; omega
                obtain ⟨g, o, ha', rfl, hg, c0⟩ := (hsl.under hB2).int (show a < n by omega)
                have c1 := hb2.iat ha
                have c2 := hb2.free a
                have hinnz := fun hz => Lib.hid (inn_step hinn.out hup.out ha hz)
                have hold := fun h0 h1 => Lib.hid (inn_old hinv.out hinn.out hup.out ha h0 h1)
                have hon := fun h1 => Lib.hid (inn_on hinv.out hinn.out hup.out ha h1)
                have hcyc := fun q v h1 hq0 hq hv => Lib.hid (inn_cyc (q := q) (v := v) hinv.out hinn.out hup.out ha h1 hq0 hq hv)
                have hnext : Hid (up h (k + 1) (i : Nat) = h[a] ∧ -1 ≤ h[a] ∧ h[a] < h.length) := by
                  refine ⟨?_, HO.out _ (List.getElem_mem ha')⟩
                  rw [up_succ, hup.out, nx_at ha']
                obtain ⟨hv, hhv⟩ : ∃ hv, h[a] = hv := ⟨_, rfl⟩
                rw [hhv] at c0 hnext
                have Hhv := Lib.hid hhv
                clear hhv
                obtain ⟨s, hs⟩ : ∃ s, sn[a] = s := ⟨_, rfl⟩
                rw [hs] at c1 hold hon hcyc
                have HHold := Lib.hid hold
                have HHon := Lib.hid hon
                have HHcyc := Lib.hid hcyc
                have HHz := Lib.hid hinnz
                have Hs := Lib.hid hs
                clear hs hold hon hcyc hinnz
                by_cases hs0' : s = 0
                · subst hs0'
                  have HN := Lib.hid (HHz.out Hs.out).out
                  have hbn := hb2.seti a ((i : Int) + 1)
                  have hBn := hB2.setCell (p := ⟨w.heap.size, a, none⟩) (Nat.le_refl _) (.int .i64 ((i : Int) + 1))
                  have c0n : (wx.setCell ⟨w.heap.size, a, none⟩ (.int .i64 ((i : Int) + 1))).cell? ⟨g, o + a, none⟩ = some (.int .i64 hv) := (World.cell?_of_block (Below.heap_setCell _ _ _ _ (by show g ≠ w.heap.size; omega))).trans c0
                  have hh1 := hnext.out.2.1
                  have hh2 := hnext.out.2.2
                  go_wp2
                  go_roundg (n - k)
                  case measure => omega
                  case rel => exact ⟨k + 1, hv, _, by omega, rfl, by omega, by omega, hnext.out.1, HN, hBn, hbn⟩
                · have hsz := nz_pos hs0'
                  by_cases hs1 : s = (i : Int) + 1
                  · have hse : (s != (i : Int) + 1) = false := by rw [hs1]; simp
                    obtain ⟨m0, hm0, -, hq⟩ := (HHon.out hs1).out
                    obtain ⟨q, hqle, ⟨hq0, hq1⟩, hqmin⟩ := ex_least (p := fun q => 0 < q ∧ up h q (a : Nat) = (a : Nat)) (n := k - m0) ⟨by omega, hq⟩
                    have HQ := Lib.hid hq1
                    have HQM := Lib.hid hqmin
                    have HS1 := Lib.hid hs1
                    have HNZ := Lib.hid hs0'
                    clear hq hq1 hqmin hs1 hs0' hm0 hqle
                    have hst : Hid (Lst (fun y => (Cyc h y ∧ R h i y) ∨ ∃ s, s < 0 ∧ up h s (a : Nat) = y) least) := hinv.out.lst.congr fun y => ⟨.inl, fun hy => by rcases hy with hy | ⟨s, hs, _⟩; exact hy; omega⟩
                    go_wp2
                    go_loopg [10, 11, 7] (q + 1) (fun gk xv fv lv wr => ∃ (t : Nat) (x v : Int) (fb : Bool), gk + t = q + 1 ∧ t ≤ q ∧ xv = .int .i64 x ∧ fv = .bool fb ∧ Hid (fb = decide (t = 0)) ∧ lv = .int .i64 v ∧ -1 ≤ v ∧ Hid (up h t (a : Nat) = x) ∧ Hid (Lst (fun y => (Cyc h y ∧ R h i y) ∨ ∃ s, s < t ∧ up h s (a : Nat) = y) v) ∧ wr = wx)
                    case atStart => exact ⟨0, (a : Nat), least, true, by omega, by omega, rfl, rfl, rfl, rfl, hleast, rfl, hst, rfl⟩
                    case round =>
                      obtain ⟨t, x, v, fb, hgt, htq, rfl, rfl, hfb, rfl, hv1, hupx, hlst, rfl⟩ := hrel
                      by_cases htlt : t < q
                      · have hx0 : 0 ≤ x := by
                          have hca : Cyc h (a : Nat) := ⟨by omega, q - 1, by rw [show q - 1 + 1 = q by omega]; exact HQ.out⟩
                          have := (cyc_step hca t).1
                          rw [hupx.out] at this; exact this
                        have hxn : x < n := by
                          have h2 := (up_ok HO.out t (a : Nat) (by omega) (by omega)).2
                          rw [hupx.out] at h2; omega
                        obtain ⟨b, rfl⟩ : ∃ b : Nat, x = b := ⟨x.toNat, by omega⟩
                        obtain ⟨g3, o3, hb', hA3, hg3, c3⟩ := (hsl.under hB2).int (show b < n by omega)
                        cases hA3
                        have hne : fb = false → ((b : Int) != a) = true := by
                          intro hf
                          rw [bne_iff_ne]
                          intro e
                          have h0 : t ≠ 0 := by intro e2; rw [hfb.out, e2] at hf; cases hf
                          exact HQM.out t htlt ⟨by omega, by rw [hupx.out]; exact e⟩
                        have hadd := Lib.hid ((Lst.add hlst.out (x := (b : Nat)) (by omega)).congr (T := fun y => (Cyc h y ∧ R h i y) ∨ ∃ s, s < t + 1 ∧ up h s (a : Nat) = y) fun y => by
                          constructor
                          · rintro ((h1 | ⟨s, hs, e⟩) | e)
                            · exact .inl h1
                            · exact .inr ⟨s, by omega, e⟩
                            · exact .inr ⟨t, by omega, by rw [hupx.out, e]⟩
                          · rintro (h1 | ⟨s, hs, e⟩)
                            · exact .inl (.inl h1)
                            · by_cases e2 : s = t
                              · subst e2; right; rw [← e, hupx.out]
                              · exact .inl (.inr ⟨s, by omega, e⟩))
                        have hupn : Hid (up h (t + 1) (a : Nat) = h[b]) := by show _ = _; rw [up_succ, hupx.out, nx_at hb']
                        obtain ⟨hw, hhw⟩ : ∃ hw, h[b] = hw := ⟨_, rfl⟩
                        rw [hhw] at c3 hupn
                        have Hfb := Lib.hid hfb
                        clear hhw hfb
                        by_cases hvv : v < 0 ∨ (b : Int) < v
                        · have HA2 : Hid (Lst (fun y => (Cyc h y ∧ R h i y) ∨ ∃ s, s < t + 1 ∧ up h s (a : Nat) = y) (b : Nat)) := by have := hadd.out; rw [if_pos hvv] at this; exact this
                          cases fb with
                          | true =>
                            by_cases hv0 : v < 0
                            · clear hvv
                              go_wp2
                              go_roundg (q - t)
                              case measure => omega
                              case rel => exact ⟨t + 1, hw, _, false, by omega, by omega, rfl, rfl, rfl, rfl, by omega, hupn, HA2, rfl⟩
                            · have hv3 : (b : Int) < v := by omega
                              clear hvv
                              go_wp2
                              go_roundg (q - t)
                              case measure => omega
                              case rel => exact ⟨t + 1, hw, _, false, by omega, by omega, rfl, rfl, rfl, rfl, by omega, hupn, HA2, rfl⟩
                          | false =>
                            have hne2 := hne rfl
                            clear hne
                            by_cases hv0 : v < 0
                            · clear hvv
                              go_wp2
                              go_roundg (q - t)
                              case measure => omega
                              case rel => exact ⟨t + 1, hw, _, false, by omega, by omega, rfl, rfl, rfl, rfl, by omega, hupn, HA2, rfl⟩
                            · have hv3 : (b : Int) < v := by omega
                              clear hvv
                              go_wp2
                              go_roundg (q - t)
                              case measure => omega
                              case rel => exact ⟨t + 1, hw, _, false, by omega, by omega, rfl, rfl, rfl, rfl, by omega, hupn, HA2, rfl⟩
                        · have HA2 : Hid (Lst (fun y => (Cyc h y ∧ R h i y) ∨ ∃ s, s < t + 1 ∧ up h s (a : Nat) = y) v) := by have := hadd.out; rw [if_neg hvv] at this; exact this
                          have hv0 : ¬ v < 0 := by omega
                          have hv3 : ¬ (b : Int) < v := by omega
                          clear hvv
                          cases fb with
                          | true =>
                            go_wp2
                            go_roundg (q - t)
                            case measure => omega
                            case rel => exact ⟨t + 1, hw, _, false, by omega, by omega, rfl, rfl, rfl, rfl, by omega, hupn, HA2, rfl⟩
                          | false =>
                            have hne2 := hne rfl
                            clear hne
                            go_wp2
                            go_roundg (q - t)
                            case measure => omega
                            case rel => exact ⟨t + 1, hw, _, false, by omega, by omega, rfl, rfl, rfl, rfl, by omega, hupn, HA2, rfl⟩
                      · obtain rfl : t = q := by omega
                        have hf : fb = false := by rw [hfb.out]; simp; omega
                        subst hf
                        have hx : x = (a : Nat) := by rw [← hupx.out, HQ.out]
                        subst hx
                        have hne2 : ((a : Int) != a) = false := by simp
                        have HI := Lib.hid (HHcyc.out t v HS1.out hq0 HQ.out hlst.out).out
                        clear hfb
                        go_wp2
                        go_roundw
                        case rel => exact ⟨i + 1, _, v, by omega, by go_num, rfl, hv1, HI, hB2, hb2⟩
                        case measure => simp [intOf]; omega
                  · have hse : (s != (i : Int) + 1) = true := by rw [bne_iff_ne]; exact hs1
                    have HI := Lib.hid (HHold.out hs0' hs1).out
                    clear hs1 hs0'
                    go_wp2
                    go_roundw
                    case rel => exact ⟨i + 1, _, least, by omega, by go_num, rfl, hleast, HI, hB2, hb2⟩
                    case measure => simp [intOf]; omega
              · have hneg : Hid (Inv h (i + 1) sn least) := inn_neg hinv.out hinn.out (by rw [hup.out]; omega)
                go_wp2
                go_roundw
                case rel => exact ⟨i + 1, _, least, by omega, by go_num, rfl, hleast, hneg, hB2, hb2⟩
                case measure => simp [intOf]; omega
          · have hin : i = n := by omega
            obtain ⟨hyes, hno⟩ := inv_done (h := h) (by omega) HO.out (seen := seen) (least := least) (by have := hinv.out; rwa [show i = h.length by omega] at this)
            by_cases h0 : 0 ≤ least
            · have HC := Lib.hid (hyes h0)
              obtain ⟨m, rfl⟩ : ∃ m : Nat, least = m := ⟨least.toNat, by omega⟩
              clear hyes hno hin
              go_wp2
              go_ret2
              exact chked_ret HC.out hB rfl
            · have HC := Lib.hid (hno (by omega))
              clear hyes hno hin
              go_wp2
              go_ret2
              exact chked_ret HC.out hB rfl
end Go.Proofs.YtnbnmomichegaaaDoor
