/-
  The contract of the program's cycles. Conditions: at most 4096 heads.
-/
import Derived.Test.YtgkdaebiefhgdaaDoorCorNodW
import Derived.Test.YtgkdaebiefhgdaaDoorCorCyc
import Derived.Deep.LoopGhost
namespace Go.Proofs.YtgkdaebiefhgdaaDoor
open Go.RowKit Utf Dep
open Cor (nrm At_ Marks Fresh)

theorem nz_f {s : Int} (h : s ≠ 0) : (s == 0) = false := by rw [beq_eq_false_iff_ne]; exact h
def bools (l : List Bool) : List Value := l.map Value.bool
theorem bools_set (l : List Bool) (i : Nat) (x : Bool) : bools (l.set i x) = (bools l).set i (.bool x) := by simp [bools]
theorem Blk.setb {w : World} {g : Nat} {t : TypeId} {l : List Bool} (h : Blk w g t (bools l).toArray) (i : Nat) (x : Bool) : Blk (w.setCell ⟨g, i, none⟩ (.bool x)) g t (bools (l.set i x)).toArray := by
  have := h.set_ i (.bool x)
  rw [bools_set]
  simpa using this
theorem Blk.bat {w : World} {g : Nat} {t : TypeId} {l : List Bool} (h : Blk w g t (bools l).toArray) {i : Nat} (hi : i < l.length) : w.cell? ⟨g, i, none⟩ = some (.bool l[i]) := (h.cell i).trans (by simp [bools, hi])
theorem info_bool : (Tryd.prog.info? 4).map (fun i => (i.zero, i.size, i.bytes)) = some (some (.bool false), 1, 1) := by kernel_rfl
theorem made_bools (n : Nat) (hn : n ≤ 1048576) (W : World) :
    (Instr.makeSlice 84 (.int .i64 (n : Int)) (.int .i64 (n : Int))).run Tryd.prog W = .ok (.slice (some ⟨W.heap.size, 0, none⟩) n n) (W.alloc (.cells (bools (List.replicate n false)).toArray 4)) := by
  obtain ⟨i0, hi0, hz0, hz1, hz2⟩ := info_parts info_bool
  have hr := run_make (P := Tryd.prog) W 84 4 i0 _ Tryd.underlying84 hi0 hz0 .i64 .i64 n n (by omega) (Int.le_refl _) (by rw [hz2]; omega) (by omega)
  rw [hr, hz1]
  simp only [Int.toNat_natCast, Nat.mul_one]
  have : madeCells (Value.cells (.bool false)) n = (bools (List.replicate n false)).toArray := by
    have e := toList_madeCells_one (.bool false) n
    unfold bools
    rw [List.map_replicate]
    show madeCells #[.bool false] n = (List.replicate n (Value.bool false)).toArray
    rw [← e]
  rw [this]

/-- What cycles hands back: for each token whether it is on a cycle. -/
def Cycled (n : Nat) (h : List Int) (w : World) (e : Ending) (w' : World) : Prop :=
  e = .returned (.slice (some ⟨w.heap.size, 0, none⟩) n n) ∧ Below w.heap.size w w' ∧ Blk w' w.heap.size 4 (bools ((List.range h.length).map fun i => Cor.cyc h i)).toArray

set_option maxRecDepth 100000 in
set_option maxHeartbeats 8000000 in
theorem cycles_any (A : Option Addr) (n c : Nat) (h : List Int) (w : World) (hn : n ≤ 4096) (hx : Nums w w.heap.size ⟨A, n, c⟩ h) :
    Calls Tryd.prog 40 #[.slice A n c] w (Cycled n h w) := by
  have HL := Lib.hid hx.len
  have hnl : h.length ≤ n ∧ n ≤ h.length := by have : h.length = n := hx.len; omega
  have hmkb := made_bools n (by omega)
  have hmki := made_ints n (by omega)
  have hO0 := Blk.new w 4 (bools (List.replicate n false)).toArray
  have hS0 := Blk.new (w.alloc (.cells (bools (List.replicate n false)).toArray 4)) 3 (ints (List.replicate n 0)).toArray
  have hO1 := hO0.alloc (.cells (ints (List.replicate n 0)).toArray 3)
  have hB1 := ((Below.refl w.heap.size w).alloc (Nat.le_refl _) (.cells (bools (List.replicate n false)).toArray 4)).alloc (by simp) (.cells (ints (List.replicate n 0)).toArray 3)
  rw [World.size_alloc] at hS0
  clear hO0
  have HM0 : Hid (Marks (nrm h) 0 (List.replicate n 0) (List.replicate n false)) := by
    have := Cor.marks_start (nrm h)
    rw [Cor.nrm_len, HL.out] at this
    exact this
  go_enter Tryd.func40, Tryd.ntmps40
  go_wp2
  clear hmkb hmki
  go_loopw [16] (fun iv wr => ∃ (i : Nat) (seen : List Int) (out : List Bool), i ≤ n ∧ iv = .int .i64 i ∧ Hid (Marks (nrm h) i seen out) ∧ Below w.heap.size w wr ∧ Blk wr w.heap.size 4 (bools out).toArray ∧ Blk wr (w.heap.size + 1) 3 (ints seen).toArray) (fun iv _ => n - (intOf iv).toNat)
  case atStart => exact ⟨0, _, _, Nat.zero_le _, rfl, HM0, hB1, hO1, hS0⟩
  case round =>
    obtain ⟨i, seen, out, hi, rfl, hm, hB, hO, hS⟩ := hrel
    obtain ⟨wo, rfl⟩ : ∃ wo : World, wo = wr := ⟨_, rfl⟩
    by_cases hlt : i < n
    · have hsl : seen.length ≤ n ∧ n ≤ seen.length := by have := hm.out.len; rw [Cor.nrm_len] at this; omega
      have hol : out.length ≤ n ∧ n ≤ out.length := by have := hm.out.olen; rw [Cor.nrm_len] at this; omega
      go_wp2
      go_loopg [6] (n + 1) (fun gk av wr => ∃ (k : Nat) (v : Int) (sn : List Int), gk + k = n + 1 ∧ av = .int .i64 v ∧ Rng v ∧ Hid (At_ h i k v) ∧ Hid (Inn (nrm h) i k seen sn) ∧ Hid (Fresh (nrm h) i k seen) ∧ Below w.heap.size w wr ∧ Blk wr w.heap.size 4 (bools out).toArray ∧ Blk wr (w.heap.size + 1) 3 (ints sn).toArray)
      case atStart => exact ⟨0, (i : Nat), seen, by omega, rfl, by unfold Rng; omega, Cor.at_start h (by omega), inn_start _ i seen, Cor.fresh_start _ i seen, hB, hO, hS⟩
      case round =>
        obtain ⟨k, v, sn, hgk, rfl, hrv, hat, hinn, hfr, hB2, hO2, hS2⟩ := hrel
        obtain ⟨wx, rfl⟩ : ∃ wx : World, wx = wr := ⟨_, rfl⟩
        have hkn : k ≤ n := by have := inn_le (Cor.nrm_ok h) hinn.out (by rw [Cor.nrm_len]; omega); rw [Cor.nrm_len] at this; omega
        have hsn : sn.length ≤ n ∧ n ≤ sn.length := by have := hinn.out.len; omega
        unfold Rng at hrv
        by_cases hv0 : 0 ≤ v
        · obtain ⟨a, rfl⟩ : ∃ a : Nat, v = a := ⟨v.toNat, by omega⟩
          by_cases han : a < n
          · have hup := Lib.hid (Cor.at_in hat.out (by omega))
            obtain ⟨g, o, ha', e0, hg, hrx, c0⟩ := (hx.under hB2).at_ (k := a) han
            have e0 : A = some ⟨g, o, none⟩ := e0
            subst e0
            have c1 := hS2.iat (i := a) (by omega)
            have c2 := hS2.free a
            have c3 := hO2.bat (i := a) (by omega)
            have c4 := hO2.free a
            have HNX := Lib.hid (Cor.at_step hat.out ha')
            have hasn : a < sn.length := by omega
            have HZ := fun (hz : sn[a] = 0) => inn_step hinn.out hup.out hasn hz
            have HFZ := fun (hz : sn[a] = 0) => Cor.fresh_step hfr.out hinn.out hup.out hasn hz
            have HOLD := fun (h0 : sn[a] ≠ 0) (h1 : sn[a] ≠ (i : Int) + 1) => Cor.marks_old hm.out hinn.out hup.out hasn h0 h1
            have HNEW := fun (h1 : sn[a] = (i : Int) + 1) => Cor.marks_new hm.out hinn.out hfr.out hasn h1
            have HON := fun (h1 : sn[a] = (i : Int) + 1) => let ⟨least, hv⟩ := hm.out.inv; inn_on hv hinn.out hup.out hasn h1
            have HCYC := fun (s t : Nat) (out' : List Bool) (h1 : sn[a] = (i : Int) + 1) (hts : t < s) e hl ho => Cor.marks_cyc (s := s) (t := t) (out' := out') hm.out hinn.out hup.out hasn h1 hts e hl ho
            obtain ⟨z, hz⟩ : ∃ z, sn[a] = z := ⟨_, rfl⟩
            rw [hz] at c1 HZ HFZ HOLD HNEW HON HCYC
            obtain ⟨hv, hhv⟩ : ∃ hv, h[a] = hv := ⟨_, rfl⟩
            rw [hhv] at c0 HNX hrx
            have HZ := Lib.hid HZ
            have HFZ := Lib.hid HFZ
            have HOLD := Lib.hid HOLD
            have HNEW := Lib.hid HNEW
            have HON := Lib.hid HON
            have HCYC := Lib.hid HCYC
            clear hz hhv
            by_cases hz0 : z = 0
            · subst hz0
              have HN := Lib.hid (HZ.out rfl)
              have HFN := Lib.hid (HFZ.out rfl)
              have hSn := hS2.seti a ((i : Int) + 1)
              have hOn := hO2.other (p := ⟨w.heap.size + 1, a, none⟩) (by show w.heap.size + 1 ≠ w.heap.size; omega) (.int .i64 ((i : Int) + 1))
              have hBn := hB2.setCell (p := ⟨w.heap.size + 1, a, none⟩) (by show w.heap.size ≤ w.heap.size + 1; omega) (.int .i64 ((i : Int) + 1))
              have c0n : (wx.setCell ⟨w.heap.size + 1, a, none⟩ (.int .i64 ((i : Int) + 1))).cell? ⟨g, o + a, none⟩ = some (.int .i64 hv) := (World.cell?_of_block (Below.heap_setCell _ _ _ _ (by show g ≠ w.heap.size + 1; omega))).trans c0
              clear HZ HFZ HOLD HNEW HON HCYC
              go_wp2
              go_roundg (n - k)
              case measure => omega
              case rel => exact ⟨k + 1, hv, _, by omega, rfl, hrx, HNX, HN, HFN, hBn, hOn, hSn⟩
            · have hzf := nz_f hz0
              by_cases hz1 : z = (i : Int) + 1
              · have hse : (z != (i : Int) + 1) = false := bne_f hz1
                have HN1 := Lib.hid (HNEW.out hz1)
                have HCA : Hid (Cyc (nrm h) (a : Nat)) := by
                  obtain ⟨m0, hm0, -, hq⟩ := HON.out hz1
                  exact ⟨by omega, k - m0 - 1, by rw [show k - m0 - 1 + 1 = k - m0 by omega]; exact hq⟩
                have HC2 := Lib.hid (fun s t out' hts e hl ho => HCYC.out s t out' hz1 hts e hl ho)
                have hoa : out[a]'(by omega) = false := HN1.out.2 0 a rfl HCA.out (by omega)
                rw [hoa] at c3
                clear HZ HFZ HOLD HNEW HON HCYC hoa hz1 hz0
                go_wp2
                go_loopg [7] (n + 1) (fun gk xv wr => ∃ (s b : Nat) (o2 : List Bool), gk + s = n + 1 ∧ xv = .int .i64 b ∧ b < n ∧ o2.length = out.length ∧ Hid (up (nrm h) s (a : Nat) = (b : Nat)) ∧ Hid (∀ p q, p < q → q < s → up (nrm h) p (a : Nat) ≠ up (nrm h) q (a : Nat)) ∧
                  Hid (∀ x (hx : x < o2.length), o2[x] = true ↔ ((∃ hy : x < out.length, out[x] = true) ∨ ∃ m, m < s ∧ up (nrm h) m (a : Nat) = (x : Nat))) ∧ Below w.heap.size w wr ∧ Blk wr w.heap.size 4 (bools o2).toArray ∧ Blk wr (w.heap.size + 1) 3 (ints sn).toArray)
                case atStart =>
                  refine ⟨0, a, out, by omega, rfl, han, rfl, rfl, fun p q _ hq => by omega, fun x hx => ?_, hB2, hO2, hS2⟩
                  constructor
                  · intro h; exact .inl ⟨hx, h⟩
                  · rintro (⟨_, h⟩ | ⟨m, hm, _⟩)
                    · exact h
                    · omega
                case round =>
                  obtain ⟨s, b, o2, hgs, rfl, hbn, hl2, hups, hdis, hsp, hB3, hO3, hS3⟩ := hrel
                  have hsn2 : s ≤ n := by
                    have := way_bound (Cor.nrm_ok h) (i := (a : Nat)) (by rw [Cor.nrm_len]; omega) (k := s) (fun m _ => (cyc_step HCA.out m).1) hdis.out
                    rw [Cor.nrm_len] at this; omega
                  obtain ⟨g3, o3, hb', hA3, hg3, hr3, c5⟩ := (hx.under hB3).at_ (k := b) hbn
                  cases hA3
                  have d3 := hO3.bat (i := b) (by omega)
                  have d4 := hO3.free b
                  have HSB := Lib.hid (hsp.out b (by omega))
                  have HNXT : Hid (up (nrm h) (s + 1) (a : Nat) = h[b] ∧ 0 ≤ h[b] ∧ h[b] < h.length) := by
                    have h1 := (cyc_step HCA.out (s + 1)).1
                    have h2 : up (nrm h) (s + 1) (a : Nat) = if 0 ≤ h[b] ∧ h[b] < h.length then h[b] else -1 := by rw [up_succ, hups.out, Cor.nrm_at hb']
                    rw [h2] at h1 ⊢
                    by_cases hc : 0 ≤ h[b] ∧ h[b] < h.length
                    · rw [if_pos hc]; exact ⟨rfl, hc⟩
                    · rw [if_neg hc] at h1; omega
                  obtain ⟨z2, hz2⟩ : ∃ z2, h[b] = z2 := ⟨_, rfl⟩
                  rw [hz2] at c5 HNXT
                  have hz0 := HNXT.out.2.1
                  have hz1 := HNXT.out.2.2
                  obtain ⟨b2, rfl⟩ : ∃ b2 : Nat, z2 = b2 := ⟨z2.toNat, by omega⟩
                  clear hz2 hr3
                  obtain ⟨ob, hob⟩ : ∃ ob, o2[b]'(by omega) = ob := ⟨_, rfl⟩
                  rw [hob] at d3 HSB
                  clear hob
                  cases ob with
                  | true =>
                    have HI : Hid (Marks (nrm h) (i + 1) sn o2) := by
                      rcases HSB.out.1 rfl with ⟨hy, ho⟩ | ⟨t, ht, e⟩
                      · have := HN1.out.2 s b hups.out HCA.out hy
                        rw [this] at ho; cases ho
                      · refine HC2.out s t o2 ht (by rw [e, hups.out]) hl2 fun x hx => ?_
                        rw [hsp.out x hx]
                        constructor
                        · rintro (⟨_, h⟩ | h)
                          · exact .inl h
                          · exact .inr h
                        · rintro (h | h)
                          · exact .inl ⟨_, h⟩
                          · exact .inr h
                    clear HSB hsp HNXT hdis
                    go_wp2
                    go_roundw
                    case rel => exact ⟨i + 1, _, _, by omega, by go_num, HI, hB3, hO3, hS3⟩
                    case measure => simp [intOf]; omega
                  | false =>
                    have HD2 : Hid (∀ p q, p < q → q < s + 1 → up (nrm h) p (a : Nat) ≠ up (nrm h) q (a : Nat)) := by
                      intro p q hpq hq
                      by_cases eq : q = s
                      · subst eq
                        intro e
                        have := HSB.out.2 (.inr ⟨p, hpq, by rw [e, hups.out]⟩)
                        cases this
                      · exact hdis.out p q hpq (by omega)
                    have HS2 : Hid (∀ x (hx : x < (o2.set b true).length), (o2.set b true)[x] = true ↔ ((∃ hy : x < out.length, out[x] = true) ∨ ∃ m, m < s + 1 ∧ up (nrm h) m (a : Nat) = (x : Nat))) := by
                      intro x hx
                      by_cases ex : b = x
                      · subst ex
                        simp only [List.getElem_set_self, true_iff]
                        exact .inr ⟨s, by omega, hups.out⟩
                      · rw [List.getElem_set_ne ex, hsp.out x (by simpa using hx)]
                        constructor
                        · rintro (h | ⟨m, hm, e⟩)
                          · exact .inl h
                          · exact .inr ⟨m, by omega, e⟩
                        · rintro (h | ⟨m, hm, e⟩)
                          · exact .inl h
                          · by_cases em : m = s
                            · subst em; rw [hups.out] at e; omega
                            · exact .inr ⟨m, by omega, e⟩
                    have hOn := hO3.setb b true
                    have hSn := hS3.other (p := ⟨w.heap.size, b, none⟩) (by show w.heap.size ≠ w.heap.size + 1; omega) (.bool true)
                    have hBn := hB3.setCell (p := ⟨w.heap.size, b, none⟩) (Nat.le_refl _) (.bool true)
                    have c5n := (World.cell?_of_block (a := ⟨g, o + b, none⟩) (Below.heap_setCell wr ⟨w.heap.size, b, none⟩ (.bool true) g (by show g ≠ w.heap.size; omega))).trans c5
                    have HU := Lib.hid HNXT.out.1
                    clear HSB hsp HNXT hdis hups
                    go_wp2
                    go_roundg (n - s)
                    case measure => omega
                    case rel => exact ⟨s + 1, b2, _, by omega, rfl, by omega, by simp [hl2], HU, HD2, HS2, hBn, hOn, hSn⟩
              · have hse : (z != (i : Int) + 1) = true := bne_t hz1
                have HI := Lib.hid (HOLD.out hz0 hz1)
                clear HZ HFZ HOLD HNEW HON HCYC hz1 hz0
                go_wp2
                go_roundw
                case rel => exact ⟨i + 1, _, _, by omega, by go_num, HI, hB2, hO2, hS2⟩
                case measure => simp [intOf]; omega
          · have HI := Lib.hid (Cor.marks_neg hm.out hinn.out (Cor.at_out hat.out (.inr (by omega))))
            go_wp2
            go_roundw
            case rel => exact ⟨i + 1, _, _, by omega, by go_num, HI, hB2, hO2, hS2⟩
            case measure => simp [intOf]; omega
        · have HI := Lib.hid (Cor.marks_neg hm.out hinn.out (Cor.at_out hat.out (.inl (by omega))))
          go_wp2
          go_roundw
          case rel => exact ⟨i + 1, _, _, by omega, by go_num, HI, hB2, hO2, hS2⟩
          case measure => simp [intOf]; omega
    · obtain rfl : i = n := by omega
      have HD : Hid (out = (List.range h.length).map fun i => Cor.cyc h i) := Cor.marks_done (by rw [HL.out]; exact hm.out)
      rw [HD.out] at hO
      go_wp2
      go_ret
      exact ⟨rfl, hB, hO⟩
end Go.Proofs.YtgkdaebiefhgdaaDoor
