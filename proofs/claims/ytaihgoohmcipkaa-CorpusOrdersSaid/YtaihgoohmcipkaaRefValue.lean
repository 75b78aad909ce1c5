/-
  The contracts of the reference's Valid and ValidValue: for every text the same error as the program's. Condition: the text's length is at most 2097152.
-/
import Derived.Test.YtaihgoohmcipkaaRefUnits
import Derived.Test.YtaihgoohmcipkaaBytes
namespace Go.Proofs.Ytaihgoohmcipkaa
open Go.RowKit Utf

theorem marked_at (us : List (Nat × Nat × Nat)) (k : Nat) (hk : k < us.length) (j : Nat) (hj : j < 4) :
    (us.flatMap (fun u => cu (okT u) u))[k * 4 + j]? = (cu (okT us[k]) us[k])[j]? := by
  have hl : ((us.take k).flatMap (fun u => cu (okT u) u)).length = k * 4 := by rw [marked_len]; simp; omega
  have e : us.flatMap (fun u => cu (okT u) u) = (us.take k).flatMap (fun u => cu (okT u) u) ++ (cu (okT us[k]) us[k] ++ (us.drop (k + 1)).flatMap (fun u => cu (okT u) u)) := by
    conv => lhs; rw [← List.take_append_drop k us]
    rw [List.flatMap_append, List.drop_eq_getElem_cons hk, List.flatMap_cons]
  rw [e, List.getElem?_append_right (by omega), hl, show k * 4 + j - k * 4 = j by omega, List.getElem?_append_left (by simp [cu]; omega)]
theorem un_len : ∀ (p : Nat) (l : List UInt8), (un p l).length ≤ l.length := by
  intro p l
  refine un_ind (C := fun p l => (un p l).length ≤ l.length) (fun _ => by simp [un_nil]) ?_ p l
  intro p b l h
  have hw := dec_width b l
  rw [un_cons]
  simp only [List.length_cons, List.length_drop] at h ⊢
  omega

set_option maxRecDepth 100000 in
set_option maxHeartbeats 1000000 in
theorem refValid_any (l : List UInt8) (hl : l.length ≤ 2097152) (w : World) :
    Calls Try.prog 95 #[str l] w (Kept (.bool (ok l)) w) := by
  have hun := un_len 0 l
  obtain ⟨us, hus⟩ : ∃ us, un 0 l = us := ⟨_, rfl⟩
  have hok : us.all okT = ok l := by rw [← hus]; exact un_ok 0 l
  have HO := Lib.hid hok
  have HUS := Lib.hid hus
  rw [hus] at hun
  clear hok hus
  go_enter Try.func95, Try.ntmps95
  go_wp2_with fail
  refine (refUnits_any l hl _).mono ?_
  rintro e w1 ⟨v, rfl, hown, hb⟩
  rw [HUS.out] at hown
  obtain ⟨n, hn⟩ : ∃ n, us.length = n := ⟨_, rfl⟩
  rw [hn] at hown hun
  have HN := Lib.hid hn
  clear hn
  rcases Nat.eq_zero_or_pos n with rfl | hpos
  · have hnil : us = [] := List.eq_nil_of_length_eq_zero HN.out
    subst hnil
    rcases hown.2 with ⟨rfl, _⟩ | ⟨g, cap, cur, rfl, _⟩
    all_goals
      go_wp2
      go_loopw [8] (fun i wx => i = .int .i64 0 ∧ wx = w1) (fun _ _ => 0)
      case atStart => exact ⟨rfl, rfl⟩
      case round =>
        obtain ⟨rfl, rfl⟩ := hrel
        go_wp2
        go_ret
        exact ⟨ret_bool (by rw [← HO.out]; rfl), hb⟩
  · obtain ⟨g, cap, rfl, hg1, hg2, hcap⟩ := own_form hown hpos
    go_wp2
    go_loopw [8] (fun i wx => ∃ k : Nat, k ≤ n ∧ i = .int .i64 k ∧ Below w.heap.size w wx ∧ Below w1.heap.size w1 wx ∧ Hid ((us.take k).all okT = true)) (fun i _ => n - (intOf i).toNat)
    case atStart => exact ⟨0, by omega, rfl, hb, Below.refl _ _, rfl⟩
    case round =>
      obtain ⟨k, hk, rfl, hB, hB1, hall⟩ := hrel
      by_cases hlt : k < n
      · have hku : k < us.length := by rw [HN.out]; exact hlt
        have m0 := marked_at us k hku 0 (by omega)
        have m1 := marked_at us k hku 1 (by omega)
        have m2 := marked_at us k hku 2 (by omega)
        have m3 := marked_at us k hku 3 (by omega)
        have hts : (us.take (k + 1)).all okT = ((us.take k).all okT && okT us[k]) := by rw [List.take_succ_eq_append_getElem hku, List.all_append]; simp
        have hin : us.all okT = true → okT us[k] = true := fun h => List.all_eq_true.1 h _ (List.getElem_mem hku)
        obtain ⟨x, hx⟩ : ∃ x, us[k] = x := ⟨_, rfl⟩
        rw [hx] at m0 m1 m2 m3 hts hin
        have c0 : wr.cell? ⟨g, k * 4, none⟩ = some (.int .i32 x.1) := (hB1.cell (p := ⟨g, k * 4, none⟩) hg2).trans ((hown.cellAt _ (by omega)).trans m0)
        have c1 : wr.cell? ⟨g, k * 4 + 1, none⟩ = some (.int .i64 x.2.1) := (hB1.cell (p := ⟨g, k * 4 + 1, none⟩) hg2).trans ((hown.cellAt _ (by omega)).trans m1)
        have c2 : wr.cell? ⟨g, k * 4 + 2, none⟩ = some (.int .i64 x.2.2) := (hB1.cell (p := ⟨g, k * 4 + 2, none⟩) hg2).trans ((hown.cellAt _ (by omega)).trans m2)
        have c3 : wr.cell? ⟨g, k * 4 + 3, none⟩ = some (.bool (okT x)) := (hB1.cell (p := ⟨g, k * 4 + 3, none⟩) hg2).trans ((hown.cellAt _ (by omega)).trans m3)
        have HT := Lib.hid hts
        have HI := Lib.hid hin
        have hzB := hB.size
        have hzB1 := hB1.size
        clear m0 m1 m2 m3 hts hin hx
        cases ho : okT x with
        | true =>
          rw [ho] at c3
          go_wp2
          go_roundw
          case rel => exact ⟨k + 1, by omega, by go_num, hB.alloc hB.size _, hB1.alloc hB1.size _, by show _ = _; rw [HT.out, hall.out, ho]; rfl⟩
          case measure => simp [intOf]; omega
        | false =>
          rw [ho] at c3
          go_wp2
          go_ret
          refine ⟨ret_bool ?_, hB.alloc hB.size _⟩
          cases hk : ok l with
          | false => rfl
          | true => have := HI.out (by rw [HO.out]; exact hk); rw [ho] at this; cases this
      · go_wp2
        go_ret
        refine ⟨ret_bool ?_, hB⟩
        rw [← HO.out, ← hall.out, List.take_of_length_le (by rw [HN.out]; omega)]

theorem ctlB_cons (c : UInt8) (l : List UInt8) : ctlB (c :: l) = (ctlT c.toNat || ctlB l) := rfl
theorem ctlT_byte (c : UInt8) : ctlT c.toNat = (decide ((c.toNat : Int) < 32) || ((c.toNat : Nat) : Int) == 127) := by
  unfold ctlT
  rw [Bool.eq_iff_iff]; simp; omega

set_option maxHeartbeats 1000000 in
theorem refValue_any (l : List UInt8) (hl : l.length ≤ 9223372036854775807) (w : World) :
    Calls Try.prog 93 #[str l] w (Kept (.int .i64 (vErr l : Nat)) w) := by
  by_cases h1 : 120 < l.length
  · have E := Lib.hid (show (vErr l : Int) = 2 by rw [vErr_long h1]; rfl)
    go_enter Try.func93, Try.ntmps93
    go_wp2
    go_ret
    exact ⟨ret_int E.out.symm, Below.refl _ _⟩
  · cases h2 : ok l with
    | false =>
      have E := Lib.hid (vErr_enc h1 h2)
      go_enter Try.func93, Try.ntmps93
      go_wp2_with (go_at_call 95; refine (refValid_any l (by omega) _).mono ?_; rintro e w1 ⟨rfl, hb⟩)
      go_ret
      exact ⟨ret_int (by rw [E.out]; rfl), hb⟩
    | true =>
      have E := Lib.hid (vErr_ctl h1 h2)
      go_enter Try.func93, Try.ntmps93
      go_wp2_with fail
      refine (refValid_any l (by omega) _).mono ?_
      rintro e w1 ⟨rfl, hb⟩
      obtain ⟨c, W2, hcv, hb2, hz2, hcell⟩ := bytes_of (P := Try.prog) w1 9 105 5 l Try.underlying9 Try.underlying105 Try.underlying5
      have hB : Below w.heap.size w W2 := hb.trans (hb2.mono hb.size)
      go_wp2
      go_loop [14] (fun i => ∃ k : Nat, k ≤ l.length ∧ i = .int .i64 k ∧ Hid (ctlB l = ctlB (l.drop k))) (fun i => l.length - (intOf i).toNat)
      case atStart => exact ⟨0, by omega, rfl, rfl⟩
      case round =>
        obtain ⟨k, hk, rfl, hc⟩ := hrel
        by_cases hlt : k < l.length
        · have c0 := hcell k hlt
          have T := Lib.hid (ctlT_byte l[k])
          have hd : ctlB (l.drop k) = (ctlT l[k].toNat || ctlB (l.drop (k + 1))) := by rw [List.drop_eq_getElem_cons hlt, ctlB_cons]
          have HD := Lib.hid hd
          clear hcell hd hcv
          obtain ⟨x, hx⟩ : ∃ x, l[k].toNat = x := ⟨_, rfl⟩
          rw [hx] at c0 T HD
          clear hx
          by_cases c1 : (x : Int) < 32
          · go_wp2
            go_ret
            exact ⟨ret_int (by rw [E.out, hc.out, HD.out, T.out, decide_eq_true c1]; rfl), hB⟩
          · by_cases c2 : ((x : Int) == 127) = true
            · go_wp2
              go_ret
              exact ⟨ret_int (by rw [E.out, hc.out, HD.out, T.out, c2]; simp), hB⟩
            · have c2 : ((x : Int) == 127) = false := by simpa using c2
              go_wp2
              go_round
              case rel => exact ⟨k + 1, by omega, by go_num, by show _ = _; rw [hc.out, HD.out, T.out, c2, decide_eq_false c1]; rfl⟩
              case measure => simp [intOf]; omega
        · go_wp2
          go_ret
          exact ⟨ret_int (by rw [E.out, hc.out, List.drop_eq_nil_of_le (by omega)]; rfl), hB⟩
end Go.Proofs.Ytaihgoohmcipkaa
