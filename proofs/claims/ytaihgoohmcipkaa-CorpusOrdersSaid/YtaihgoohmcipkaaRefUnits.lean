/-
  The contracts of the reference's Units and Valid: for every text the units, and whether all are valid. Condition: the text has at most 2097152 bytes.
-/
import Derived.Test.YtaihgoohmcipkaaValue
import Derived.Maps.AppendAt
namespace Go.Proofs.Ytaihgoohmcipkaa
open Go.RowKit Utf

theorem info_unit : (Try.prog.info? 113).map (fun i => (i.zero, i.size, i.bytes)) = some (some (.agg #[.int .i32 0, .int .i64 0, .int .i64 0, .bool false]), 4, 32) := by kernel_rfl

/-- The cells of a unit as the reference has it. -/
def cu (o : Bool) (u : Nat × Nat × Nat) : List Value := [.int .i32 u.1, .int .i64 u.2.1, .int .i64 u.2.2, .bool o]
def cus (l : List (Nat × Nat × Nat)) : List Value := l.flatMap (cu false)
theorem cus_len (l : List (Nat × Nat × Nat)) : (cus l).length = l.length * 4 := by
  unfold cus; induction l with
  | nil => rfl
  | cons u l ih => rw [List.flatMap_cons, List.length_append, ih]; simp [cu]; omega
theorem cus_snoc (l : List (Nat × Nat × Nat)) (u : Nat × Nat × Nat) : cus (l ++ [u]) = cus l ++ cu false u := by unfold cus; rw [List.flatMap_append]; simp

/-- The cells while the second loop runs: the first k units have their mark. -/
def mid (us : List (Nat × Nat × Nat)) (k : Nat) : List Value := (us.take k).flatMap (fun u => cu (okT u) u) ++ cus (us.drop k)
theorem marked_len (us : List (Nat × Nat × Nat)) : (us.flatMap (fun u => cu (okT u) u)).length = us.length * 4 := by
  induction us with
  | nil => rfl
  | cons u l ih => rw [List.flatMap_cons, List.length_append, ih]; simp [cu]; omega
theorem mid_split (us : List (Nat × Nat × Nat)) (k : Nat) (hk : k < us.length) :
    mid us k = (us.take k).flatMap (fun u => cu (okT u) u) ++ (cu false us[k] ++ cus (us.drop (k + 1))) := by
  unfold mid
  rw [List.drop_eq_getElem_cons hk]
  unfold cus
  rw [List.flatMap_cons]
theorem mid_at (us : List (Nat × Nat × Nat)) (k : Nat) (hk : k < us.length) :
    (mid us k)[k * 4]? = some (.int .i32 us[k].1) ∧ (mid us k)[k * 4 + 2]? = some (.int .i64 us[k].2.2) ∧ (mid us k)[k * 4 + 3]? = some (.bool false) := by
  have hl : ((us.take k).flatMap (fun u => cu (okT u) u)).length = k * 4 := by rw [marked_len]; simp; omega
  rw [mid_split us k hk]
  refine ⟨?_, ?_, ?_⟩
  · rw [List.getElem?_append_right (by omega), hl, show k * 4 - k * 4 = 0 by omega]; rfl
  · rw [List.getElem?_append_right (by omega), hl, show k * 4 + 2 - k * 4 = 2 by omega]; rfl
  · rw [List.getElem?_append_right (by omega), hl, show k * 4 + 3 - k * 4 = 3 by omega]; rfl
theorem mid_set (us : List (Nat × Nat × Nat)) (k : Nat) (hk : k < us.length) : (mid us k).set (k * 4 + 3) (.bool (okT us[k])) = mid us (k + 1) := by
  have hl : ((us.take k).flatMap (fun u => cu (okT u) u)).length = k * 4 := by rw [marked_len]; simp; omega
  rw [mid_split us k hk, List.set_append_right _ _ (by omega), hl, show k * 4 + 3 - k * 4 = 3 by omega]
  unfold mid
  rw [List.take_succ_eq_append_getElem hk, List.flatMap_append]
  simp [cu]
theorem okT_cases (u : Nat × Nat × Nat) : (u.1 ≠ 65533 → okT u = true) ∧ (u.1 = 65533 → okT u = ((u.2.2 : Int) == 3)) := by
  refine ⟨fun h => by unfold okT; simp [h], fun h => ?_⟩
  unfold okT; rw [Bool.eq_iff_iff]; simp [h]; omega

set_option maxRecDepth 100000 in
set_option maxHeartbeats 1000000 in
theorem refUnits_any (l : List UInt8) (hl : l.length ≤ 2097152) (w : World) :
    Calls Try.prog 98 #[str l] w fun e w' => ∃ v, e = .returned v ∧ w'.ownsRow (w.heap.size + 1) 113 4 v (un 0 l).length ((un 0 l).flatMap fun u => cu (okT u) u) ∧ Below w.heap.size w w' := by
  obtain ⟨i0, hi0, hz0, hz1, hz2⟩ := info_parts info_unit
  go_enter Try.func98, Try.ntmps98
  go_wp2
  go_loopw [3] (fun v wr => ∃ pos : Nat, pos ≤ l.length ∧ wr.heap[w.heap.size]? = some (.stringIter ⟨l.toArray⟩ pos) ∧ Below w.heap.size w wr ∧
      ((pos = 0 ∧ v = .slice none 0 0) ∨ (∃ pre r a, a < pos ∧ pre.length < pos ∧ Hid (un 0 l = pre ++ (r, a, pos - a) :: un pos (l.drop pos)) ∧
        wr.ownsRow (w.heap.size + 1) 113 4 v (pre.length + 1) (cus pre ++ cu false (r, a, 0)))))
    (fun _ wr => l.length - wr.iterPos w.heap.size)
  case atStart =>
    exact ⟨0, Nat.zero_le _, World.iter_heap _ _ _, (Below.refl _ _).alloc (Nat.le_refl _) _, .inl ⟨rfl, rfl⟩⟩
  case round =>
    obtain ⟨pos, hpos, hit, hB, hcase⟩ := hrel
    have hzr : w.heap.size < wr.heap.size := (Array.getElem?_eq_some_iff.1 hit).1
    by_cases hp : pos < l.length
    · have hd := decode_drop ⟨l.toArray⟩ pos (by show pos < l.toArray.size; simpa using hp)
      obtain ⟨b, t, hbt⟩ : ∃ b t, l.drop pos = b :: t := ⟨_, _, List.drop_eq_getElem_cons hp⟩
      have hw := dec_width b t
      obtain ⟨r', hr'⟩ : ∃ r', (dec (b :: t)).1 = r' := ⟨_, rfl⟩
      obtain ⟨n', hn'⟩ : ∃ n', (dec (b :: t)).2 = n' := ⟨_, rfl⟩
      have hlen : t.length + 1 = l.length - pos := by have := congrArg List.length hbt; simp at this; omega
      rw [hn'] at hw
      have hdd : Utf8.decode ⟨l.toArray⟩ pos = (r', n') := by rw [hd, hbt, ← hr', ← hn']
      have hnx : ∀ ty, (Instr.next (.pointer (some ⟨w.heap.size, 0, none⟩)) true ty).run Try.prog wr = .ok (.tuple #[.bool true, .int .i64 pos, .int .i32 r']) (wr.iterAt w.heap.size ⟨l.toArray⟩ (pos + n')) := by
        intro ty
        have := Lib.run_next_any_at (P := Try.prog) wr w.heap.size ⟨l.toArray⟩ pos ty hit (by show pos < l.toArray.size; simpa using hp)
        rw [hdd] at this; exact this
      obtain ⟨wi, hwi⟩ : ∃ wi, wr.iterAt w.heap.size ⟨l.toArray⟩ (pos + n') = wi := ⟨_, rfl⟩
      have hiti : wi.heap[w.heap.size]? = some (.stringIter ⟨l.toArray⟩ (pos + n')) := by rw [← hwi]; exact Lib.iterAt_heap _ _ _ _ _ hit
      have hBi : Below w.heap.size w wi := by rw [← hwi]; exact Lib.below_iterAt hB (Nat.le_refl _) _ _
      have hzi : wi.heap.size = wr.heap.size := by rw [← hwi]; exact Lib.iterAt_size _ _ _ _
      have huni : un pos (l.drop pos) = (r', pos, n') :: un (pos + n') (l.drop (pos + n')) := by
        rw [hbt, un_cons, hr', hn', ← hbt, List.drop_drop]
      have HU := Lib.hid huni
      have HZ := Lib.hid hzi
      rw [hwi] at hnx
      have HW := Lib.hid hwi
      rcases hcase with ⟨rfl, rfl⟩ | ⟨pre, r, a, hap, hpl, hun, hown⟩
      · clear hd hbt hr' hn' hdd hwi huni hzi
        go_wp2_with (at_builtin; refine wpList_append_own_at _ rfl (.tmp 31) (.tmp 35) _ rfl (w.heap.size + 1) 113 i0 _ 4 32 Try.underlying110 hi0 hz0 hz1 hz2 rfl (by decide) (.slice none 0 0) 0 [] rfl (World.ownsRow_nil _ _ _ _) ⟨wi.heap.size, 0, none⟩ 1 1 (cu false (r', 0, 0)) rfl rfl ?c1 ?c2 ?c3 ?c4 ?c5 ?_)
        case c1 => exact news_new _ _ (cu false (r', 0, 0))
        case c2 => intro u hu; simp [cu] at hu; rcases hu with rfl | rfl | rfl | rfl <;> rfl
        case c3 => simp [maxLen]
        case c4 => omega
        case c5 => have := HZ.out; simp; omega
        intro v' w1 hown1 hg1 _ _
        have hit1 := grown_block hg1 (alloc_block (.cells (cu false (r', 0, 0)).toArray 113) hiti) (by simp [Value.ownBlock])
        have hB1 : Below w.heap.size w w1 := (hBi.alloc hBi.size _).grown hg1 (by have := hBi.size; simp; omega) (by simp [Value.ownBlock])
        go_wp2
        go_roundw
        case rel => exact ⟨0 + n', by omega, hit1, hB1, .inr ⟨[], r', 0, by omega, by simp; omega, by show _ = _; simpa using HU.out, hown1⟩⟩
        case measure => rw [iterPos_of hit1, iterPos_of hit]; omega
      · have hu := hun.out
        clear hd hbt hr' hn' hdd hwi huni hzi hu
        obtain ⟨z, hz⟩ : ∃ z : Nat, pos = a + z := ⟨pos - a, by omega⟩
        have hz' : pos - a = z := by omega
        have hzi : ((pos : Nat) : Int) - (a : Nat) = (z : Nat) := by omega
        rw [hz'] at hun
        obtain ⟨p, hpp⟩ : ∃ p, pre.length = p := ⟨_, rfl⟩
        rw [hpp] at hown hpl
        have HP := Lib.hid hpp
        clear hpp hz hz'
        have howni : wi.ownsRow (w.heap.size + 1) 113 4 u3 (p + 1) (cus pre ++ cu false (r, a, 0)) :=
          own_same hown (fun g hg => by rw [← HW.out]; exact Lib.iterAt_other _ _ _ _ _ (by have := (hown.lt g hg).1; omega))
        obtain ⟨g, cap, rfl, hg1, hg2, hcap⟩ := own_form howni (by omega)
        have hcl : (cus pre).length = p * 4 := by rw [cus_len, HP.out]
        have c1 : wi.cell? ⟨g, p * 4 + 1, none⟩ = some (.int .i64 a) := by
          rw [howni.cellAt _ (by omega), List.getElem?_append_right (by omega), hcl]
          simp [cu]
        have c2 : wi.cell? ⟨g, p * 4 + 2, none⟩ = some (.int .i64 0) := by
          rw [howni.cellAt _ (by omega), List.getElem?_append_right (by omega), hcl]
          simp [cu]
        have f2 : wi.frozen? ⟨g, p * 4 + 2, none⟩ = false := howni.frozenAt _
        have hst := howni.stored (p * 4 + 2) (.int .i64 z)
        have hset : (cus pre ++ cu false (r, a, 0)).set (p * 4 + 2) (.int .i64 z) = cus (pre ++ [(r, a, z)]) := by
          rw [List.set_append_right _ _ (by omega), hcl, show p * 4 + 2 - p * 4 = 2 by omega, cus_snoc]; rfl
        rw [hset] at hst
        have hos := hst.1.alloc (.cells (cu false (r', pos, 0)).toArray 113)
        have hzs : (wi.setCell ⟨g, p * 4 + 2, none⟩ (.int .i64 z)).heap.size = wi.heap.size := by simp [World.setCell]
        have hits := alloc_block (.cells (cu false (r', pos, 0)).toArray 113) ((Below.heap_setCell wi ⟨g, p * 4 + 2, none⟩ (.int .i64 z) w.heap.size (by show w.heap.size ≠ g; omega)).trans hiti)
        have hBs := (hBi.setCell (p := ⟨g, p * 4 + 2, none⟩) (by show w.heap.size ≤ g; omega) (.int .i64 z)).alloc (by rw [hzs]; exact hBi.size) (.cells (cu false (r', pos, 0)).toArray 113)
        have HS := Lib.hid hset
        have HZS := Lib.hid hzs
        clear hown hset hzs hst hcl
        go_wp2_with (at_builtin; refine wpList_append_own_at _ rfl (.tmp 31) (.tmp 35) _ rfl (w.heap.size + 1) 113 i0 _ 4 32 Try.underlying110 hi0 hz0 hz1 hz2 rfl (by decide) (.slice (some ⟨g, 0, none⟩) (p + 1) cap) (p + 1) (cus (pre ++ [(r, a, z)])) rfl hos ⟨wi.heap.size, 0, none⟩ 1 1 (cu false (r', pos, 0)) rfl rfl ?d1 ?d2 ?d3 ?d4 ?d5 ?_)
        case d1 => rw [← HZS.out]; exact news_new _ _ (cu false (r', pos, 0))
        case d2 => intro u hu; simp [cu] at hu; rcases hu with rfl | rfl | rfl | rfl <;> rfl
        case d3 => simp [maxLen]; omega
        case d4 => omega
        case d5 => rw [World.size_alloc, HZS.out]; have := hBi.size; omega
        intro v' w1 hown1 hgr1 _ _
        have hit1 := grown_block hgr1 hits (by simp [Value.ownBlock]; omega)
        have hB1 : Below w.heap.size w w1 := hBs.grown hgr1 hBs.size (by intro k hk; simp [Value.ownBlock] at hk; omega)
        have HP2 : Hid ((pre ++ [(r, a, z)]).length = p + 1) := by show _ = _; rw [List.length_append, HP.out]; rfl
        clear hos hits hBs hgr1
        go_wp2
        go_roundw
        case rel =>
          refine ⟨pos + n', by omega, hit1, hB1, .inr ⟨pre ++ [(r, a, z)], r', pos, by omega, by rw [HP2.out]; omega, ?_, by rw [HP2.out]; exact hown1⟩⟩
          show _ = _
          rw [hun.out, HU.out, show pos + n' - pos = n' by omega]; simp
        case measure => rw [iterPos_of hit1, iterPos_of hit]; omega
    · have hpe : pos = l.length := by omega
      have hnx : ∀ ty, (Instr.next (.pointer (some ⟨w.heap.size, 0, none⟩)) true ty).run Try.prog wr = .ok (.tuple #[.bool false]) wr := by
        intro ty
        exact Lib.run_next_end_at (P := Try.prog) wr w.heap.size ⟨l.toArray⟩ pos ty hit (by show ¬ pos < l.toArray.size; simpa using hp)
      have hlr : l.drop pos = [] := List.drop_eq_nil_of_le (by omega)
      rcases hcase with ⟨rfl, rfl⟩ | ⟨pre, r, a, hap, hpl, hun, hown⟩
      · have hnil : l = [] := List.eq_nil_of_length_eq_zero hpe.symm
        subst hnil
        clear hpe hlr
        go_wp2
        go_loopw [58] (fun i wx => i = .int .i64 0 ∧ wx = wr) (fun _ _ => 0)
        case atStart => exact ⟨rfl, rfl⟩
        case round =>
          obtain ⟨rfl, rfl⟩ := hrel
          go_wp2
          go_ret
          exact ⟨_, rfl, World.ownsRow_nil _ _ _ _, hB⟩
      · obtain ⟨z, hz⟩ : ∃ z : Nat, pos = a + z := ⟨pos - a, by omega⟩
        have hz' : pos - a = z := by omega
        have hzi : ((l.length : Nat) : Int) - (a : Nat) = (z : Nat) := by omega
        rw [hz', hlr, un_nil] at hun
        obtain ⟨p, hpp⟩ : ∃ p, pre.length = p := ⟨_, rfl⟩
        rw [hpp] at hown hpl
        have hcl : (cus pre).length = p * 4 := by rw [cus_len, hpp]
        have HP := Lib.hid hpp
        clear hpp hz hz' hlr
        obtain ⟨g, cap, rfl, hg1, hg2, hcap⟩ := own_form hown (by omega)
        have c1 : wr.cell? ⟨g, p * 4 + 1, none⟩ = some (.int .i64 a) := by
          rw [hown.cellAt _ (by omega), List.getElem?_append_right (by omega), hcl]
          simp [cu]
        have c2 : wr.cell? ⟨g, p * 4 + 2, none⟩ = some (.int .i64 0) := by
          rw [hown.cellAt _ (by omega), List.getElem?_append_right (by omega), hcl]
          simp [cu]
        have f2 : wr.frozen? ⟨g, p * 4 + 2, none⟩ = false := hown.frozenAt _
        have hst := hown.stored (p * 4 + 2) (.int .i64 z)
        have hset : (cus pre ++ cu false (r, a, 0)).set (p * 4 + 2) (.int .i64 z) = cus (pre ++ [(r, a, z)]) := by
          rw [List.set_append_right _ _ (by omega), hcl, show p * 4 + 2 - p * 4 = 2 by omega, cus_snoc]; rfl
        rw [hset] at hst
        have hos := hst.1
        have hBs := hB.setCell (p := ⟨g, p * 4 + 2, none⟩) (by show w.heap.size ≤ g; omega) (.int .i64 z)
        obtain ⟨us, hus⟩ : ∃ us, pre ++ [(r, a, z)] = us := ⟨_, rfl⟩
        have hul : us.length = p + 1 := by rw [← hus, List.length_append, HP.out]; rfl
        have hun2 : un 0 l = us := by rw [hun.out, hus]
        rw [hus] at hos
        have HU2 := Lib.hid hun2
        have HL := Lib.hid hul
        have hpl2 : p ≤ 2097152 := by omega
        clear hset hst hcl hown hpe hus hun hun2 hul HP
        go_wp2
        go_loopw [58] (fun i wx => ∃ k : Nat, k ≤ p + 1 ∧ i = .int .i64 k ∧ Below w.heap.size w wx ∧ wx.ownsRow (w.heap.size + 1) 113 4 (.slice (some ⟨g, 0, none⟩) (p + 1) cap) (p + 1) (mid us k)) (fun i _ => p + 1 - (intOf i).toNat)
        case atStart => exact ⟨0, by omega, rfl, hBs, hos⟩
        case round =>
          obtain ⟨k, hk, rfl, hBk, hok⟩ := hrel
          by_cases hlt : k < p + 1
          · have hku : k < us.length := by rw [HL.out]; exact hlt
            obtain ⟨m1, m2, m3⟩ := mid_at us k hku
            obtain ⟨o1, o2⟩ := okT_cases us[k]
            have hst2 := hok.stored (k * 4 + 3) (.bool (okT us[k]))
            rw [mid_set us k hku] at hst2
            obtain ⟨x, hx⟩ : ∃ x, us[k] = x := ⟨_, rfl⟩
            rw [hx] at m1 m2 o1 o2 hst2
            have c0 : wr.cell? ⟨g, k * 4, none⟩ = some (.int .i32 x.1) := (hok.cellAt _ (by omega)).trans m1
            have c2' : wr.cell? ⟨g, k * 4 + 2, none⟩ = some (.int .i64 x.2.2) := (hok.cellAt _ (by omega)).trans m2
            have c3 : wr.cell? ⟨g, k * 4 + 3, none⟩ = some (.bool false) := (hok.cellAt _ (by omega)).trans m3
            have f3 : wr.frozen? ⟨g, k * 4 + 3, none⟩ = false := hok.frozenAt _
            have hBk2 := hBk.setCell (p := ⟨g, k * 4 + 3, none⟩) (by show w.heap.size ≤ g; omega) (.bool (okT x))
            have hosk := hst2.1
            have hcapk : k < p + 1 := hlt
            clear c1 c2 f2 hok hst2 hx m1 m2 m3 hBk
            by_cases h5 : x.1 = 65533
            · have e5 : ((x.1 : Int) != 65533) = false := by rw [h5]; rfl
              rw [o2 h5] at hosk hBk2
              clear o1 o2 h5
              go_wp2
              go_roundw
              case rel => exact ⟨k + 1, by omega, by go_num, hBk2, hosk⟩
              case measure => simp [intOf]; omega
            · have e5 : ((x.1 : Int) != 65533) = true := by rw [bne_iff_ne]; omega
              rw [o1 h5] at hosk hBk2
              clear o1 o2 h5
              go_wp2
              go_roundw
              case rel => exact ⟨k + 1, by omega, by go_num, hBk2, hosk⟩
              case measure => simp [intOf]; omega
          · go_wp2
            go_ret
            refine ⟨_, rfl, ?_, hBk⟩
            rw [HU2.out, HL.out]
            unfold mid at hok
            rw [List.take_of_length_le (by rw [HL.out]; omega), List.drop_eq_nil_of_le (by rw [HL.out]; omega)] at hok
            simpa [cus] using hok
end Go.Proofs.Ytaihgoohmcipkaa
