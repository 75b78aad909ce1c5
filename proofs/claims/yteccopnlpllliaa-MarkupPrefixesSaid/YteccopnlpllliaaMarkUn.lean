/-
  The contract of markup.Unescape. Condition: the text has at most 2 to the 44th bytes.
-/
import Derived.Test.YteccopnlpllliaaMarkOne
import Derived.Laws.Cover4
namespace Go.Proofs.Yteccopnlpllliaa
open Go.RowKit Utf Tagp
open Feat (Bs)
attribute [local go_sem] byte_mk ByteArray.extract_mk

theorem enc_len (n : Nat) : (enc n).length ≤ 4 := by
  unfold enc
  rw [bytesOf_len]
  exact encode_size_le _
theorem enc_back (n : Nat) : Value.string (Utf8.encode (n : Int)) = str (enc n) := bytesOf_back _
theorem esc1_min (s : Bs) : (esc1 s).2 ≠ 0 → 4 ≤ (esc1 s).2 := by
  unfold esc1
  split
  · simp
  · split
    · simp
    · split
      · simp
      · split
        · simp
        · split
          · simp only
            split
            · simp
            · rename_i k
              simp only [not_or] at k
              have := k.1
              simp only
              omega
          · simp

/-- What Unescape hands back. -/
def Une (s : Bs) (w : World) (e : Ending) (w' : World) : Prop := Below w.heap.size w w' ∧ e = .returned (.tuple #[str (unesc s).1, .int .i64 ((unesc s).2.1 : Nat), .int .i64 ((unesc s).2.2 : Nat)])
theorem une_ok {s v : Bs} {w w' : World} {e : Ending} (hb : Below w.heap.size w w') (h : un s 0 0 = .ok v) (he : e = .returned (.tuple #[str v, .int .i64 0, .int .i64 0])) : Une s w e w' := by
  unfold Une unesc; rw [h]; exact ⟨hb, he⟩
theorem une_bad {s : Bs} {i : Nat} {w w' : World} {e : Ending} (hb : Below w.heap.size w w') (h : un s 0 0 = .error i) (he : e = .returned (.tuple #[.string ⟨#[]⟩, .int .i64 (i : Nat), .int .i64 3])) : Une s w e w' := by
  unfold Une unesc; rw [h]; exact ⟨hb, he⟩

set_option maxRecDepth 100000 in
set_option maxHeartbeats 800000 in
theorem unescape_any (s : Bs) (hs : s.length ≤ 17592186044416) (w : World) : Calls Try.prog 21 #[str s] w (Une s w) := by
  obtain ⟨i0, hi0, hz0, hz1, hz2⟩ := info_parts info_u8
  go_enter Try.func21, Try.ntmps21
  go_wp2
  go_loopw [5, 6] (fun v iv wr => ∃ (i : Nat) (out : Bs), i ≤ s.length ∧ out.length ≤ i ∧ iv = .int .i64 i ∧ wr.ownsRow w.heap.size 5 1 v out.length (bys out) ∧ Below w.heap.size w wr ∧
      Hid (un s 0 0 = (un (s.drop i) 0 i).map (out ++ ·))) (fun _ iv _ => s.length - (intOf iv).toNat)
  case atStart => exact ⟨0, [], by omega, by simp, rfl, World.ownsRow_nil _ _ _ _, Below.refl _ _, by show _ = _; rw [List.drop_zero]; cases un s 0 0 <;> rfl⟩
  case round =>
    obtain ⟨i, out, hi, ho, rfl, hown, hB, hun⟩ := hrel
    have hlt2 := hown.lt
    by_cases hlt : i < s.length
    · by_cases h38 : s[i] = 38
      · have b1 : ((s[i].toNat : Int) != 38) = false := by rw [h38]; rfl
        have hex := one_any (s.drop i) (by rw [List.length_drop]; omega) wr
        have hsl : (s.drop i).take (s.length - i) = s.drop i := List.take_of_length_le (by rw [List.length_drop]; omega)
        have hl := esc1_len (s.drop i)
        rw [List.length_drop] at hl
        by_cases hn : (esc1 (s.drop i)).2 = 0
        · have HU := Lib.hid (un_bad s i hlt h38 hn)
          unfold One at hex
          rw [hn] at hex
          obtain ⟨c, hc⟩ : ∃ c, (esc1 (s.drop i)).1 = c := ⟨_, rfl⟩
          rw [hc] at hex
          clear h38 hn hl hc
          go_wp2_with fail
          refine hex.mono ?_
          rintro e w1 ⟨rfl, rfl⟩
          go_wp2
          go_ret3
          exact une_bad hB (by rw [hun.out, HU.out]; rfl) rfl
        · have hmin := esc1_min _ hn
          have HU := Lib.hid (un_esc s i hlt h38 hn)
          have eq0 : (((esc1 (s.drop i)).2 : Int) == 0) = false := by rw [beq_eq_false_iff_ne]; omega
          unfold One at hex
          obtain ⟨c, n, hcn⟩ : ∃ c n, esc1 (s.drop i) = (c, n) := ⟨_, _, rfl⟩
          rw [hcn] at hex HU hl hmin eq0
          simp only at hl hmin eq0
          have hel := enc_len c
          clear h38 hn hcn
          go_wp2_with fail
          refine hex.mono ?_
          rintro e w1 ⟨rfl, rfl⟩
          go_wp2_with (at_builtin; refine wpList_app_str rfl (.tmp 35) (.tmp 37) rfl w.heap.size _ _ _ rfl hown (enc c) (enc_back c) (by omega) hB.size ?_)
          intro v2 w2 own2 gr2
          have hB2 : Below w.heap.size w w2 := hB.grown gr2 hB.size (fun k hk => (hlt2 k hk).1)
          clear hown gr2 hB hex
          go_wp2
          go_roundw
          case rel => exact ⟨i + n, out ++ enc c, by omega, by rw [List.length_append]; omega, by go_num, own_move own2 rfl (by simp), hB2, by show _ = _; rw [hun.out, HU.out, map_map]; simp⟩
          case measure => simp [intOf]; omega
      · have b1 : ((s[i].toNat : Int) != 38) = true := by rw [bne_iff_ne]; intro h; exact h38 (UInt8.toNat_inj.1 (by show _ = 38; omega))
        have HU := Lib.hid (un_at s i hlt h38)
        have hoa := hown.alloc (.cells #[.int .u8 (s[i].toNat : Nat)] 5)
        have hba := hB.alloc hB.size (.cells #[.int .u8 (s[i].toNat : Nat)] 5)
        clear h38
        go_wp2_with (at_builtin; refine wpList_append_own_at _ rfl (.tmp 17) (.tmp 21) _ rfl w.heap.size 5 i0 _ 1 1 Try.underlying53 hi0 hz0 hz1 hz2 rfl (by decide) _ _ _ rfl hoa ⟨wr.heap.size, 0, none⟩ 1 1 [.int .u8 (s[i].toNat : Nat)] rfl rfl ?c1 ?c2 ?c3 ?c4 ?c5 ?_)
        try (case c1 => exact news_new _ _ [_])
        try (case c2 => first | rfl | (intro u hu; simp at hu; subst hu; rfl))
        try (case c3 => simp [maxLen]; omega)
        try (case c4 => omega)
        try (case c5 => exact hba.size)
        intro v2 w2 own2 gr2 _ _
        have hB2 : Below w.heap.size w w2 := hba.grown gr2 hba.size (fun k hk => (hlt2 k hk).1)
        clear hown gr2 hB hoa hba
        go_wp2
        go_roundw
        case rel => exact ⟨i + 1, out ++ [s[i]], by omega, by rw [List.length_append]; simp; omega, by go_num, own_move own2 (by simp [bys]) (by simp), hB2, by show _ = _; rw [hun.out, HU.out, map_map]; simp⟩
        case measure => simp [intOf]; omega
    · have hd : s.drop i = [] := List.drop_eq_nil_of_le (by omega)
      have hfin : Hid (un s 0 0 = .ok out) := by show _ = _; rw [hun.out, hd]; simp [Tagp.un, Except.map]
      have hbk := back_run rfl hown
      clear hd hun hown
      go_wp2
      go_ret3
      exact une_ok hB hfin.out rfl
end Go.Proofs.Yteccopnlpllliaa
