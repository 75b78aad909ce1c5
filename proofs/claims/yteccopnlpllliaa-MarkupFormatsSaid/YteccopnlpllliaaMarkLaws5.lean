/-
  Chapter 4's law MarkupFormats returns true. Conditions: the lengths are ints; the list's length is at most its capacity.
-/
import Derived.Test.YteccopnlpllliaaMarkLaws
import Derived.Test.YteccopnlpllliaaMarkLarge
namespace Go.Proofs.Yteccopnlpllliaa
open Go.RowKit Utf Tagp
open Feat (Bs lt)
attribute [local go_sem] byte_mk ByteArray.extract_mk

set_option maxRecDepth 100000 in
set_option maxHeartbeats 1600000 in
theorem law_formats (cl : Bool) (nm : Bs) (A : Option Addr) (n c : Nat) (l : List KV) (w : World) (hn : n ≤ 9223372036854775807) (hnc : n ≤ c) (hnm : nm.length ≤ 9223372036854775807) (hsh : Short l) (h : Sl w w.heap.size 2 A n (prs l)) :
    Calls Try.prog 11 #[.agg #[.bool cl, str nm, .slice A n c]] w (Trues w) := by
  have hblk := Blk.new w 33 #[.bool cl, str nm, .slice A n c]
  have hB0 := (Below.refl w.heap.size w).alloc (Nat.le_refl _) (.cells #[.bool cl, str nm, .slice A n c] 33)
  have hF := fun W (hW : Below w.heap.size w W) => formatTag_any cl nm A n c l W hn hnc hnm hsh ((h.under hW).up hW.size)
  have hR := fun W (hW : Below w.heap.size w W) => refFormatTag_any cl nm A n c l W hn hnc hnm hsh ((h.under hW).up hW.size)
  unfold Texted at hF hR
  obtain ⟨t, e', ht⟩ : ∃ t e, fmtT cl nm l = (t, e) := ⟨_, _, rfl⟩
  rw [ht] at hF hR
  simp only at hF hR
  clear ht
  go_enter Try.func11, Try.ntmps11
  go_wp2_with fail
  refine (large_any cl nm A n c l _ hn ((h.under hB0).up hB0.size)).mono ?_
  rintro e w1 ⟨b, rfl, hb1⟩
  have hB1 := hB0.trans (Below.mono hb1 hB0.size)
  have k1 := hblk.below hb1
  cases b with
  | true =>
    go_wp2
    go_ret
    exact ⟨rfl, hB1⟩
  | false =>
    have a0 := k1.cell 0
    have a1 := k1.cell 1
    have a2 := k1.cell 2
    go_wp2_with fail
    refine (hF _ hB1).mono ?_
    rintro e w2 ⟨rfl, hb2⟩
    have hB2 := hB1.trans (Below.mono hb2 hB1.size)
    have k2 := k1.below hb2
    have b0 := k2.cell 0
    have b1 := k2.cell 1
    have b2 := k2.cell 2
    go_wp2_with fail
    refine (own_any cl nm A n c _).mono ?_
    rintro e w3 ⟨rfl, hb3⟩
    have hB3 := hB2.trans (Below.mono hb3 hB2.size)
    go_wp2_with fail
    refine (hR _ hB3).mono ?_
    rintro e w4 ⟨rfl, hb4⟩
    have hB4 := hB3.trans (Below.mono hb4 hB3.size)
    go_wp2_with fail
    refine (awake_any _).mono ?_
    rintro e w5 ⟨rfl, hb5⟩
    go_wp2
    go_ret
    exact ⟨rfl, hB4.trans (Below.mono hb5 hB4.size)⟩
end Go.Proofs.Yteccopnlpllliaa
