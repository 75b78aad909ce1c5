/-
  The law CorpusSorts returns true. Conditions: the list of regions and each list of keys take at most 2^47 bytes.
-/
import Derived.Test.YtaihgoohmcipkaaCorLaws1
import Derived.Test.YtaihgoohmcipkaaCorEqR
import Derived.Test.YtaihgoohmcipkaaCorSort
import Derived.Test.YtaihgoohmcipkaaCorSortR
namespace Go.Proofs.Ytaihgoohmcipkaa
set_option linter.unusedSimpArgs false
set_option linter.unusedVariables false
open Go.RowKit Utf
open Feat (Bs)

theorem reads_regs {w : World} {B : Nat} {h : Hd} {l : List Cor.Reg} (k : Txts w B h l) : Reads w B ⟨⟨none, 0, 0⟩, ⟨none, 0, 0⟩, ⟨none, 0, 0⟩, h, ⟨none, 0, 0⟩, ⟨none, 0, 0⟩, ⟨none, 0, 0⟩⟩ ⟨[], [], [], l, [], [], []⟩ := by
  have r := reads_nil w B
  exact ⟨r.a, r.t, r.x, k, r.n, r.h, r.l⟩

set_option maxRecDepth 100000 in
set_option maxHeartbeats 8000000 in
theorem law_sorts (A : Option Addr) (n c : Nat) (L : List TH) (w : World) (hn : (n + 1) * 56 ≤ 140737488355328) (hf : Fit ⟨A, n, c⟩) (hs : Sl w w.heap.size 4 A n (L.flatMap txV)) (ho : ∀ x ∈ L, TxOk w w.heap.size x) (hk : ∀ x ∈ L, x.2.n * 32 ≤ 140737488355328) :
    Calls Try.prog 8 #[.slice A n c] w (Kept (.bool true) w) := by
  have hB0 := (Below.refl w.heap.size w).alloc (Nat.le_refl _) (.cells #[.slice none 0 0, .slice none 0 0, .slice none 0 0, .slice A n c, .slice none 0 0, .slice none 0 0, .slice none 0 0] 30)
  have b0 := Blk.new w 30 #[.slice none 0 0, .slice none 0 0, .slice none 0 0, .slice A n c, .slice none 0 0, .slice none 0 0, .slice none 0 0]
  have hx : Txts w w.heap.size ⟨A, n, c⟩ (L.map Prod.fst) := ⟨L, rfl, hf, hs, ho⟩
  have HH := Lib.hid (heavy_any (some ⟨w.heap.size, 0, none⟩) 1 1 [(⟨⟨none, 0, 0⟩, ⟨none, 0, 0⟩, ⟨none, 0, 0⟩, ⟨A, n, c⟩, ⟨none, 0, 0⟩, ⟨none, 0, 0⟩, ⟨none, 0, 0⟩⟩, ⟨[], [], [], L.map Prod.fst, [], [], []⟩)] _ (by omega) (sl_one7 (H := ⟨⟨none, 0, 0⟩, ⟨none, 0, 0⟩, ⟨none, 0, 0⟩, ⟨A, n, c⟩, ⟨none, 0, 0⟩, ⟨none, 0, 0⟩, ⟨none, 0, 0⟩⟩) b0) (fun x hx' => by simp at hx'; subst hx'; exact reads_regs ((hx.under hB0).up hB0.size)))
  have HB0 := Lib.hid hB0
  have HS := Lib.hid hs
  have HO := Lib.hid ho
  have HK := Lib.hid hk
  clear b0 hx hB0 hs ho hk
  go_enter Try.func8, Try.ntmps8
  go_wp2_with fail
  refine HH.out.mono ?_
  rintro e' w1 ⟨b, rfl, hb⟩
  have hB1 := HB0.out.trans (hb.mono HB0.out.size)
  clear hb HB0 HH
  cases b with
  | true =>
    go_wp2
    go_ret
    exact ⟨rfl, hB1⟩
  | false =>
    have F1 := Lib.hid (sortRegions_any A n c L w1 hn ((HS.out.under hB1).up hB1.size) (fun x hx => ((HO.out x hx).under hB1).up hB1.size) HK.out)
    have F2 := Lib.hid (fun (W : World) (hW : Below w1.heap.size w1 W) => refSortRegions_any A n c L W hn ((HS.out.under (hB1.trans (hW.mono hB1.size))).up (hB1.trans (hW.mono hB1.size)).size) (fun x hx => ((HO.out x hx).under (hB1.trans (hW.mono hB1.size))).up (hB1.trans (hW.mono hB1.size)).size))
    have HB1 := Lib.hid hB1
    clear HS HO HK hB1
    go_wp2_with (first
      | (go_at_call 27; refine F1.out.mono ?_; rintro e' w2 ⟨⟨A5, n5, c5⟩, rfl, t5, hb2⟩; have T5 := Lib.hid t5; clear t5)
      | (go_at_call 28; refine (F2.out _ hb2).mono ?_; rintro e' w3 ⟨⟨A6, n6, c6⟩, rfl, t6, hb3⟩; have E6 := Lib.hid (refEqual_any _ _ _ _ _ (reads_regs ((T5.out.under hb3).up hb3.size)) (reads_regs t6)); rw [same_t rfl] at E6; clear t6)
      | (go_at_call 20; refine E6.out.mono ?_; rintro e' w4 ⟨rfl, hb4⟩)
      | (go_at_call 17; refine (awake_any _).mono ?_; rintro e' w5 ⟨rfl, hb5⟩))
    go_ret
    have h3 := hb2.trans (hb3.mono hb2.size)
    have h4 := h3.trans (hb4.mono h3.size)
    have h5 := h4.trans (hb5.mono h4.size)
    exact ⟨rfl, HB1.out.trans (h5.mono HB1.out.size)⟩
end Go.Proofs.Ytaihgoohmcipkaa
