/-
  Whatever the program: a text turned into a slice of bytes. No conditions.
-/
import Derived.Test.YtaihgoohmcipkaaMem
import Derived.Laws.IdiomStrings
namespace Go.Proofs.Ytaihgoohmcipkaa
open Go.RowKit

theorem bytes_of {P : Program} (w : World) (src dst e : TypeId) (l : List UInt8) (hs : P.underlying src = some .string) (hd : P.underlying dst = some (.slice e)) (he : P.underlying e = some (.int .u8)) :
    ∃ c W2, (convert src dst (str l)).run P w = .ok (.slice (some ⟨w.heap.size, 0, none⟩) l.length c) W2 ∧ Below w.heap.size w W2 ∧ w.heap.size < W2.heap.size ∧
      ∀ k (hk : k < l.length), W2.cell? ⟨w.heap.size, k, none⟩ = some (.int .u8 (l[k].toNat : Nat)) := by
  have hz : (ByteArray.mk l.toArray).size = l.length := by show l.toArray.size = _; simp
  have h := run_bytes_of_string (P := P) w src dst e ⟨l.toArray⟩ hs hd he
  rw [hz] at h
  refine ⟨_, _, h, ((Below.refl _ w).drew).alloc (by simp) _, by simp, ?_⟩
  intro k hk
  have hc := World.cell?_alloc_mark w.drew (bytesRow ⟨l.toArray⟩ (grownCap w l.length 0 e)) e ((bytesRow ⟨l.toArray⟩ (grownCap w l.length 0 e)).size, (bytesRow ⟨l.toArray⟩ (grownCap w l.length 0 e)).size + 1) k
  refine hc.trans ?_
  rw [bytesRow_at _ _ _ (by show k < l.toArray.size; simpa using hk)]
  simp
end Go.Proofs.Ytaihgoohmcipkaa
