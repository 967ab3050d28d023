/- Words for cells that read as slices of bytes. -/
import Derived.Test.YtnaidihoijociaaDatS
import Derived.Test.YtnaidihoijociaaBytes
namespace Go.Proofs.Ytnaidihoijociaa
open Go.RowKit
namespace Frame
theorem Dat.bytes {P : Program} {W : World} {t e : TypeId} {cs : List Value} (h : Dat P W t cs) (ht : P.underlying t = some (.slice e)) (he : P.underlying e = some (.int .u8)) (hc : P.cellsOf e = 1) :
    ∃ (A : Option Addr) (n c : Nat) (bs : List Crc.Byte), cs = [.slice A n c] ∧ n ≤ c ∧ c ≤ maxLen ∧ bs.length = n ∧ (∀ b ∈ bs, True) ∧ Mem.Sl W W.heap.size 1 A n (bs.map Bs.bv) := by
  obtain ⟨A, n, c, zs, hcs, h1, h2, h3, h4, h5⟩ := h.ints ht he hc
  exact ⟨A, n, c, zs.map fun z => BitVec.ofInt 8 z, hcs, h1, h2, by rw [List.length_map]; exact h3, fun _ _ => trivial, by rw [← Bs.of_ints zs (fun z hz => bd_u8 (h4 z hz))]; exact h5⟩
end Frame
end Go.Proofs.Ytnaidihoijociaa
