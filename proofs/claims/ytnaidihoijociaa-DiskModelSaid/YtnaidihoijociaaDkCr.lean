/- The document's layer 10: what Crash computes. -/
import Derived.Test.YtnaidihoijociaaDkZ
namespace Go.Proofs.Ytnaidihoijociaa
open Go.RowKit Go.Maps
namespace Dk
open Bs
open Crc (Byte)
theorem crashTo_full {l : Files} {ops : List OpA} {keep : List Int} {k : Nat} (h : ops.length ≤ k ∨ keep.length ≤ k) : crashTo l ops keep k = crashF l ops keep := by
  unfold crashTo crashF
  rw [List.take_of_length_le (by rw [List.length_zip]; omega)]
theorem rise_crashTo {l : Files} (h : Rise l) (ops : List OpA) (keep : List Int) (k : Nat) : Rise (crashTo l ops keep k) := by
  unfold crashTo
  generalize (ops.zip keep).take k = ps
  induction ps generalizing l with
  | nil => exact h
  | cons p ps ih =>
    rw [List.foldl_cons]
    refine ih ?_
    unfold crash1
    split
    · exact h
    · exact rise_app h _
theorem crash1_zero (l : Files) (o : OpA) : crash1 l o 0 = l := if_pos rfl
theorem crash1_whole {l : Files} {o : OpA} {z : Int} (h0 : ¬ z = 0) (h : ¬ (o.kind = 1 ∧ 1 ≤ z ∧ z ≤ o.bytes.length)) : crash1 l o z = app1 l o := by
  unfold crash1 cutOp
  rw [if_neg h0, if_neg h]
theorem crash1_cut {l : Files} {nm nt : ByteArray} {bs : List Byte} {z : Int} (h1 : 1 ≤ z) (h2 : z ≤ bs.length) : crash1 l ⟨1, nm, nt, bs⟩ z = app1 l ⟨1, nm, nt, bs.take (z - 1).toNat⟩ := by
  unfold crash1 cutOp
  rw [if_neg (by omega), if_pos ⟨rfl, h1, h2⟩]
end Dk
end Go.Proofs.Ytnaidihoijociaa
