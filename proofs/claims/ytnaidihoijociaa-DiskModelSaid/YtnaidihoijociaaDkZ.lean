/- The document's layer 10: Right. -/
import Derived.Test.YtnaidihoijociaaDkY
namespace Go.Proofs.Ytnaidihoijociaa
open Go.RowKit Go.Maps
namespace Dk
open Bs
open Crc (Byte)
set_option maxRecDepth 100000 in
set_option maxHeartbeats 4000000 in
theorem rright_c (kd : Int) (nm nt : ByteArray) (bs : List Byte) (bA : Option Addr) (bn bc : Nat) (w : World) (h1 : nm.size ≤ maxLen) (h2 : nt.size ≤ maxLen) :
    Calls Try.prog 24 #[.agg #[.int .i64 kd, .string nm, .string nt, .slice bA bn bc]] w fun e w' => e = .returned (.bool (right ⟨kd, nm, nt, bs⟩)) ∧ Below w.heap.size w w' := by
  have HB : Hid (Below w.heap.size w (w.alloc (.cells #[.int .i64 kd, .string nm, .string nt, .slice bA bn bc] 29))) := (Below.refl _ _).alloc (Nat.le_refl _) _
  unfold maxLen at h1 h2
  go_enter Try.func24, Try.ntmps24
  by_cases k1 : kd < 1
  · rw [show right ⟨kd, nm, nt, bs⟩ = false from by unfold right; simp; omega]
    go_wp2_with fail
    go_ret
    first | exact ⟨rfl, HB.out⟩ | (refine ⟨?_, HB.out⟩; simp; omega)
  by_cases k2 : 3 < kd
  · rw [show right ⟨kd, nm, nt, bs⟩ = false from by unfold right; simp; omega]
    go_wp2_with fail
    go_ret
    first | exact ⟨rfl, HB.out⟩ | (refine ⟨?_, HB.out⟩; simp; omega)
  by_cases n1 : nm.size < 1
  · rw [show right ⟨kd, nm, nt, bs⟩ = false from by unfold right; simp; omega]
    go_wp2_with fail
    go_ret
    first | exact ⟨rfl, HB.out⟩ | (refine ⟨?_, HB.out⟩; simp; omega)
  by_cases n2 : 32 < nm.size
  · rw [show right ⟨kd, nm, nt, bs⟩ = false from by unfold right; simp; omega]
    go_wp2_with fail
    go_ret
    first | exact ⟨rfl, HB.out⟩ | (refine ⟨?_, HB.out⟩; simp; omega)
  by_cases k3 : kd = 2
  · subst k3
    by_cases m1 : 1 ≤ nt.size
    · by_cases m2 : nt.size ≤ 32
      · rw [show right ⟨2, nm, nt, bs⟩ = true from by unfold right; simp; omega]
        go_wp2_with fail
        go_ret
        first | exact ⟨rfl, HB.out⟩ | (refine ⟨?_, HB.out⟩; simp; omega)
      · rw [show right ⟨2, nm, nt, bs⟩ = false from by unfold right; simp; omega]
        go_wp2_with fail
        go_ret
        first | exact ⟨rfl, HB.out⟩ | (refine ⟨?_, HB.out⟩; simp; omega)
    · rw [show right ⟨2, nm, nt, bs⟩ = false from by unfold right; simp; omega]
      go_wp2_with fail
      go_ret
      first | exact ⟨rfl, HB.out⟩ | (refine ⟨?_, HB.out⟩; simp; omega)
  · rw [show right ⟨kd, nm, nt, bs⟩ = true from by unfold right; simp; omega]
    go_wp2_with fail
    go_ret
    first | exact ⟨rfl, HB.out⟩ | (refine ⟨?_, HB.out⟩; simp; omega)
end Dk
end Go.Proofs.Ytnaidihoijociaa
