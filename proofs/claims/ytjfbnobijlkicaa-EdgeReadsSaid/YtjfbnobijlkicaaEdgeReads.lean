/- EdgeReads: the walk. -/
import Derived.Test.YtjfbnobijlkicaaEdgeB
import Derived.Test.YtjfbnobijlkicaaFrame
namespace Go.Proofs.Ytjfbnobijlkicaa.edgeReads
open Go.RowKit Fl
set_option maxRecDepth 100000 in
set_option maxHeartbeats 2000000 in
theorem core (b : Nat) (w : World) (hb : b < 18446744073709551616) :
    Calls Try.prog 3 #[.int .u64 b] w fun e w' => e = .returned (.bool true) ∧ Below w.heap.size w w' := by
  have fb := xfrom
  have K := Lib.hid (fun w => kind_c b w hb)
  have K2 := Lib.hid (fun w => rkind_c b w hb)
  have R := Lib.hid (fun w => read_c b w hb)
  have R2 := Lib.hid (fun w => rread_c b w hb)
  generalize decide (kd b ≠ 1) = ok at *
  generalize kd b = k at *
  generalize rdv b = r at *
  go_enter Try.func3, Try.ntmps3
  go_wp2_with fail
  refine (eawake_c _).mono ?_
  rintro e w1 ⟨rfl, L⟩
  go_wp2_with fail
  refine (R.out _).mono ?_
  rintro e w2 ⟨rfl, rfl⟩
  go_wp2_with fail
  refine (R2.out _).mono ?_
  rintro e w2 ⟨rfl, rfl⟩
  go_wp2_with fail
  refine (K.out _).mono ?_
  rintro e w2 ⟨rfl, rfl⟩
  go_wp2_with fail
  refine (K2.out _).mono ?_
  rintro e w2 ⟨rfl, rfl⟩
  go_wp2_with fail
  go_ret
  exact ⟨rfl, L⟩
theorem walk (v1 : Value) (w : World) (h1 : Frame.Arg Try.prog w 22 v1) :
    Calls Try.prog 3 #[v1] w fun e w' => e = .returned (.bool true) ∧ Below w.heap.size w w' := by
  obtain ⟨a, rfl, ha⟩ := h1.int Try.underlying22
  obtain ⟨a0, a1⟩ := Frame.bd_u64 ha
  obtain ⟨b, rfl⟩ : ∃ b : Nat, a = b := ⟨a.toNat, by omega⟩
  exact core b w (by omega)
end Go.Proofs.Ytjfbnobijlkicaa.edgeReads
