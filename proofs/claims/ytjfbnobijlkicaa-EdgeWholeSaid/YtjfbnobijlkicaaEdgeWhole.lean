/- EdgeWhole: the walk. -/
import Derived.Test.YtjfbnobijlkicaaEdgeB
import Derived.Test.YtjfbnobijlkicaaEdgeZ
import Derived.Test.YtjfbnobijlkicaaFrame
namespace Go.Proofs.Ytjfbnobijlkicaa.edgeWhole
open Go.RowKit Fl
set_option maxRecDepth 100000 in
set_option maxHeartbeats 2000000 in
theorem core (n p : Nat) (w : World) (hn : n < 18446744073709551616) (hp : p < 65536) :
    Calls Try.prog 6 #[.int .u64 n, .int .u16 p] w fun e w' => e = .returned (.bool true) ∧ Below w.heap.size w w' := by
  obtain ⟨k, hk⟩ : ∃ k : Nat, n % 9007199254740992 = k := ⟨_, rfl⟩
  have k1 : k < 9007199254740992 := by omega
  have dk : (n : Int) % 9007199254740992 = k := by omega
  clear hk
  obtain ⟨m, hm⟩ : ∃ m : Nat, k % 68719476736 = m := ⟨_, rfl⟩
  have m1 : m < 68719476736 := by omega
  have dm : (k : Int) % 68719476736 = m := by omega
  have dm2 : (k : Int).tmod 68719476736 = m := by rw [Int.tmod_eq_emod_of_nonneg (by omega)]; exact dm
  clear hm
  -- the first
  obtain ⟨a1, a2, a3⟩ := rd_whole k1
  have R1 := fun w => read_c (whole k) w a3
  rw [decide_eq_true a1, a2] at R1
  have R1 := Lib.hid R1
  -- the second
  obtain ⟨mm, ii, hx⟩ := read_ng_whole k1
  obtain ⟨r, hr, hs⟩ := sub_half hx
  obtain ⟨b1, b2, b3⟩ := rd_neg hr
  have R2 := fun w => read_c (wd true r) w b3
  rw [decide_eq_true b1, b2] at R2
  have R2 := Lib.hid R2
  have S2 : ∀ w, (binOp .sub 24 (.float .f64 (ng (whole k))) (.float .f64 4602678819172646912)).run Try.prog w = .ok (.float .f64 (wd true r)) w := fun w => run_float_arith w .sub _ .f64 _ _ _ hs
  have hneg : Op.unary .neg (.float .f64 (whole k)) = (pure (.float .f64 (ng (whole k))) : Sem Value) := rfl
  -- the third
  obtain ⟨x, hx1, hx2⟩ := read_whole (show m < 9007199254740992 by omega)
  obtain ⟨q, y, hy1, hq, hq2⟩ := div_part hp
  obtain ⟨s, hs1, c1, c2, c3⟩ := add_part m1 hp hx1 hy1 hx2 hq2
  have R3 := fun w => read_c s w c3
  rw [decide_eq_true c1, c2] at R3
  have R3 := Lib.hid R3
  have S3 : ∀ w, (binOp .quo 24 (.float .f64 (whole p)) (.float .f64 4679240012837945344)).run Try.prog w = .ok (.float .f64 q) w := fun w => run_float_arith w .quo _ .f64 _ _ _ hq
  have S4 : ∀ w, (binOp .add 24 (.float .f64 (whole m)) (.float .f64 q)).run Try.prog w = .ok (.float .f64 s) w := fun w => run_float_arith w .add _ .f64 _ _ _ hs1
  have f1 : floatOfInt .f64 (k : Int) = whole k := of_int
  have f2 : floatOfInt .f64 (m : Int) = whole m := of_int
  have f3 : floatOfInt .f64 (p : Int) = whole p := of_int
  clear a1 a2 a3 hx hr hs b1 b2 b3 hx1 hx2 hy1 hq hq2 hs1 c1 c2 c3
  generalize whole k = wk at *
  generalize whole m = wm at *
  generalize whole p = wp at *
  generalize ng wk = nk at *
  generalize wd true r = wr at *
  go_enter Try.func6, Try.ntmps6
  go_wp2_with fail
  refine (eawake_c _).mono ?_
  rintro e w1 ⟨rfl, L⟩
  go_wp2_with fail
  refine (R1.out _).mono ?_
  rintro e w2 ⟨rfl, rfl⟩
  go_wp2_with fail
  refine (R2.out _).mono ?_
  rintro e w2 ⟨rfl, rfl⟩
  go_wp2_with fail
  refine (R3.out _).mono ?_
  rintro e w2 ⟨rfl, rfl⟩
  go_wp2_with fail
  go_ret
  exact ⟨rfl, L⟩
theorem walk (v1 v2 : Value) (w : World) (h1 : Frame.Arg Try.prog w 22 v1) (h2 : Frame.Arg Try.prog w 40 v2) :
    Calls Try.prog 6 #[v1, v2] w fun e w' => e = .returned (.bool true) ∧ Below w.heap.size w w' := by
  obtain ⟨a, rfl, ha⟩ := h1.int Try.underlying22
  obtain ⟨a0, a1⟩ := Frame.bd_u64 ha
  obtain ⟨a, rfl⟩ : ∃ b : Nat, a = b := ⟨a.toNat, by omega⟩
  obtain ⟨b, rfl, hb⟩ := h2.int Try.underlying40
  obtain ⟨b0, b1⟩ := Frame.bd_u16 hb
  obtain ⟨b, rfl⟩ : ∃ c : Nat, b = c := ⟨b.toNat, by omega⟩
  exact core a b w (by omega) (by omega)
end Go.Proofs.Ytjfbnobijlkicaa.edgeWhole
