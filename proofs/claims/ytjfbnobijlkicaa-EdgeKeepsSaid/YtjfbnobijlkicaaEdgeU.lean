/- The walks of layer 3 (edge): what the document reads; its ranks; how two stand by it; words of the library. -/
import Derived.Test.YtjfbnobijlkicaaRows
import Derived.WalkKit
import Derived.BigQuiet
import Derived.Deep.QuietTactic
import Derived.WalkLawsBesides
import Derived.WalkSpells
import Derived.OwnWalk
import Derived.Lib.Hide
import Derived.Test.YtjfbnobijlkicaaEdgeT
namespace Go.Proofs.Ytjfbnobijlkicaa
open Go.RowKit
namespace Fl
theorem dbl_bd {m a : Nat} (h : m < 9007199254740992) (ha : a ≤ 10) : m * 2 ^ a < 9223372036854775808 := by
  have : (2 : Nat) ^ a ≤ 2 ^ 10 := Nat.pow_le_pow_right (by omega) ha
  calc _ ≤ m * 2 ^ 10 := Nat.mul_le_mul_left _ this
    _ < 9223372036854775808 := by omega
theorem dbl {m x j : Nat} (h1 : 1075 < j) (h2 : j ≤ x) : m * 2 ^ (x - (j - 1)) = m * 2 ^ (x - j) * 2 := by
  rw [show x - (j - 1) = x - j + 1 by omega, Nat.pow_succ, Nat.mul_assoc]
set_option maxRecDepth 100000 in
set_option maxHeartbeats 2000000 in
theorem rread_c (b : Nat) (w : World) (hb : b < 18446744073709551616) : Calls Try.prog 18 #[.float .f64 b] w fun e w' => e = .returned (.tuple #[.int .i64 (rdv b), .bool (decide (kd b ≠ 1))]) ∧ w = w' := by
  have hk := Lib.hid (fun w => rkind_c b w hb)
  have hp := Lib.hid (fun w => parts_c b w hb)
  have f1 := fr_lt b
  rcases rr_law b with ⟨h1, e⟩ | ⟨h1, h5, e⟩ | ⟨h1, h5, hx, e⟩ | ⟨h1, h5, hx, e⟩ | ⟨h1, h5, hx, hy, e⟩ | ⟨h1, h5, hx, hy, e⟩
  · rw [e, decide_eq_false (by omega)]; clear e
    have d : (kd b == 1) = true := beq_iff_eq.2 h1
    clear h1
    generalize kd b = k at *
    go_enter Try.func18, Try.ntmps18
    go_wp2_with fail
    refine (hk.out _).mono ?_
    rintro e w' ⟨rfl, rfl⟩
    go_wp2_with fail
    go_ret2
    exact ⟨rfl, rfl⟩
  · rw [e, decide_eq_true h1]; clear e
    have d : (kd b == 1) = false := beq_eq_false_iff_ne.2 h1
    have d2 : decide (kd b ≤ 5) = true := decide_eq_true h5
    clear h1 h5
    generalize kd b = k at *
    go_enter Try.func18, Try.ntmps18
    go_wp2_with fail
    refine (hk.out _).mono ?_
    rintro e w' ⟨rfl, rfl⟩
    go_wp2_with fail
    go_ret2
    exact ⟨rfl, rfl⟩
  · rw [e, decide_eq_true h1]; clear e
    have d : (kd b == 1) = false := beq_eq_false_iff_ne.2 h1
    have d2 : decide (kd b ≤ 5) = false := decide_eq_false h5
    have d3 : decide ((ex b : Int) ≥ 1086) = true := decide_eq_true (by omega)
    clear h1 h5 hx
    generalize kd b = k at *
    generalize (ex b : Int) = x at *
    generalize fr b = y at *
    generalize sg b = s at *
    go_enter Try.func18, Try.ntmps18
    go_wp2_with fail
    refine (hk.out _).mono ?_
    rintro e w' ⟨rfl, rfl⟩
    go_wp2_with fail
    refine (hp.out _).mono ?_
    rintro e w' ⟨rfl, rfl⟩
    go_wp2_with fail
    go_ret2
    exact ⟨rfl, rfl⟩
  · rw [e, decide_eq_true h1]; clear e
    have d : (kd b == 1) = false := beq_eq_false_iff_ne.2 h1
    have d2 : decide (kd b ≤ 5) = false := decide_eq_false h5
    have d3 : decide ((ex b : Int) ≥ 1086) = false := decide_eq_false (by omega)
    have d4 : decide ((ex b : Int) < 1023) = true := decide_eq_true (by omega)
    clear h1 h5 hx
    generalize kd b = k at *
    generalize (ex b : Int) = x at *
    generalize fr b = y at *
    generalize sg b = s at *
    go_enter Try.func18, Try.ntmps18
    go_wp2_with fail
    refine (hk.out _).mono ?_
    rintro e w' ⟨rfl, rfl⟩
    go_wp2_with fail
    refine (hp.out _).mono ?_
    rintro e w' ⟨rfl, rfl⟩
    go_wp2_with fail
    go_ret2
    exact ⟨rfl, rfl⟩
  · have HE := Lib.hid e
    rw [decide_eq_true h1]; clear e
    have d : (kd b == 1) = false := beq_eq_false_iff_ne.2 h1
    have d2 : decide (kd b ≤ 5) = false := decide_eq_false h5
    clear h1 h5
    generalize kd b = k at *
    generalize ex b = x at *
    generalize fr b = y at *
    generalize sg b = s at *
    generalize rdv b = R at *
    go_enter Try.func18, Try.ntmps18
    go_wp2_with fail
    refine (hk.out _).mono ?_
    rintro e w' ⟨rfl, rfl⟩
    go_wp2_with fail
    refine (hp.out _).mono ?_
    rintro e w' ⟨rfl, rfl⟩
    go_wp2_with fail
    go_loop [6, 8] (fun v6 v8 => ∃ j X : Nat, x ≤ j ∧ j ≤ 1075 ∧ v6 = .int .i64 j ∧ v8 = .int .u64 X ∧ X < 9007199254740992 ∧ Hid ((4503599627370496 + y) / 2 ^ (j - x) = X)) (fun i _ => (1075 - intOf i).toNat)
    case atStart => exact ⟨x, y + 4503599627370496, by omega, by omega, by go_num, by go_num, by omega, Lib.hid (by rw [Nat.sub_self, Nat.pow_zero, Nat.div_one]; omega)⟩
    case round =>
      obtain ⟨j, X, g1, g2, rfl, rfl, g3, hX⟩ := hrel
      by_cases hj : j < 1075
      · have c : decide ((j : Int) < 1075) = true := decide_eq_true (by omega)
        go_wp2_with fail
        go_round
        case rel => exact ⟨j + 1, X / 2, by omega, by omega, by go_num, by go_num, by omega, Lib.hid (by rw [half g1, hX.out])⟩
        case measure => simp [intOf]; omega
      · have c : decide ((j : Int) < 1075) = false := decide_eq_false (by omega)
        have c2 : decide ((j : Int) > 1075) = false := decide_eq_false (by omega)
        have HJ : Hid (j = 1075) := Lib.hid (by omega)
        go_wp2_with fail
        go_loop [6, 8] (fun v6 v8 => v6 = .int .i64 j ∧ v8 = .int .u64 X) (fun _ _ => 0)
        case atStart => exact ⟨rfl, rfl⟩
        case round =>
          obtain ⟨rfl, rfl⟩ := hrel
          go_wp2_with fail
          go_ret2
          refine ⟨?_, rfl⟩
          rw [HE.out, ← HJ.out, hX.out]
          rfl
  · have HE := Lib.hid e
    rw [decide_eq_true h1]; clear e
    have d : (kd b == 1) = false := beq_eq_false_iff_ne.2 h1
    have d2 : decide (kd b ≤ 5) = false := decide_eq_false h5
    clear h1 h5
    generalize kd b = k at *
    generalize ex b = x at *
    generalize fr b = y at *
    generalize sg b = s at *
    generalize rdv b = R at *
    go_enter Try.func18, Try.ntmps18
    go_wp2_with fail
    refine (hk.out _).mono ?_
    rintro e w' ⟨rfl, rfl⟩
    go_wp2_with fail
    refine (hp.out _).mono ?_
    rintro e w' ⟨rfl, rfl⟩
    go_wp2_with fail
    go_loop [6, 8] (fun v6 v8 => v6 = .int .i64 x ∧ v8 = .int .u64 ((y + 4503599627370496 : Nat) : Int)) (fun _ _ => 0)
    case atStart => exact ⟨by go_num, by go_num⟩
    case round =>
      obtain ⟨rfl, rfl⟩ := hrel
      have c : decide ((x : Int) < 1075) = false := decide_eq_false (by omega)
      generalize hM : y + 4503599627370496 = M at *
      have hM2 := Lib.hid hM
      have hM3 : M < 9007199254740992 := by omega
      clear hM
      go_wp2_with fail
      go_loop [6, 8] (fun v6 v8 => ∃ j X : Nat, 1075 ≤ j ∧ j ≤ x ∧ v6 = .int .i64 j ∧ v8 = .int .u64 X ∧ X < 9223372036854775808 ∧ Hid (M * 2 ^ (x - j) = X)) (fun i _ => (intOf i - 1075).toNat)
      case atStart => exact ⟨x, M, by omega, by omega, by go_num, by go_num, by omega, Lib.hid (by rw [Nat.sub_self, Nat.pow_zero, Nat.mul_one])⟩
      case round =>
        obtain ⟨j, X, g1, g2, rfl, rfl, g3, hX⟩ := hrel
        by_cases hj : 1075 < j
        · have c : decide ((j : Int) > 1075) = true := decide_eq_true (by omega)
          have hX2 : Hid (M * 2 ^ (x - (j - 1)) = X * 2) := Lib.hid (by rw [dbl hj g2, hX.out])
          have g4 : X * 2 < 9223372036854775808 := by
            rw [← hX2.out]; exact dbl_bd hM3 (by omega)
          go_wp2_with fail
          go_round
          case rel => exact ⟨j - 1, X * 2, by omega, by omega, by go_num, by go_num, by omega, hX2⟩
          case measure => simp [intOf]; omega
        · have c : decide ((j : Int) > 1075) = false := decide_eq_false (by omega)
          have HJ : Hid (j = 1075) := Lib.hid (by omega)
          go_wp2_with fail
          go_ret2
          refine ⟨?_, rfl⟩
          rw [HE.out, ← HJ.out, ← hX.out, ← hM2.out, Nat.add_comm 4503599627370496 y]
          rfl
end Fl
end Go.Proofs.Ytjfbnobijlkicaa
