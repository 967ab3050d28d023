/- The walks of layer 3 (edge): the document's parts, kinds, ranks. -/
import Derived.Test.YtjfbnobijlkicaaRows
import Derived.WalkKit
import Derived.BigQuiet
import Derived.Deep.QuietTactic
import Derived.WalkLawsBesides
import Derived.WalkSpells
import Derived.OwnWalk
import Derived.Lib.Hide
import Derived.Test.YtjfbnobijlkicaaEdgeR
namespace Go.Proofs.Ytjfbnobijlkicaa
open Go.RowKit
namespace Fl
/-- exponent and fraction -/
def ex (b : Nat) : Nat := rg b / 4503599627370496
def fr (b : Nat) : Nat := rg b % 4503599627370496
theorem ex_lt (b : Nat) : ex b < 2048 := by unfold ex rg; omega
theorem fr_lt (b : Nat) : fr b < 4503599627370496 := by unfold fr; omega
theorem ex_of {b : Nat} (hb : b < 18446744073709551616) : ((b : Int) / 4503599627370496) % 2048 = ex b := by unfold ex rg; omega
theorem fr_of {b : Nat} (hb : b < 18446744073709551616) : (b : Int) % 4503599627370496 = fr b := by unfold fr rg; omega
theorem sg_of (b : Nat) : decide ((b : Int) ≥ 9223372036854775808) = sg b := by unfold sg; rw [decide_eq_decide]; omega
set_option maxRecDepth 100000 in
theorem parts_c (b : Nat) (w : World) (hb : b < 18446744073709551616) : Calls Try.prog 49 #[.float .f64 b] w fun e w' => e = .returned (.tuple #[.bool (sg b), .int .i64 (ex b), .int .u64 (fr b)]) ∧ w = w' := by
  have fb := xbits
  have d1 := ex_of hb
  have d2 := fr_of hb
  have d3 := sg_of b
  have b1 := ex_lt b
  have b2 := fr_lt b
  generalize ex b = x at *
  generalize fr b = y at *
  generalize sg b = s at *
  go_enter Try.func49, Try.ntmps49
  go_wp2_with fail
  go_ret3
  refine ⟨?_, rfl⟩
  rw [← d2]
  rfl
theorem pk_cases (b : Nat) : ((ex b : Int) == 2047) = true ∧ decide ((fr b : Int) > 0) = true ∧ kd b = 1 ∨ ((ex b : Int) == 2047) = true ∧ decide ((fr b : Int) > 0) = false ∧ kd b = (if sg b then 2 else 7) ∨ ((ex b : Int) == 2047) = false ∧ ((ex b : Int) == 0) = true ∧ ((fr b : Int) == 0) = true ∧ kd b = (if sg b then 4 else 5) ∨ ((ex b : Int) == 2047) = false ∧ ((ex b : Int) == 0) = true ∧ ((fr b : Int) == 0) = false ∧ kd b = (if sg b then 3 else 6) ∨ ((ex b : Int) == 2047) = false ∧ ((ex b : Int) == 0) = false ∧ kd b = (if sg b then 3 else 6) := by
  simp only [beq_iff_eq, beq_eq_false_iff_ne, decide_eq_true_eq, decide_eq_false_iff_not]
  unfold kd
  have he : ex b = rg b / 4503599627370496 := rfl
  have hf : fr b = rg b % 4503599627370496 := rfl
  have hl : rg b < 9223372036854775808 := by unfold rg; omega
  generalize ex b = x at *
  generalize fr b = y at *
  generalize rg b = r at *
  by_cases h1 : x = 2047
  · by_cases h2 : 0 < y
    · left; refine ⟨by omega, by omega, ?_⟩; rw [if_pos (by omega)]
    · right; left; refine ⟨by omega, by omega, ?_⟩; rw [if_neg (by omega), if_pos (by omega)]
  · right; right
    by_cases h2 : x = 0
    · by_cases h3 : y = 0
      · left; refine ⟨by omega, by omega, by omega, ?_⟩; rw [if_neg (by omega), if_neg (by omega), if_pos (by omega)]
      · right; left; refine ⟨by omega, by omega, by omega, ?_⟩; rw [if_neg (by omega), if_neg (by omega), if_neg (by omega)]
    · right; right; refine ⟨by omega, by omega, ?_⟩; rw [if_neg (by omega), if_neg (by omega), if_neg (by omega)]
set_option maxRecDepth 100000 in
set_option maxHeartbeats 2000000 in
theorem rkind_c (b : Nat) (w : World) (hb : b < 18446744073709551616) : Calls Try.prog 20 #[.float .f64 b] w fun e w' => e = .returned (.int .i64 (kd b)) ∧ w = w' := by
  have hp := Lib.hid (fun w => parts_c b w hb)
  have hc := pk_cases b
  generalize kd b = k at *
  generalize (ex b : Int) = x at *
  generalize (fr b : Int) = y at *
  generalize sg b = s at *
  rcases hc with ⟨c1, c2, e⟩ | ⟨c1, c2, e⟩ | ⟨c1, c2, c3, e⟩ | ⟨c1, c2, c3, e⟩ | ⟨c1, c2, e⟩
  · rw [e]; clear e
    go_enter Try.func20, Try.ntmps20
    go_wp2_with fail
    refine (hp.out _).mono ?_
    rintro e w' ⟨rfl, rfl⟩
    go_wp2_with fail
    go_ret
    exact ⟨rfl, rfl⟩
  all_goals
    cases s
    · simp only [Bool.false_eq_true, if_false] at e
      rw [e]; clear e
      go_enter Try.func20, Try.ntmps20
      go_wp2_with fail
      refine (hp.out _).mono ?_
      rintro e w' ⟨rfl, rfl⟩
      go_wp2_with fail
      go_ret
      exact ⟨rfl, rfl⟩
    · simp only [if_true] at e
      rw [e]; clear e
      go_enter Try.func20, Try.ntmps20
      go_wp2_with fail
      refine (hp.out _).mono ?_
      rintro e w' ⟨rfl, rfl⟩
      go_wp2_with fail
      go_ret
      exact ⟨rfl, rfl⟩
theorem kd_sgn {b : Nat} (h : ¬ kd b ≤ 5) : sg b = false := by
  cases hs : sg b
  · rfl
  · exfalso
    unfold kd at h
    rw [hs] at h
    simp only [if_true] at h
    revert h
    (repeat' split) <;> omega
theorem rr_law (b : Nat) : kd b = 1 ∧ rdv b = 0 ∨ (kd b ≠ 1 ∧ kd b ≤ 5 ∧ rdv b = 0) ∨ (kd b ≠ 1 ∧ ¬ kd b ≤ 5 ∧ 1086 ≤ ex b ∧ rdv b = 9223372036854775807) ∨ (kd b ≠ 1 ∧ ¬ kd b ≤ 5 ∧ ex b < 1023 ∧ rdv b = 0) ∨ (kd b ≠ 1 ∧ ¬ kd b ≤ 5 ∧ 1023 ≤ ex b ∧ ex b ≤ 1075 ∧ rdv b = ((4503599627370496 + fr b) / 2 ^ (1075 - ex b) : Nat)) ∨ (kd b ≠ 1 ∧ ¬ kd b ≤ 5 ∧ 1075 ≤ ex b ∧ ex b < 1086 ∧ rdv b = ((4503599627370496 + fr b) * 2 ^ (ex b - 1075) : Nat)) := by
  by_cases h1 : kd b = 1
  · left; refine ⟨h1, ?_⟩; unfold rdv; rw [h1]; rfl
  right
  by_cases h5 : kd b ≤ 5
  · left; refine ⟨h1, h5, ?_⟩; unfold rdv; rw [if_pos h5]
  right
  unfold rdv
  rw [if_neg h5]
  have he : ex b = rg b / 4503599627370496 := rfl
  have hf : fr b = rg b % 4503599627370496 := rfl
  have n1 := @fl_nil (rg b)
  have n2 := @fl_low (rg b)
  have n3 := @fl_high (rg b)
  rw [← he] at n1 n2 n3
  rw [← hf] at n2 n3
  by_cases c1 : 1086 ≤ ex b
  · left; refine ⟨h1, h5, c1, ?_⟩; rw [if_pos (by omega)]
  right
  rw [if_neg (by omega)]
  by_cases c2 : ex b < 1023
  · left; refine ⟨h1, h5, c2, ?_⟩; rw [n1 c2]; rfl
  right
  by_cases c3 : ex b ≤ 1075
  · left; refine ⟨h1, h5, by omega, c3, ?_⟩; rw [n2 c3]
  · right; refine ⟨h1, h5, by omega, by omega, ?_⟩; rw [n3 (by omega)]
/-- the loops of the document's Read -/
theorem half {m : Nat} {a j : Nat} (h : a ≤ j) : m / 2 ^ (j + 1 - a) = m / 2 ^ (j - a) / 2 := by
  rw [show j + 1 - a = j - a + 1 by omega, Nat.pow_succ, Nat.div_div_eq_div_mul]
end Fl
end Go.Proofs.Ytjfbnobijlkicaa
