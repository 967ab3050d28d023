/- The plain law of layer 3 (edge): kinds; signs turned. -/
import Derived.Test.YtjfbnobijlkicaaEdgeL
namespace Go.Proofs.Ytjfbnobijlkicaa
open Go.RowKit
namespace Fl
def kd (b : Nat) : Int := if 9218868437227405312 < rg b then 1 else if rg b = 9218868437227405312 then (if sg b then 2 else 7) else if rg b = 0 then (if sg b then 4 else 5) else if sg b then 3 else 6
/-- a sign turned -/
def ng (b : Nat) : Nat := b ^^^ 9223372036854775808
theorem ng_neg (b : Nat) : Op.negFloat .f64 b = ng b := rfl
theorem ng_val {b : Nat} (hb : b < 18446744073709551616) : ng b = if 9223372036854775808 ≤ b then b - 9223372036854775808 else b + 9223372036854775808 := by
  have e : ng b = (ng b / 2 ^ 63) * 2 ^ 63 + ng b % 2 ^ 63 := by omega
  rw [e]
  unfold ng
  rw [Nat.xor_div_two_pow, Nat.xor_mod_two_pow]
  rw [show (9223372036854775808 : Nat) / 2 ^ 63 = 1 from rfl, show (9223372036854775808 : Nat) % 2 ^ 63 = 0 from rfl, Nat.xor_zero]
  by_cases h : 9223372036854775808 ≤ b
  · rw [if_pos h, show b / 2 ^ 63 = 1 by omega]
    have : (1 ^^^ 1 : Nat) = 0 := by decide
    rw [this]
    omega
  · rw [if_neg h, show b / 2 ^ 63 = 0 by omega]
    have : (0 ^^^ 1 : Nat) = 1 := by decide
    rw [this]
    omega
theorem ng_lt {b : Nat} (hb : b < 18446744073709551616) : ng b < 18446744073709551616 := by rw [ng_val hb]; split <;> omega
theorem ng_rg {b : Nat} (hb : b < 18446744073709551616) : rg (ng b) = rg b := by rw [ng_val hb]; unfold rg; split <;> omega
theorem ng_sg {b : Nat} (hb : b < 18446744073709551616) : sg (ng b) = !sg b := by
  rw [ng_val hb]; unfold sg
  split
  · rename_i h; rw [decide_eq_true h, decide_eq_false (by omega)]; rfl
  · rename_i h; rw [decide_eq_false h, decide_eq_true (by omega)]; rfl
theorem ng_sr {b : Nat} (hb : b < 18446744073709551616) : sr (ng b) = -sr b := by
  unfold sr
  rw [ng_rg hb, ng_sg hb]
  cases sg b <;> simp
theorem rg_val {b : Nat} (hb : b < 18446744073709551616) : rg b = if 9223372036854775808 ≤ b then b - 9223372036854775808 else b := by unfold rg; split <;> omega
theorem sr_max : sr 9218868437227405311 = 9218868437227405311 := by unfold sr sg rg; rw [decide_eq_false (by omega)]; simp
theorem sr_zero : sr 0 = 0 := by unfold sr sg rg; rw [decide_eq_false (by omega)]; simp
theorem rg_max : rg 9218868437227405311 ≤ 9218868437227405312 := by unfold rg; omega
theorem rg_zero : rg 0 ≤ 9218868437227405312 := by unfold rg; omega
/-- the same, by the parts -/
def kdp (x : Bool) (r : Nat) : Int := if 9218868437227405312 < r then 1 else if r = 9218868437227405312 then (if x then 2 else 7) else if r = 0 then (if x then 4 else 5) else if x then 3 else 6
theorem kd_p (b : Nat) : kd b = kdp (sg b) (rg b) := rfl
def srp (x : Bool) (r : Nat) : Int := if x then -(r : Int) else r
theorem sr_p (b : Nat) : sr b = srp (sg b) (rg b) := rfl
theorem kdp_cases (x : Bool) (r : Nat) : kdp x r = 1 ∧ 9218868437227405312 < r ∨ kdp x r = 2 ∧ srp x r = -9218868437227405312 ∨ kdp x r = 3 ∧ srp x r < 0 ∧ -9218868437227405312 < srp x r ∨ kdp x r = 4 ∧ r = 0 ∧ x = true ∨ kdp x r = 5 ∧ r = 0 ∧ x = false ∨ kdp x r = 6 ∧ 0 < srp x r ∧ srp x r < 9218868437227405312 ∨ kdp x r = 7 ∧ srp x r = 9218868437227405312 := by
  unfold kdp srp
  cases x
  · simp only [Bool.false_eq_true, if_false, and_false, or_false, false_or, and_true]
    (repeat' split) <;> omega
  · simp only [Bool.true_eq_false, if_true, and_false, or_false, false_or, and_true]
    (repeat' split) <;> omega
theorem ord_gt (x y : Int) : (some (ordI x y) == some Ordering.gt) = decide (y < x) := by
  unfold ordI
  split
  · rw [decide_eq_false (by omega)]; rfl
  · split
    · rw [decide_eq_false (by omega)]; rfl
    · rw [decide_eq_true (by omega)]; rfl
theorem ord_lt (x y : Int) : (some (ordI x y) == some Ordering.lt) = decide (x < y) := by
  unfold ordI
  split
  · rename_i h; rw [decide_eq_true h]; rfl
  · rename_i h; rw [decide_eq_false h]; split <;> rfl
theorem ord_eq (x y : Int) : (some (ordI x y) == some Ordering.eq) = decide (x = y) := by
  unfold ordI
  split
  · rw [decide_eq_false (by omega)]; rfl
  · split
    · rename_i h; rw [decide_eq_true h]; rfl
    · rename_i h; rw [decide_eq_false h]; rfl
theorem ord_ne (x y : Int) : (some (ordI x y) != some Ordering.eq) = decide (x ≠ y) := by
  rw [bne, ord_eq]; simp
/-- what the comparisons in Kind give -/
structure KF (b : Nat) (k : Int) where
  n : (FloatKind.f64.format.order b b != some .eq) = decide (k = 1)
  i : k ≠ 1 → (FloatKind.f64.format.order (ng b) 9218868437227405311 == some .gt) = decide (k = 2)
  p : k ≠ 1 → (FloatKind.f64.format.order b 9218868437227405311 == some .gt) = decide (k = 7)
  l : k ≠ 1 → (FloatKind.f64.format.order b 0 == some .lt) = decide (k ≤ 3)
  g : k ≠ 1 → (FloatKind.f64.format.order b 0 == some .gt) = decide (6 ≤ k)
  s : k = 4 ∨ k = 5 → sg b = decide (k = 4)
  k : k = 1 ∨ k = 2 ∨ k = 3 ∨ k = 4 ∨ k = 5 ∨ k = 6 ∨ k = 7
theorem kf {b : Nat} (hb : b < 18446744073709551616) : KF b (kd b) := by
  have hc := kdp_cases (sg b) (rg b)
  rw [← kd_p, ← sr_p] at hc
  by_cases hn : 9218868437227405312 < rg b
  · have hk : kd b = 1 := by unfold kd; rw [if_pos hn]
    rw [hk]
    exact ⟨by rw [order_nan (.inl hn)]; rfl, fun h => absurd rfl h, fun h => absurd rfl h, fun h => absurd rfl h, fun h => absurd rfl h, fun h => by omega, .inl rfl⟩
  · have hle : rg b ≤ 9218868437227405312 := by omega
    have hz : rg b = 0 → sr b = 0 := by intro h; unfold sr; rw [h]; simp
    have o1 := order_sr hb hb hle hle
    have o2 := order_sr (ng_lt hb) (show 9218868437227405311 < 18446744073709551616 by omega) (by rw [ng_rg hb]; exact hle) rg_max
    have o3 := order_sr hb (show 9218868437227405311 < 18446744073709551616 by omega) hle rg_max
    have o4 := order_sr hb (show 0 < 18446744073709551616 by omega) hle rg_zero
    rw [ng_sr hb, sr_max] at o2
    rw [sr_max] at o3
    rw [sr_zero] at o4
    generalize kd b = k at *
    generalize rg b = r at *
    constructor
    · rw [o1, ord_ne, decide_eq_decide]; omega
    · intro _; rw [o2, ord_gt, decide_eq_decide]; omega
    · intro _; rw [o3, ord_gt, decide_eq_decide]; omega
    · intro _; rw [o4, ord_lt, decide_eq_decide]; omega
    · intro _; rw [o4, ord_gt, decide_eq_decide]; omega
    · intro h
      by_cases h4 : k = 4
      · rw [decide_eq_true h4]
        rcases hc with h | h | h | h | h | h | h <;> first | exact h.2.2 | omega
      · rw [decide_eq_false h4]
        rcases hc with h | h | h | h | h | h | h <;> first | exact h.2.2 | omega
    · omega
end Fl
end Go.Proofs.Ytjfbnobijlkicaa
