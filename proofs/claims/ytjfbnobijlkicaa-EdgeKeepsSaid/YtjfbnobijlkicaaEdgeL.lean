/- The plain law of layer 3 (edge): float64s by their bits: rungs; how they stand; what is read. No Go in sight. -/
import Derived.Test.YtjfbnobijlkicaaMem
import Derived.Laws.FloatArith
namespace Go.Proofs.Ytjfbnobijlkicaa
open Go.RowKit
namespace Fl
/-- the sign; the rung -/
def sg (b : Nat) : Bool := decide (9223372036854775808 ≤ b)
def rg (b : Nat) : Nat := b % 9223372036854775808
/-- where a number stands -/
def sr (b : Nat) : Int := if sg b then -(rg b : Int) else rg b
def mag (r : Nat) : Nat := if r < 4503599627370496 then r else 4503599627370496 + r % 4503599627370496
def pl (r : Nat) : Nat := if r < 4503599627370496 then 0 else r / 4503599627370496 - 1
def mg (r : Nat) : Nat := mag r * 2 ^ pl r
theorem mg_succ (r : Nat) : mg r < mg (r + 1) := by
  unfold mg mag pl
  by_cases h : r + 1 < 4503599627370496
  · rw [if_pos h, if_pos h, if_pos (by omega), if_pos (by omega)]; omega
  · rw [if_neg h, if_neg h]
    by_cases h1 : r < 4503599627370496
    · rw [if_pos h1, if_pos h1]
      obtain rfl : r = 4503599627370495 := by omega
      decide
    · rw [if_neg h1, if_neg h1]
      by_cases h2 : r % 4503599627370496 = 4503599627370495
      · have e1 : (r + 1) % 4503599627370496 = 0 := by omega
        have e2 : (r + 1) / 4503599627370496 - 1 = (r / 4503599627370496 - 1) + 1 := by omega
        rw [e1, e2, h2, Nat.pow_succ]
        have := Nat.two_pow_pos (r / 4503599627370496 - 1)
        generalize 2 ^ (r / 4503599627370496 - 1) = p at *
        omega
      · have e1 : (r + 1) % 4503599627370496 = r % 4503599627370496 + 1 := by omega
        have e2 : (r + 1) / 4503599627370496 = r / 4503599627370496 := by omega
        rw [e1, e2]
        exact Nat.mul_lt_mul_of_pos_right (by omega) (Nat.two_pow_pos _)
theorem mg_mono {r s : Nat} (h : r < s) : mg r < mg s := by
  induction s with
  | zero => omega
  | succ s ih =>
    rcases Nat.lt_succ_iff_lt_or_eq.1 h with h | rfl
    · exact Nat.lt_trans (ih h) (mg_succ s)
    · exact mg_succ r
theorem mg_iff {r s : Nat} : mg r < mg s ↔ r < s := by
  constructor
  · intro h
    by_cases h1 : r < s
    · exact h1
    · rcases Nat.eq_or_lt_of_le (Nat.not_lt.1 h1) with rfl | h2
      · omega
      · have := mg_mono h2; omega
  · exact mg_mono
theorem mg_zero : mg 0 = 0 := by decide
/-- what a word stands for -/
theorem read_num {b : Nat} (hb : b < 18446744073709551616) (h : rg b < 9218868437227405312) : FloatKind.f64.format.read b = .number (sg b) (mag (rg b)) (-1074 + (pl (rg b) : Nat)) := by
  unfold Ieee.Format.read
  have e1 : FloatKind.f64.format.signWeight = 9223372036854775808 := by decide
  have e2 : FloatKind.f64.format.binade = 4503599627370496 := by decide
  have e3 : FloatKind.f64.format.infRung = 9218868437227405312 := by decide
  have e4 : FloatKind.f64.format.leastPlace = -1074 := by decide
  have e5 : (b / 9223372036854775808 % 2 == 1) = sg b := by
    unfold sg
    by_cases h : 9223372036854775808 ≤ b
    · have : b / 9223372036854775808 = 1 := by omega
      simp [this, h]
    · have : b / 9223372036854775808 = 0 := by omega
      simp [this, h]
  rw [e1, e2, e3, e4]
  dsimp only
  rw [e5]
  unfold mag pl
  unfold rg at *
  by_cases h1 : b % 9223372036854775808 < 4503599627370496
  · rw [if_pos h1, if_pos h1, if_pos h1]; rfl
  · rw [if_neg h1, if_neg h1, if_neg h1, if_pos h]
theorem read_inf {b : Nat} (hb : b < 18446744073709551616) (h : rg b = 9218868437227405312) : FloatKind.f64.format.read b = .infinity (sg b) := by
  unfold Ieee.Format.read
  have e1 : FloatKind.f64.format.signWeight = 9223372036854775808 := by decide
  have e2 : FloatKind.f64.format.binade = 4503599627370496 := by decide
  have e3 : FloatKind.f64.format.infRung = 9218868437227405312 := by decide
  have e5 : (b / 9223372036854775808 % 2 == 1) = sg b := by
    unfold sg
    by_cases h : 9223372036854775808 ≤ b
    · have : b / 9223372036854775808 = 1 := by omega
      simp [this, h]
    · have : b / 9223372036854775808 = 0 := by omega
      simp [this, h]
  rw [e1, e2, e3]
  dsimp only
  rw [e5]
  unfold rg at h
  rw [h, if_neg (by decide), if_neg (by decide), if_pos rfl]
theorem read_nan {b : Nat} (h : 9218868437227405312 < rg b) : ∃ s t, FloatKind.f64.format.read b = .nan s t := by
  unfold Ieee.Format.read
  have e1 : FloatKind.f64.format.signWeight = 9223372036854775808 := by decide
  have e2 : FloatKind.f64.format.binade = 4503599627370496 := by decide
  have e3 : FloatKind.f64.format.infRung = 9218868437227405312 := by decide
  rw [e1, e2, e3]
  dsimp only
  unfold rg at h
  rw [if_neg (by omega), if_neg (by omega), if_neg (by omega)]
  exact ⟨_, _, rfl⟩
def ordI (x y : Int) : Ordering := if x < y then .lt else if x = y then .eq else .gt
theorem compare_ordI (x y : Int) : compare x y = ordI x y := rfl
theorem ordI_mul (x y : Int) (c : Nat) (hc : 0 < c) : ordI (x * c) (y * c) = ordI x y := by
  have h1 : x * c < y * c ↔ x < y := by
    constructor
    · intro h
      exact Int.lt_of_mul_lt_mul_right h (by omega)
    · intro h
      exact Int.mul_lt_mul_of_pos_right h (by omega)
  have h2 : x * c = y * c ↔ x = y := by
    constructor
    · intro h
      exact Int.eq_of_mul_eq_mul_right (by omega) h
    · intro h; rw [h]
  unfold ordI
  simp only [h1, h2]
theorem signed_eq (s : Bool) (m k : Nat) : Ieee.signed s m k = (if s then -1 else 1) * ((m * 2 ^ k : Nat) : Int) := by
  unfold Ieee.signed
  rw [Nat.shiftLeft_eq]
  cases s <;> simp
theorem order_num {s t : Bool} {m n i j : Nat} : Ieee.Datum.order (.number s m (-1074 + (i : Nat))) (.number t n (-1074 + (j : Nat))) = some (ordI ((if s then -1 else 1) * ((m * 2 ^ i : Nat) : Int)) ((if t then -1 else 1) * ((n * 2 ^ j : Nat) : Int))) := by
  unfold Ieee.Datum.order
  dsimp only
  rw [compare_ordI, signed_eq, signed_eq]
  congr 1
  have e : min (-1074 + (i : Int)) (-1074 + (j : Int)) = -1074 + ((min i j : Nat) : Int) := by omega
  rw [e]
  have e1 : ((-1074 + (i : Int)) - (-1074 + ((min i j : Nat) : Int))).toNat = i - min i j := by omega
  have e2 : ((-1074 + (j : Int)) - (-1074 + ((min i j : Nat) : Int))).toNat = j - min i j := by omega
  rw [e1, e2, ← ordI_mul _ _ (2 ^ min i j) (Nat.two_pow_pos _)]
  congr 1
  · rw [Int.mul_assoc, ← Int.natCast_mul, Nat.mul_assoc, ← Nat.pow_add, Nat.sub_add_cancel (Nat.min_le_left _ _)]
  · rw [Int.mul_assoc, ← Int.natCast_mul, Nat.mul_assoc, ← Nat.pow_add, Nat.sub_add_cancel (Nat.min_le_right _ _)]
/-- how two words stand: as their signed rungs -/
theorem order_sr {a b : Nat} (ha : a < 18446744073709551616) (hb : b < 18446744073709551616) (na : rg a ≤ 9218868437227405312) (nb : rg b ≤ 9218868437227405312) : FloatKind.f64.format.order a b = some (ordI (sr a) (sr b)) := by
  unfold Ieee.Format.order
  rcases Nat.eq_or_lt_of_le na with ea | la
  · rw [read_inf ha ea]
    rcases Nat.eq_or_lt_of_le nb with eb | lb
    · rw [read_inf hb eb]
      unfold sr
      rw [ea, eb]
      generalize sg a = x
      generalize sg b = y
      cases x <;> cases y <;> rfl
    · rw [read_num hb lb]
      unfold Ieee.Datum.order sr ordI
      dsimp only
      rw [ea]
      generalize rg b = r at *
      generalize sg a = x
      generalize sg b = y
      cases x <;> cases y <;> simp <;> (repeat' split) <;> first | rfl | omega
  · rw [read_num ha la]
    rcases Nat.eq_or_lt_of_le nb with eb | lb
    · rw [read_inf hb eb]
      unfold Ieee.Datum.order sr ordI
      dsimp only
      rw [eb]
      generalize rg a = r at *
      generalize sg a = x
      generalize sg b = y
      cases x <;> cases y <;> simp <;> (repeat' split) <;> first | rfl | omega
    · rw [read_num hb lb, order_num]
      congr 1
      have h1 : mag (rg a) * 2 ^ pl (rg a) = mg (rg a) := rfl
      have h2 : mag (rg b) * 2 ^ pl (rg b) = mg (rg b) := rfl
      rw [h1, h2]
      unfold sr
      have i1 := @mg_iff (rg a) (rg b)
      have i2 := @mg_iff (rg b) (rg a)
      have z1 : 0 < mg (rg a) ↔ 0 < rg a := by rw [← mg_zero]; exact mg_iff
      have z2 : 0 < mg (rg b) ↔ 0 < rg b := by rw [← mg_zero]; exact mg_iff
      generalize mg (rg a) = p at *
      generalize mg (rg b) = q at *
      generalize rg a = r at *
      generalize rg b = t at *
      generalize sg a = x
      generalize sg b = y
      unfold ordI
      cases x <;> cases y <;> simp <;> (repeat' split) <;> first | rfl | omega
theorem order_nan {a b : Nat} (h : 9218868437227405312 < rg a ∨ 9218868437227405312 < rg b) : FloatKind.f64.format.order a b = none := by
  unfold Ieee.Format.order
  rcases h with h | h
  · obtain ⟨s, t, e⟩ := read_nan h
    rw [e]
    rfl
  · obtain ⟨s, t, e⟩ := read_nan h
    rw [e]
    cases FloatKind.f64.format.read a <;> rfl
end Fl
end Go.Proofs.Ytjfbnobijlkicaa
