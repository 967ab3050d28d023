/- The plain law of layer 1 (sat): numbers that stop at Most. No Go in sight. -/
import Derived.Calls
namespace Go.Proofs.Ythccojfflmfggaa
namespace Sat
/-- what is handed in, as a number -/
def num (a : Int) : Int := if a < 0 then 0 else a
def cut (n : Int) : Int := if n ≤ 9223372036854775807 then n else 9223372036854775807
def add (a b : Int) : Int := cut (num a + num b)
def mul (a b : Int) : Int := cut (num a * num b)
def less (a b : Int) : Int := if num a < num b then 0 else num a - num b
def sum (l : List Int) : Int := l.foldl add 0
theorem num_nonneg (a : Int) : 0 ≤ num a := by unfold num; split <;> omega
theorem num_le (a : Int) (h : a ≤ 9223372036854775807) : num a ≤ 9223372036854775807 := by unfold num; split <;> omega
theorem num_id (a : Int) (h : 0 ≤ a) : num a = a := by unfold num; split <;> omega
theorem cut_bd (a : Int) (h : 0 ≤ a) : 0 ≤ cut a ∧ cut a ≤ 9223372036854775807 := by unfold cut; split <;> omega
theorem cut_cut (a : Int) : cut (cut a) = cut a := by unfold cut; split <;> simp_all
theorem add_bd (a b : Int) : 0 ≤ add a b ∧ add a b ≤ 9223372036854775807 := by
  have := num_nonneg a; have := num_nonneg b; unfold add; exact cut_bd _ (by omega)
theorem mul_bd (a b : Int) : 0 ≤ mul a b ∧ mul a b ≤ 9223372036854775807 := by
  have := num_nonneg a; have := num_nonneg b; unfold mul; exact cut_bd _ (Int.mul_nonneg (num_nonneg a) (num_nonneg b))
theorem less_bd (a b : Int) (ha : a ≤ 9223372036854775807) : 0 ≤ less a b ∧ less a b ≤ 9223372036854775807 := by
  have := num_nonneg a; have := num_nonneg b; have := num_le a ha; unfold less; split <;> omega

theorem mul_over {a b : Int} (hb : 0 < num b) (h : 9223372036854775807 / num b < num a) : mul a b = 9223372036854775807 := by
  have h1 := (Int.ediv_lt_iff_lt_mul hb).1 h
  unfold mul cut
  rw [if_neg (by omega)]
theorem mul_under {a b : Int} (hb : 0 < num b) (h : num a ≤ 9223372036854775807 / num b) : mul a b = num a * num b ∧ 0 ≤ num a * num b ∧ num a * num b ≤ 9223372036854775807 := by
  have h1 := (Int.le_ediv_iff_mul_le hb).1 h
  unfold mul cut
  rw [if_pos (by omega)]
  exact ⟨rfl, Int.mul_nonneg (num_nonneg a) (num_nonneg b), h1⟩
theorem mul_none {a b : Int} (hb : num b ≤ 0) : mul a b = 0 ∧ num a * num b = 0 := by
  have h0 : num b = 0 := by have := num_nonneg b; omega
  unfold mul cut
  rw [h0, Int.mul_zero]
  exact ⟨rfl, rfl⟩

/-- by doubling: what stays, round by round -/
theorem double_step {x y o : Int} (hx : 0 ≤ x) (hxm : x ≤ 9223372036854775807) (hy : 0 < y) (ho : 0 ≤ o) :
    cut (o + x * y) = cut ((if y % 2 = 1 then cut (o + x) else o) + cut (x + x) * (y / 2)) := by
  have e : y = 2 * (y / 2) + y % 2 := by omega
  have hq : 0 ≤ y / 2 := by omega
  generalize hk : y / 2 = k at *
  have hm : y % 2 = 0 ∨ y % 2 = 1 := by omega
  have exy : x * y = 2 * (x * k) + x * (y % 2) := by
    rw [e, Int.mul_add]
    have : x * (2 * k) = 2 * (x * k) := by rw [Int.mul_left_comm]
    rw [this]
    have : (2 * k + y % 2) % 2 = y % 2 := by omega
    rw [this]
  have hxk : 0 ≤ x * k := Int.mul_nonneg hx hq
  have e2 : (x + x) * k = 2 * (x * k) := by rw [← Int.two_mul, Int.mul_assoc]
  rcases Int.lt_or_le 9223372036854775807 (x + x) with hbig | hbig
  · have hc : cut (x + x) = 9223372036854775807 := by unfold cut; rw [if_neg (by omega)]
    rw [hc]
    rcases Int.lt_or_le 0 k with hk0 | hk0
    · have h1 : x + x ≤ 2 * (x * k) := by
        have : x * 1 ≤ x * k := Int.mul_le_mul_of_nonneg_left (by omega) hx
        omega
      have h2 : (9223372036854775807 : Int) ≤ 9223372036854775807 * k := by omega
      have h3 : 0 ≤ cut (o + x) := (cut_bd _ (by omega)).1
      have h4 : 0 ≤ x * (y % 2) := Int.mul_nonneg hx (by omega)
      have l : cut (o + x * y) = 9223372036854775807 := by unfold cut; split <;> omega
      rw [l]
      unfold cut at *
      split <;> split <;> first | omega | (split at h3 <;> omega)
    · have hk1 : k = 0 := by omega
      subst hk1
      have hy1 : y % 2 = 1 := by omega
      have ey : y = 1 := by omega
      subst ey
      simp only [Int.mul_zero, Int.add_zero, Int.mul_one]
      rw [if_pos (by omega), cut_cut]
  · have hc : cut (x + x) = x + x := by unfold cut; rw [if_pos hbig]
    rw [hc, e2, exy]
    rcases hm with hm | hm
    · rw [hm, Int.mul_zero, if_neg (by omega), Int.add_zero]
    · rw [hm, Int.mul_one, if_pos rfl]
      unfold cut
      split <;> split <;> (try split) <;> omega
theorem if_cut (a : Int) : (if a ≤ 9223372036854775807 then a else 9223372036854775807) = cut a := rfl
theorem cut_small {a : Int} (h : a ≤ 9223372036854775807) : cut a = a := by unfold cut; rw [if_pos h]

theorem sum_nil : sum [] = 0 := rfl
theorem sum_snoc (l : List Int) (a : Int) : sum (l ++ [a]) = add (sum l) a := by unfold sum; rw [List.foldl_append]; rfl
theorem sum_bd (l : List Int) : 0 ≤ sum l ∧ sum l ≤ 9223372036854775807 := by
  rcases List.eq_nil_or_concat l with h | ⟨l', a, h⟩
  · subst h; decide
  · subst h; rw [List.concat_eq_append, sum_snoc]; exact add_bd _ _
end Sat
end Go.Proofs.Ythccojfflmfggaa
