/- SatTimes: the walk. -/
import Derived.Test.YtfcdmfiblmnbkaaSatW
import Derived.Test.YtfcdmfiblmnbkaaFrame
namespace Go.Proofs.Ytfcdmfiblmnbkaa.satTimes
open Go.RowKit Sat
/-- a number, so often added -/
def rep (a : Int) : Nat → Int
  | 0 => 0
  | k + 1 => add (rep a k) a
theorem rep_cut (a : Int) (k : Nat) : rep a k = cut (num a * k) := by
  induction k with
  | zero => simp [rep, cut]
  | succ k ih =>
    have hn := num_nonneg a
    have h0 : 0 ≤ num a * (k : Int) := Int.mul_nonneg hn (by omega)
    have e : num a * ((k + 1 : Nat) : Int) = num a * (k : Int) + num a := by
      rw [show ((k + 1 : Nat) : Int) = (k : Int) + 1 from by omega, Int.mul_add, Int.mul_one]
    rw [rep, ih, e]
    unfold add
    rw [num_id _ (cut_bd _ h0).1]
    unfold cut
    (repeat' split) <;> omega
theorem rep_bd (a : Int) (k : Nat) : 0 ≤ rep a k ∧ rep a k ≤ 9223372036854775807 := by
  rw [rep_cut]; exact cut_bd _ (Int.mul_nonneg (num_nonneg a) (by omega))
theorem mul_rep (a : Int) (k : Nat) : mul a k = rep a k := by
  rw [rep_cut]; unfold mul; rw [num_id (k : Int) (by omega)]
theorem mul_zero' (a : Int) : mul a 0 = 0 := by have := mul_rep a 0; simpa [rep] using this
theorem mul_comm' (a b : Int) : mul a b = mul b a := by unfold mul; rw [Int.mul_comm]
theorem mul_ge (a b : Int) (ha : 0 < a) (ham : a ≤ 9223372036854775807) (hb : 0 < b) : a ≤ mul a b := by
  unfold mul
  rw [num_id a (by omega), num_id b (by omega)]
  have h : a * 1 ≤ a * b := Int.mul_le_mul_of_nonneg_left (by omega) (by omega)
  unfold cut
  split <;> omega
theorem less_le (a b : Int) : less (add a b) a ≤ add b 0 := by
  have h1 := num_nonneg a
  have h2 := num_nonneg b
  unfold less
  rw [num_id _ (add_bd a b).1]
  unfold add
  rw [num_id 0 (Int.le_refl 0)]
  unfold cut
  (repeat' split) <;> omega
theorem less_zero (a b : Int) (ha : a ≤ 9223372036854775807) : less a (add a b) = 0 := by
  have h1 := num_nonneg a
  have h2 := num_nonneg b
  have h3 := num_le a ha
  unfold less
  rw [num_id _ (add_bd a b).1]
  unfold add cut
  (repeat' split) <;> omega
theorem core (a b : Int) (k : Nat) (w : World) (ha : a ≤ 9223372036854775807) (hb : b ≤ 9223372036854775807) (hk : k ≤ 255) :
    Calls Try.prog 7 #[.int .i64 a, .int .u8 k, .int .i64 b] w fun e w' => e = .returned (.bool true) ∧ Below w.heap.size w w' := by
  go_enter Try.func7, Try.ntmps7
  go_wp2_with (go_at_call 14; refine (awake_c _).mono ?_; rintro e w' ⟨rfl, o, rfl⟩)
  go_loop [7, 8] (fun vn vi => ∃ j : Nat, j ≤ k ∧ vi = .int .i64 j ∧ vn = .int .i64 (rep a j)) (fun _ i => k - (intOf i).toNat)
  case atStart => exact ⟨0, Nat.zero_le _, rfl, rfl⟩
  case round =>
    obtain ⟨j, hj, rfl, rfl⟩ := hrel
    have hr := rep_bd a j
    by_cases hlt : j < k
    · go_wp2_with (go_at_call 15; refine (add_c _ _ _ (by omega) (by omega)).mono ?_; rintro e w' ⟨rfl, rfl⟩)
      go_round
      case rel => exact ⟨j + 1, by omega, by go_num, rfl⟩
      case measure => simp [intOf]; omega
    · obtain rfl : j = k := by omega
      have q1 : (mul a j != rep a j) = false := by rw [mul_rep]; simp
      have q2 : (mul a 0 != 0) = false := by rw [mul_zero']; simp
      have q1' : (mul a j == rep a j) = true := by rw [mul_rep]; simp
      have q2' : (mul a 0 == 0) = true := by rw [mul_zero']; simp
      have b1 := add_bd a b
      have b2 := add_bd b 0
      have b3 := less_le a b
      have b4 : (less a (add a b) == 0) = true := by rw [less_zero a b ha]; simp
      by_cases hap : 0 < a
      · by_cases hbp : 0 < b
        · have g1 := mul_ge a b hap ha hbp
          have g2 : b ≤ mul a b := by rw [mul_comm']; exact mul_ge b a hbp hb hap
          go_wp2_with (first
            | (go_at_call 15; refine (add_c _ _ _ (by omega) (by omega)).mono ?_; rintro e w' ⟨rfl, rfl⟩)
            | (go_at_call 17; refine (mul_c _ _ _ (by omega) (by omega)).mono ?_; rintro e w' ⟨rfl, rfl⟩)
            | (go_at_call 19; refine (less_c _ _ _ (by omega) (by omega)).mono ?_; rintro e w' ⟨rfl, rfl⟩))
          go_ret
          exact ⟨rfl, (Below.refl _ _).alloc (Nat.le_refl _) _⟩
        · go_wp2_with (first
            | (go_at_call 15; refine (add_c _ _ _ (by omega) (by omega)).mono ?_; rintro e w' ⟨rfl, rfl⟩)
            | (go_at_call 17; refine (mul_c _ _ _ (by omega) (by omega)).mono ?_; rintro e w' ⟨rfl, rfl⟩)
            | (go_at_call 19; refine (less_c _ _ _ (by omega) (by omega)).mono ?_; rintro e w' ⟨rfl, rfl⟩))
          go_ret
          exact ⟨rfl, (Below.refl _ _).alloc (Nat.le_refl _) _⟩
      · go_wp2_with (first
          | (go_at_call 15; refine (add_c _ _ _ (by omega) (by omega)).mono ?_; rintro e w' ⟨rfl, rfl⟩)
          | (go_at_call 17; refine (mul_c _ _ _ (by omega) (by omega)).mono ?_; rintro e w' ⟨rfl, rfl⟩)
          | (go_at_call 19; refine (less_c _ _ _ (by omega) (by omega)).mono ?_; rintro e w' ⟨rfl, rfl⟩))
        go_ret
        exact ⟨rfl, (Below.refl _ _).alloc (Nat.le_refl _) _⟩
theorem walk (v1 v2 v3 : Value) (w : World) (h1 : Frame.Arg Try.prog w 3 v1) (h2 : Frame.Arg Try.prog w 5 v2) (h3 : Frame.Arg Try.prog w 3 v3) :
    Calls Try.prog 7 #[v1, v2, v3] w fun e w' => e = .returned (.bool true) ∧ Below w.heap.size w w' := by
  obtain ⟨a, rfl, ha⟩ := h1.int Try.underlying3
  obtain ⟨k, rfl, hk⟩ := h2.int Try.underlying5
  obtain ⟨b, rfl, hb⟩ := h3.int Try.underlying3
  have hk' := Frame.bd_u8 hk
  obtain ⟨j, rfl⟩ := Int.eq_ofNat_of_zero_le hk'.1
  exact core a b j w (Frame.bd_i64 ha).2 (Frame.bd_i64 hb).2 (by omega)
end Go.Proofs.Ytfcdmfiblmnbkaa.satTimes
