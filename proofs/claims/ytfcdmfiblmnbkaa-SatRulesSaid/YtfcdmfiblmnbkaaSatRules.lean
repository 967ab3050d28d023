/- SatRules: the walk. -/
import Derived.Test.YtfcdmfiblmnbkaaSatW
import Derived.Test.YtfcdmfiblmnbkaaFrame
namespace Go.Proofs.Ytfcdmfiblmnbkaa.satRules
open Go.RowKit Sat
theorem add_comm' (a b : Int) : add a b = add b a := by unfold add; rw [Int.add_comm]
theorem mul_comm' (a b : Int) : mul a b = mul b a := by unfold mul; rw [Int.mul_comm]
theorem add_assoc' (a b c : Int) : add (add a b) c = add a (add b c) := by
  have h1 := num_nonneg a
  have h2 := num_nonneg b
  have h3 := num_nonneg c
  have h4 := add_bd a b
  have h5 := add_bd b c
  show cut (num (add a b) + num c) = cut (num a + num (add b c))
  rw [num_id _ h4.1, num_id _ h5.1]
  unfold add cut
  split <;> split <;> split <;> split <;> omega
theorem add_ge (a b : Int) (ha : a ≤ 9223372036854775807) : a ≤ add a b := by
  have := num_nonneg b; have := num_nonneg a
  have : a ≤ num a := by unfold num; split <;> omega
  unfold add cut; split <;> omega
theorem less_add (a b : Int) (ha : 0 ≤ a) (hb : 0 ≤ b) (h : add a b ≠ 9223372036854775807) : less (add a b) b = a := by
  have e : add a b = a + b := by
    unfold add cut at *
    rw [num_id a ha, num_id b hb] at *
    split at h
    · rename_i h'; rw [if_pos h']
    · exact absurd rfl h
  rw [e]; unfold less
  rw [num_id _ (by omega), num_id _ hb, if_neg (by omega)]; omega
theorem core (a b c : Int) (w : World) (ha : a ≤ 9223372036854775807) (hb : b ≤ 9223372036854775807) (hc : c ≤ 9223372036854775807) :
    Calls Try.prog 5 #[.int .i64 a, .int .i64 b, .int .i64 c] w fun e w' => e = .returned (.bool true) ∧ Below w.heap.size w w' := by
  have b1 := add_bd a b
  have b2 := add_bd b c
  have b3 := add_bd a 0
  have g1 := add_ge a b ha
  have g2 : b ≤ add a b := by rw [add_comm']; exact add_ge b a hb
  have t1 : (add a b != add b a) = false := by rw [add_comm' b a]; simp
  have t2 : (add (add a b) c != add a (add b c)) = false := by rw [add_assoc']; simp
  have t3 : (mul a b != mul b a) = false := by rw [mul_comm']; simp
  have t1' : (add a b == add b a) = true := by rw [add_comm' b a]; simp
  have t2' : (add (add a b) c == add a (add b c)) = true := by rw [add_assoc']; simp
  have t3' : (mul a b == mul b a) = true := by rw [mul_comm']; simp
  by_cases n1 : a < 0
  · go_enter Try.func5, Try.ntmps5
    go_wp2_with (first
      | (go_at_call 14; refine (awake_c _).mono ?_; rintro e w' ⟨rfl, o, rfl⟩)
      | (go_at_call 15; refine (add_c _ _ _ (by omega) (by omega)).mono ?_; rintro e w' ⟨rfl, rfl⟩)
      | (go_at_call 17; refine (mul_c _ _ _ (by omega) (by omega)).mono ?_; rintro e w' ⟨rfl, rfl⟩))
    go_ret
    exact ⟨rfl, (Below.refl _ _).alloc (Nat.le_refl _) _⟩
  · by_cases n2 : b < 0
    · go_enter Try.func5, Try.ntmps5
      go_wp2_with (first
        | (go_at_call 14; refine (awake_c _).mono ?_; rintro e w' ⟨rfl, o, rfl⟩)
        | (go_at_call 15; refine (add_c _ _ _ (by omega) (by omega)).mono ?_; rintro e w' ⟨rfl, rfl⟩)
        | (go_at_call 17; refine (mul_c _ _ _ (by omega) (by omega)).mono ?_; rintro e w' ⟨rfl, rfl⟩))
      go_ret
      exact ⟨rfl, (Below.refl _ _).alloc (Nat.le_refl _) _⟩
    · by_cases n3 : add a b = 9223372036854775807
      · have f1 : (add a b == 9223372036854775807) = true := by simp [n3]
        clear n3
        go_enter Try.func5, Try.ntmps5
        go_wp2_with (first
          | (go_at_call 14; refine (awake_c _).mono ?_; rintro e w' ⟨rfl, o, rfl⟩)
          | (go_at_call 15; refine (add_c _ _ _ (by omega) (by omega)).mono ?_; rintro e w' ⟨rfl, rfl⟩)
          | (go_at_call 17; refine (mul_c _ _ _ (by omega) (by omega)).mono ?_; rintro e w' ⟨rfl, rfl⟩)
          | (go_at_call 21; refine (full_c _ _).mono ?_; rintro e w' ⟨rfl, rfl⟩))
        go_ret
        exact ⟨rfl, (Below.refl _ _).alloc (Nat.le_refl _) _⟩
      · have f1 : (add a b == 9223372036854775807) = false := by simp [n3]
        have f2 : (less (add a b) b == a) = true := by rw [less_add a b (by omega) (by omega) n3]; simp
        have f3 : (less (add a b) a == b) = true := by rw [add_comm', less_add b a (by omega) (by omega) (by rw [add_comm']; exact n3)]; simp
        clear n3
        go_enter Try.func5, Try.ntmps5
        go_wp2_with (first
          | (go_at_call 14; refine (awake_c _).mono ?_; rintro e w' ⟨rfl, o, rfl⟩)
          | (go_at_call 15; refine (add_c _ _ _ (by omega) (by omega)).mono ?_; rintro e w' ⟨rfl, rfl⟩)
          | (go_at_call 17; refine (mul_c _ _ _ (by omega) (by omega)).mono ?_; rintro e w' ⟨rfl, rfl⟩)
          | (go_at_call 19; refine (less_c _ _ _ (by omega) (by omega)).mono ?_; rintro e w' ⟨rfl, rfl⟩)
          | (go_at_call 21; refine (full_c _ _).mono ?_; rintro e w' ⟨rfl, rfl⟩))
        go_ret
        exact ⟨rfl, (Below.refl _ _).alloc (Nat.le_refl _) _⟩
theorem walk (v1 v2 v3 : Value) (w : World) (h1 : Frame.Arg Try.prog w 3 v1) (h2 : Frame.Arg Try.prog w 3 v2) (h3 : Frame.Arg Try.prog w 3 v3) :
    Calls Try.prog 5 #[v1, v2, v3] w fun e w' => e = .returned (.bool true) ∧ Below w.heap.size w w' := by
  obtain ⟨a, rfl, ha⟩ := h1.int Try.underlying3
  obtain ⟨b, rfl, hb⟩ := h2.int Try.underlying3
  obtain ⟨c, rfl, hc⟩ := h3.int Try.underlying3
  exact core a b c w (Frame.bd_i64 ha).2 (Frame.bd_i64 hb).2 (Frame.bd_i64 hc).2
end Go.Proofs.Ytfcdmfiblmnbkaa.satRules
