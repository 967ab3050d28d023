/- The walks of layer 13 (qos): thousandths. -/
import Derived.Test.YtgdbpjaebdlnjaaWideA
import Derived.Deep.DeepCutAuto
namespace Go.Proofs.Ytgdbpjaebdlnjaa
open Go.RowKit
open Wide
open Sat (num)
namespace Qos
/-- the greatest number up to n that a test lets by -/
def upTo (f : Nat → Bool) : Nat → Nat
  | 0 => 0
  | k + 1 => if f (k + 1) then k + 1 else upTo f k
theorem upTo_le (f : Nat → Bool) : (n : Nat) → upTo f n ≤ n
  | 0 => Nat.le_refl _
  | k + 1 => by unfold upTo; split <;> have := upTo_le f k <;> omega
theorem upTo_is (f : Nat → Bool) (n lo : Nat) (h : lo ≤ n) (h1 : ∀ k, lo < k → k ≤ n → f k = false) (h2 : lo = 0 ∨ f lo = true) : upTo f n = lo := by
  induction n with
  | zero => simp [upTo]; omega
  | succ n ih =>
    unfold upTo
    rcases Nat.lt_or_ge n lo with h3 | h3
    · obtain rfl : lo = n + 1 := by omega
      rcases h2 with h2 | h2
      · omega
      · rw [if_pos h2]
    · rw [if_neg (by rw [h1 (n + 1) (by omega) (Nat.le_refl _)]; simp)]
      exact ih h3 (fun k hk hk' => h1 k hk (by omega))
/-- is k thousandths of the whole no more than the part? -/
def fits (part whole : Int) (k : Nat) : Bool := decide (Wide.compare k whole part 1000 ≤ 0)
def thou (part whole : Int) : Nat := upTo (fits part whole) 1000
theorem fits_iff (part whole : Int) (k : Nat) : fits part whole k = decide ((k : Int) * num whole ≤ num part * 1000) := by
  unfold fits Wide.compare cmpP
  have : num (k : Int) = k := by unfold num; rw [if_neg (by omega)]
  have h2 : num (1000 : Int) = 1000 := rfl
  rw [this, h2]
  rw [decide_eq_decide]
  (repeat' split) <;> omega
theorem num_nonneg (a : Int) : 0 ≤ num a := by unfold num; split <;> omega
theorem fits_down {part whole : Int} {k j : Nat} (h : fits part whole k = true) (hj : j ≤ k) : fits part whole j = true := by
  rw [fits_iff] at h ⊢
  simp only [decide_eq_true_eq] at h ⊢
  have : (j : Int) * num whole ≤ k * num whole := Int.mul_le_mul_of_nonneg_right (by omega) (num_nonneg whole)
  omega
theorem fits_zero (part whole : Int) : fits part whole 0 = true := by
  rw [fits_iff]
  have := num_nonneg part
  simp; omega
theorem thou_le (part whole : Int) : thou part whole ≤ 1000 := upTo_le _ _
set_option maxRecDepth 100000 in
theorem thou_c (part whole : Int) (w : World) (hp : part ≤ 9223372036854775807) (hw : whole ≤ 9223372036854775807) :
    Calls Try.prog 20 #[.int .i64 part, .int .i64 whole] w fun e w' => e = .returned (.int .i64 (thou part whole)) ∧ Below w.heap.size w w' := by
  go_enter Try.func20, Try.ntmps20
  go_wp2_with fail
  go_loopw [5, 6] (fun v5 v6 wr => ∃ lo hi : Nat, lo ≤ hi ∧ hi ≤ 1000 ∧ v5 = .int .i64 lo ∧ v6 = .int .i64 hi ∧ Below w.heap.size w wr ∧ Hid (fits part whole lo = true ∧ ∀ k, hi < k → k ≤ 1000 → fits part whole k = false)) (fun lo hi _ => (intOf hi).toNat - (intOf lo).toNat)
  case atStart => exact ⟨0, 1000, by omega, by omega, rfl, rfl, Below.refl _ _, fits_zero _ _, fun k h h' => by omega⟩
  case round =>
    obtain ⟨lo, hi, hlh, hh, rfl, rfl, hbr, hx⟩ := hrel
    by_cases hlt : lo < hi
    · obtain ⟨m, hm, hm1, hm2⟩ : ∃ m : Nat, ((lo : Int) + hi + 1) / 2 = m ∧ lo < m ∧ m ≤ hi := ⟨(lo + hi + 1) / 2, by omega, by omega, by omega⟩
      go_wp2_with fail
      refine (compare_c (m : Int) whole part 1000 _ (by omega) hw hp (by decide)).mono ?_
      rintro e w2 ⟨rfl, hb2⟩
      have L2 : Below w.heap.size w w2 := hbr.trans (hb2.mono hbr.size)
      cases hf : fits part whole m with
      | true =>
        have hq : decide (Wide.compare (m : Int) whole part 1000 ≤ 0) = true := hf
        have Hf := Lib.hid hf
        clear hf
        generalize Wide.compare (m : Int) whole part 1000 = C at *
        go_wp2_with fail
        go_roundw
        case rel => exact ⟨m, hi, by omega, by omega, rfl, rfl, L2, Hf.out, hx.out.2⟩
        case measure => simp [intOf]; omega
      | false =>
        have hq : decide (Wide.compare (m : Int) whole part 1000 ≤ 0) = false := hf
        have Hf := Lib.hid hf
        clear hf
        generalize Wide.compare (m : Int) whole part 1000 = C at *
        go_wp2_with fail
        go_roundw
        case rel =>
          refine ⟨lo, m - 1, by omega, by omega, rfl, by go_num, L2, hx.out.1, fun k hk hk' => ?_⟩
          cases hfk : fits part whole k with
          | false => rfl
          | true => rw [fits_down hfk (show m ≤ k by omega)] at Hf; cases Hf.out
        case measure => simp [intOf]; omega
    · obtain rfl : lo = hi := by omega
      go_wp2_with fail
      go_ret
      refine ⟨?_, hbr⟩
      unfold thou
      rw [upTo_is _ _ lo hh hx.out.2 (.inr hx.out.1)]
      rfl
set_option maxRecDepth 100000 in
theorem rthou_c (part whole : Int) (w : World) (hp : part ≤ 9223372036854775807) (hw : whole ≤ 9223372036854775807) :
    Calls Try.prog 21 #[.int .i64 part, .int .i64 whole] w fun e w' => e = .returned (.int .i64 (thou part whole)) ∧ Below w.heap.size w w' := by
  go_enter Try.func21, Try.ntmps21
  go_wp2_with fail
  go_loopw [5] (fun v5 wr => ∃ k : Nat, k ≤ 1000 ∧ v5 = .int .i64 k ∧ Below w.heap.size w wr ∧ Hid (∀ j, k < j → j ≤ 1000 → fits part whole j = false)) (fun k _ => (intOf k).toNat)
  case atStart => exact ⟨1000, by omega, rfl, Below.refl _ _, fun k h h' => by omega⟩
  case round =>
    obtain ⟨k, hk, rfl, hbr, hx⟩ := hrel
    by_cases h0 : 0 < k
    · go_wp2_with fail
      refine (rcompare_c (k : Int) whole part 1000 _ (by omega) hw hp (by decide)).mono ?_
      rintro e w2 ⟨rfl, rfl⟩
      have L2 := hbr
      cases hf : fits part whole k with
      | true =>
        have hq : decide (Wide.compare (k : Int) whole part 1000 > 0) = false := by
          unfold fits at hf
          simp only [decide_eq_true_eq] at hf
          simp; omega
        have Hf := Lib.hid hf
        clear hf
        generalize Wide.compare (k : Int) whole part 1000 = C at *
        go_wp2_with fail
        go_ret
        refine ⟨?_, L2⟩
        unfold thou
        rw [upTo_is _ _ k hk hx.out (.inr Hf.out)]
        rfl
      | false =>
        have hq : decide (Wide.compare (k : Int) whole part 1000 > 0) = true := by
          unfold fits at hf
          simp only [decide_eq_false_iff_not] at hf
          simp; omega
        have Hf := Lib.hid hf
        clear hf
        generalize Wide.compare (k : Int) whole part 1000 = C at *
        go_wp2_with fail
        go_roundw
        case rel =>
          refine ⟨k - 1, by omega, by go_num, L2, fun j hj hj' => ?_⟩
          rcases Nat.eq_or_lt_of_le (show k ≤ j by omega) with e | e
          · rw [← e]; exact Hf.out
          · exact hx.out j e hj'
        case measure => simp [intOf]; omega
    · obtain rfl : k = 0 := by omega
      go_wp2_with fail
      go_ret
      refine ⟨?_, hbr⟩
      unfold thou
      rw [upTo_is _ _ 0 hk hx.out (.inl rfl)]
      rfl
end Qos
end Go.Proofs.Ytgdbpjaebdlnjaa
