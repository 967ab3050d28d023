/- QosParts: the walk. -/
import Derived.Test.YtgdbpjaebdlnjaaQosA
namespace Go.Proofs.Ytgdbpjaebdlnjaa
open Go.RowKit
namespace Qos
open Wide Sat
theorem upTo_fits {f : Nat → Bool} (h0 : f 0 = true) : (n : Nat) → f (upTo f n) = true
  | 0 => h0
  | k + 1 => by
    unfold upTo
    split
    · assumption
    · exact upTo_fits h0 k
theorem upTo_next {f : Nat → Bool} : (n k : Nat) → upTo f n < k → k ≤ n → f k = false
  | 0, k, h, h' => by omega
  | n + 1, k, h, h' => by
    unfold upTo at h
    split at h
    · omega
    · rcases Nat.eq_or_lt_of_le h' with e | e
      · subst e; simpa using ‹¬ f (n + 1) = true›
      · exact upTo_next n k h (by omega)
theorem num_pos {a : Int} (h : 0 ≤ a) : num a = a := by unfold num; rw [if_neg (by omega)]
/-- thousandths: no more than the part, one more would be -/
theorem thou_spec {part whole : Int} (hp : 0 ≤ part) (hw : 1 ≤ whole) :
    (thou part whole : Int) * whole ≤ part * 1000 ∧ (thou part whole = 1000 ∨ part * 1000 < ((thou part whole : Int) + 1) * whole) := by
  have h1 := upTo_fits (f := fits part whole) (fits_zero _ _) 1000
  rw [fits_iff, num_pos hp, num_pos (by omega : 0 ≤ whole)] at h1
  simp only [decide_eq_true_eq] at h1
  refine ⟨h1, ?_⟩
  rcases Nat.eq_or_lt_of_le (thou_le part whole) with e | e
  · exact .inl e
  · refine .inr ?_
    have h2 := upTo_next (f := fits part whole) 1000 (thou part whole + 1) (Nat.lt_succ_self _) e
    rw [fits_iff, num_pos hp, num_pos (by omega : 0 ≤ whole)] at h2
    simp only [decide_eq_false_iff_not] at h2
    have e2 : ((thou part whole + 1 : Nat) : Int) = (thou part whole : Int) + 1 := by omega
    rw [e2] at h2
    omega
theorem thou_full {part whole : Int} (hp : 0 ≤ part) (hw : 1 ≤ whole) (h : whole ≤ part) : thou part whole = 1000 := by
  obtain ⟨_, h2⟩ := thou_spec hp hw
  have h3 := thou_le part whole
  rcases Nat.eq_or_lt_of_le h3 with e0 | e0
  · exact e0
  rcases h2 with h2 | h2
  · exact h2
  · exfalso
    rcases Nat.eq_or_lt_of_le h3 with e | e
    · have h4 : ((thou part whole : Int) + 1) * whole = 1001 * whole := by rw [e]; rfl
      have h5 := upTo_next (f := fits part whole) 1000
      omega
    · have : ((thou part whole : Int) + 1) * whole ≤ 1000 * whole := Int.mul_le_mul_of_nonneg_right (by omega) (by omega)
      omega
theorem thou_part {part whole : Int} (hp : 0 ≤ part) (hw : 1 ≤ whole) (h : part < whole) : thou part whole ≤ 999 ∧ (1000 * part) / whole = thou part whole := by
  obtain ⟨h1, h2⟩ := thou_spec hp hw
  have h3 := thou_le part whole
  have h9 : thou part whole ≤ 999 := by
    rcases Nat.eq_or_lt_of_le h3 with e | e
    · exfalso
      rw [e] at h1
      have : ((1000 : Nat) : Int) * whole = 1000 * whole := rfl
      omega
    · omega
  refine ⟨h9, ?_⟩
  have h4 : part * 1000 < ((thou part whole : Int) + 1) * whole := by
    rcases h2 with e | e
    · omega
    · exact e
  have e : 1000 * part = part * 1000 := Int.mul_comm _ _
  rw [e]
  have k1 : (thou part whole : Int) ≤ part * 1000 / whole := (Int.le_ediv_iff_mul_le (by omega)).2 h1
  have k2 : part * 1000 / whole < (thou part whole : Int) + 1 := (Int.ediv_lt_iff_lt_mul (by omega)).2 h4
  omega
end Qos
namespace qosParts
open Qos
set_option maxRecDepth 100000 in
set_option maxHeartbeats 2000000 in
theorem core (part whole : Int) (w : World) (hp : 0 ≤ part) (hw : 1 ≤ whole) (hp' : part ≤ 9223372036854775807) (hw' : whole ≤ 9223372036854775807) :
    Calls Try.prog 4 #[.int .i64 part, .int .i64 whole] w fun e w' => e = .returned (.bool true) ∧ Below w.heap.size w w' := by
  have hth : Hid (∀ w, Calls Try.prog 20 #[.int .i64 part, .int .i64 whole] w fun e w' => e = .returned (.int .i64 (thou part whole)) ∧ Below w.heap.size w w') := fun w => thou_c part whole w hp' hw'
  have hrth : Hid (∀ w, Calls Try.prog 21 #[.int .i64 part, .int .i64 whole] w fun e w' => e = .returned (.int .i64 (thou part whole)) ∧ Below w.heap.size w w') := fun w => rthou_c part whole w hp' hw'
  have hfull := fun h => thou_full hp hw h
  have hpart := fun h => thou_part hp hw h
  have hle := thou_le part whole
  generalize thou part whole = t at *
  rcases Int.lt_or_le part whole with hlt | hge
  · obtain ⟨h9, hq⟩ := hpart hlt
    clear hpart hfull hle
    have d1 : decide (part ≥ whole) = false := by simp; omega
    have d2 : decide (part < whole) = true := by simp; omega
    have d3 : ((t : Int) == 1000) = false := by simp; omega
    have d4 : decide ((t : Int) > 999) = false := by simp; omega
    go_enter Try.func4, Try.ntmps4
    go_wp2_with fail
    refine (qawake_c _).mono ?_
    rintro e w1 ⟨rfl, hb1⟩
    go_wp2_with fail
    refine (hth.out _).mono ?_
    rintro e w2 ⟨rfl, hb2⟩
    have L2 : Below w.heap.size w w2 := hb1.trans (hb2.mono hb1.size)
    clear hb1 hb2
    go_wp2_with fail
    refine (hrth.out _).mono ?_
    rintro e w3 ⟨rfl, hb3⟩
    have L3 : Below w.heap.size w w3 := L2.trans (hb3.mono L2.size)
    clear hb3 L2
    have hor : 1000000000 < whole ∨ whole ≤ 1000000000 ∧ part ≤ 1000000000 := by omega
    rcases hor with q | ⟨q, q'⟩
    · have d5 : decide (whole > 1000000000) = true := by simpa using q
      clear hq
      go_wp2_with fail
      go_ret
      exact ⟨rfl, L3⟩
    · have d5 : decide (whole > 1000000000) = false := by simpa using q
      have d6 : decide (part > 1000000000) = false := by simpa using q'
      go_wp2_with fail
      go_ret
      exact ⟨rfl, L3⟩
  · obtain rfl := hfull hge
    clear hpart hfull hle
    have d1 : decide (part ≥ whole) = true := by simp; omega
    have d2 : decide (part < whole) = false := by simp; omega
    go_enter Try.func4, Try.ntmps4
    go_wp2_with fail
    refine (qawake_c _).mono ?_
    rintro e w1 ⟨rfl, hb1⟩
    go_wp2_with fail
    refine (hth.out _).mono ?_
    rintro e w2 ⟨rfl, hb2⟩
    have L2 : Below w.heap.size w w2 := hb1.trans (hb2.mono hb1.size)
    clear hb1 hb2
    go_wp2_with fail
    refine (hrth.out _).mono ?_
    rintro e w3 ⟨rfl, hb3⟩
    have L3 : Below w.heap.size w w3 := L2.trans (hb3.mono L2.size)
    clear hb3 L2
    have hor : 1000000000 < whole ∨ whole ≤ 1000000000 ∧ (1000000000 < part ∨ part ≤ 1000000000) := by omega
    rcases hor with q | ⟨q, q' | q'⟩
    · have d5 : decide (whole > 1000000000) = true := by simpa using q
      go_wp2_with fail
      go_ret
      exact ⟨rfl, L3⟩
    · have d5 : decide (whole > 1000000000) = false := by simpa using q
      have d6 : decide (part > 1000000000) = true := by simpa using q'
      go_wp2_with fail
      go_ret
      exact ⟨rfl, L3⟩
    · have d5 : decide (whole > 1000000000) = false := by simpa using q
      have d6 : decide (part > 1000000000) = false := by simpa using q'
      go_wp2_with fail
      go_ret
      exact ⟨rfl, L3⟩
theorem walk (v1 v2 : Value) (w : World) (h1 : Frame.Arg Try.prog w 3 v1) (h2 : Frame.Arg Try.prog w 3 v2) :
    Calls Try.prog 4 #[v1, v2] w fun e w' => e = .returned (.bool true) ∧ Below w.heap.size w w' := by
  obtain ⟨part, rfl, hp⟩ := h1.int Try.underlying3
  obtain ⟨whole, rfl, hw⟩ := h2.int Try.underlying3
  have hp := Frame.bd_i64 hp
  have hw := Frame.bd_i64 hw
  have hor : 0 ≤ part ∧ 1 ≤ whole ∨ part < 0 ∨ 0 ≤ part ∧ whole < 1 := by omega
  rcases hor with ⟨a, b⟩ | a | ⟨a, b⟩
  · exact core part whole w a b hp.2 hw.2
  all_goals
    clear hp hw
    go_enter Try.func4, Try.ntmps4
    go_wp2_with fail
    refine (qawake_c _).mono ?_
    rintro e w1 ⟨rfl, hb1⟩
    go_wp2_with fail
    refine (qawake_c _).mono ?_
    rintro e w2 ⟨rfl, hb2⟩
    go_wp2
    go_ret
    exact ⟨rfl, hb1.trans (hb2.mono hb1.size)⟩
end qosParts
end Go.Proofs.Ytgdbpjaebdlnjaa
