/- The plain laws of layer 2 (wide): what the statements ask. No Go in sight. -/
import Derived.Test.YtjfbnobijlkicaaWideL
namespace Go.Proofs.Ytjfbnobijlkicaa
namespace Wide
open Sat (num num_nonneg num_le num_id)
theorem cmpP_neg (p q : Int) : cmpP q p = -cmpP p q := by unfold cmpP; (repeat' split) <;> omega
theorem compare_neg (a b c d : Int) : compare c d a b = -compare a b c d := cmpP_neg _ _
theorem compare_comm (a b c d : Int) : compare b a d c = compare a b c d := by unfold compare; rw [Int.mul_comm, Int.mul_comm (num d)]
theorem cmpP_trans {p q r : Int} (h1 : cmpP p q ≤ 0) (h2 : cmpP q r ≤ 0) : cmpP p r ≤ 0 := by
  unfold cmpP at *
  (repeat' split at h1) <;> (repeat' split at h2) <;> (repeat' split) <;> omega
theorem compare_trans {a b c d e f : Int} (h1 : compare a b c d ≤ 0) (h2 : compare c d e f ≤ 0) : compare a b e f ≤ 0 := cmpP_trans h1 h2
theorem compare_three (a b c d : Int) : compare a b c d = -1 ∨ compare a b c d = 0 ∨ compare a b c d = 1 := by have := compare_bd a b c d; omega
theorem small_eq (p q : Int) (hp : 0 ≤ p) (hq : 0 ≤ q) : compare p q (p * q) 1 = 0 ∧ compare p q (p * q + 1) 1 = -1 := by
  have hpq := Int.mul_nonneg hp hq
  unfold compare
  rw [num_id p hp, num_id q hq, num_id (p * q) hpq, num_id (p * q + 1) (by omega), num_id 1 (by decide)]
  unfold cmpP
  constructor
  · rw [if_neg (by omega), if_neg (by omega)]
  · rw [if_pos (by omega)]
def ratio (a b c d : Int) : Int := if b ≤ 0 then (if d ≤ 0 then 0 else 1) else if d ≤ 0 then -1 else compare a d c b
theorem ratio_neg (a b c d : Int) : ratio c d a b = -ratio a b c d := by
  have h := compare_neg a d c b
  unfold ratio
  by_cases hb : b ≤ 0 <;> by_cases hd : d ≤ 0 <;> simp only [if_pos, if_neg, hb, hd, if_true, if_false]
  · decide
  · decide
  · exact h
theorem ratio_mul (a b c d n : Int) (ha : 0 ≤ a) (hb : 0 < b) (hd : 0 < d) (hn : 0 < n) : ratio (a * n) (b * n) c d = compare a d c b := by
  have hbn : 0 < b * n := Int.mul_pos hb hn
  unfold ratio
  rw [if_neg (by omega), if_neg (by omega)]
  unfold compare
  rw [num_id (a * n) (Int.mul_nonneg ha (by omega)), num_id a ha, num_id d (by omega), num_id (b * n) (by omega), num_id b (by omega)]
  have e1 : a * n * d = a * d * n := by rw [Int.mul_assoc, Int.mul_comm n d, ← Int.mul_assoc]
  have e2 : num c * (b * n) = num c * b * n := by rw [← Int.mul_assoc]
  rw [e1, e2]
  generalize a * d = p
  generalize num c * b = q
  unfold cmpP
  rcases Int.lt_trichotomy p q with h | h | h
  · rw [if_pos h, if_pos (Int.mul_lt_mul_of_pos_right h hn)]
  · subst h; rw [if_neg (by omega), if_neg (by omega), if_neg (by omega), if_neg (by omega)]
  · have := Int.mul_lt_mul_of_pos_right h hn
    rw [if_neg (by omega), if_pos this, if_neg (by omega), if_pos h]
def below (part whole percent : Int) : Bool := decide (compare part 100 whole percent < 0)
theorem below_iff (part whole percent : Int) : below part whole percent = decide (num part * 100 < num whole * num percent) := by
  unfold below compare cmpP
  rw [num_id 100 (by decide), decide_eq_decide]
  (repeat' split) <;> omega
/-- a percent cut -/
def clip (p : Int) : Int := if p < 0 then 0 else if 100 < p then 100 else p
theorem clip_num (p : Int) : num (if p ≤ 100 then p else 100) = clip p ∧ num (clip p) = clip p ∧ 0 ≤ clip p ∧ clip p ≤ 100 := by
  unfold num clip; (repeat' split) <;> omega
theorem share_clip (w p : Int) : share w p = (num w * clip p + 99) / 100 := by unfold share; rw [(clip_num p).1]
theorem share_facts (w p : Int) (hw : w ≤ 9223372036854775807) : 0 ≤ share w p ∧ below (share w p) w (clip p) = false ∧ (0 < share w p → below (share w p - 1) w (clip p) = true) ∧ (0 ≤ w → share w p ≤ w) ∧ (∀ q, 0 ≤ q → below q w (clip p) = decide (q < share w p)) := by
  obtain ⟨c1, c2, c3, c4⟩ := clip_num p
  have h0 := num_nonneg w
  rw [share_clip]
  obtain ⟨m0, m1⟩ := mul_bd h0 (Int.le_refl (num w)) c3 c4
  have hs : 0 ≤ (num w * clip p + 99) / 100 := by omega
  refine ⟨hs, ?_, fun h => ?_, fun h => ?_, fun q hq => ?_⟩
  · rw [below_iff, num_id _ hs, c2, decide_eq_false_iff_not]; omega
  · rw [below_iff, num_id _ (by omega), c2, decide_eq_true_eq]; omega
  · rw [num_id w h] at *; omega
  · rw [below_iff, num_id q hq, c2, decide_eq_decide]; omega
theorem split_facts (w a b : Int) (hw : 0 ≤ w) (ha : 0 ≤ a) (hab : a ≤ b) (hb : b ≤ 100) :
    share w a ≤ share w b ∧ share w a ≤ w ∧ w - share w a ≤ share w (100 - a) ∧ share w (100 - a) ≤ w ∧ share w (100 - a) - (w - share w a) ≤ 1 := by
  rw [share_clip, share_clip, share_clip, num_id w hw]
  have ea : clip a = a := by unfold clip; rw [if_neg (by omega), if_neg (by omega)]
  have eb : clip b = b := by unfold clip; rw [if_neg (by omega), if_neg (by omega)]
  have ec : clip (100 - a) = 100 - a := by unfold clip; rw [if_neg (by omega), if_neg (by omega)]
  rw [ea, eb, ec, Int.mul_sub]
  have h1 : w * a ≤ w * b := Int.mul_le_mul_of_nonneg_left hab hw
  have h2 : w * a ≤ w * 100 := Int.mul_le_mul_of_nonneg_left (by omega) hw
  have h3 : 0 ≤ w * a := Int.mul_nonneg hw ha
  generalize w * a = p at *
  generalize w * b = q at *
  omega
theorem below_mono (q w a b : Int) (ha : 0 ≤ a) (hab : a ≤ b) (h : below q w a = true) : below q w b = true := by
  rw [below_iff, decide_eq_true_eq] at *
  rw [num_id a ha] at h
  rw [num_id b (by omega)]
  have h1 : num w * a ≤ num w * b := Int.mul_le_mul_of_nonneg_left hab (num_nonneg w)
  omega
end Wide
end Go.Proofs.Ytjfbnobijlkicaa
