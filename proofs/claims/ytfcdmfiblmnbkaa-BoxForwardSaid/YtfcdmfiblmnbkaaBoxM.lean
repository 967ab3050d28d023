/- The plain laws of layer 14 (box): what the statements ask of it. No Go in sight. -/
import Derived.Test.YtfcdmfiblmnbkaaBoxL
namespace Go.Proofs.Ytfcdmfiblmnbkaa
namespace Box
/-- a beginning of what is asked does as the whole till there -/
theorem runTo_take (l : List Int) (well : List Bool) (r : Int) (m k : Nat) (h : k ≤ m) : runTo (l.take m) well r k = runTo l well r k := by
  induction k with
  | zero => rfl
  | succ k ih =>
    have e : (l.take m).getD k 0 = l.getD k 0 := by
      simp only [List.getD_eq_getElem?_getD, List.getElem?_take]
      rw [if_pos (by omega)]
    simp only [runTo, ih (by omega), e]
theorem nxt_forward (s q : Int) : nxt s q = 0 ∨ nxt s q = s + 1 ∨ nxt s q = 5 := by unfold nxt; (repeat' split) <;> omega
theorem nxt_up (s q : Int) (h : nxt s q = 3) : s = 2 ∧ q = 2 := by unfold nxt at h; (repeat' split at h) <;> omega
theorem step_forward (b : B) (q : Int) (well : Bool) (r : Int) : (step b q well r).1 = b.1 ∨ (step b q well r).1 = b.1 + 1 ∨ (step b q well r).1 = 6 ∨ (step b q well r).1 = 5 := by
  have := nxt_forward b.1 q
  unfold step
  split
  · simp
  · split
    · simp; omega
    · split <;> simp
theorem step_up (b : B) (q : Int) (well : Bool) (r : Int) (h : (step b q well r).1 = 3) : b.1 = 3 ∨ b.1 = 2 ∧ q = 2 := by
  unfold step at h
  split at h
  · exact Or.inl h
  · split at h
    · exact Or.inr (nxt_up _ _ h)
    · split at h
      · simp at h
      · exact Or.inl h
/-- where all goes well nothing breaks -/
theorem well_run (l : List Int) (r : Int) (k : Nat) : (runTo l [] r k).1.1 ≤ 5 ∧ (runTo l [] r k).1.2 = 0 := by
  induction k with
  | zero => simp [runTo]
  | succ k ih =>
    have hb := to_bd (runTo l [] r k).1.1 (l.getD k 0)
    simp only [runTo]
    unfold step
    split
    · exact ih
    · simp; exact hb.2
/-- did one break till there -/
def broke (l : List Int) (well : List Bool) (r : Int) : Nat → Bool
  | 0 => false
  | k + 1 => broke l well r k || (runTo l well r (k + 1)).1.1 == 6
theorem more_run (l : List Int) (well : List Bool) (r m : Int) (hm : 0 ≤ m) (k : Nat) (h : broke l well r k = false) : runTo l well (r + m) k = runTo l well r k := by
  induction k with
  | zero => rfl
  | succ k ih =>
    simp only [broke, Bool.or_eq_false_iff] at h
    have e := ih h.1
    have h2 := h.2
    have d : step (runTo l well r k).1 (l.getD k 0) (well.getD k true) (r + m) = step (runTo l well r k).1 (l.getD k 0) (well.getD k true) r := by
      simp only [runTo] at h2
      revert h2
      unfold step
      split
      · intro _; rfl
      · split
        · intro _; rfl
        · split
          · simp
          · intro _; rw [if_neg (by omega)]
    simp only [runTo, e, d]
/-- behind so many failed asks for its image -/
def tried (r : Int) (k : Nat) : B := if (k : Int) ≤ r then (1, k) else (6, r + 1)
theorem add_one {t : Int} (h0 : 0 ≤ t) (h1 : t < 9223372036854775807) : Sat.add t 1 = t + 1 := by
  unfold Sat.add Sat.num Sat.cut
  rw [if_neg (show ¬ t < 0 by omega), if_neg (show ¬ (1 : Int) < 0 by decide), if_pos (show t + 1 ≤ 9223372036854775807 by omega)]
theorem tried_lt {r k : Int} (h0 : 0 ≤ k) (h : k < r) (hr : r ≤ 1000) : step (1, k) 1 false r = (1, k + 1) := by
  unfold step nxt; simp only [add_one h0 (by omega)]; simp; omega
theorem tried_eq {r : Int} (h0 : 0 ≤ r) (hr : r ≤ 1000) : step (1, r) 1 false r = (6, r + 1) := by
  unfold step nxt; simp only [add_one h0 (by omega)]; simp; omega
theorem tried_gt {r t : Int} (x : Bool) : step (6, t) 1 x r = (6, t) := by unfold step nxt; simp
theorem tried_well {r t : Int} : step (1, t) 1 true r = (2, 0) := by unfold step nxt; simp
/-- one that is gone changes no more -/
theorem gone_stays (t q r : Int) (x : Bool) : step (5, t) q x r = (5, t) := by unfold step nxt; simp
theorem gone_err (q : Int) : err 5 q = 7 := by unfold err nxt; simp
theorem broken_err (q : Int) : err 6 q = if q = 4 then 0 else 7 := by unfold err nxt; simp
theorem broken_step (t q r : Int) (x : Bool) (h : q ≠ 4) : step (6, t) q x r = (6, t) := by unfold step nxt; simp [h]
theorem broken_goes (t r : Int) (x : Bool) : (step (6, t) 4 x r).1 = 5 ∨ (step (6, t) 4 x r).1 = 6 := by unfold step nxt; simp; split <;> (try split) <;> simp
end Box
end Go.Proofs.Ytfcdmfiblmnbkaa
