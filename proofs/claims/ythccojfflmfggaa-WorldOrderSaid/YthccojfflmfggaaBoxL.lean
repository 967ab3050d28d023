/- The plain law of layer 14 (box): containers by themselves. No Go in sight. -/
import Derived.Test.YthccojfflmfggaaSatL
namespace Go.Proofs.Ythccojfflmfggaa
namespace Box
/-- the state that comes; 0: it may not be asked -/
def nxt (s q : Int) : Int := if q = 1 ∧ s = 1 then 2 else if q = 2 ∧ s = 2 then 3 else if q = 3 ∧ s = 3 then 4 else if q = 4 ∧ (s = 1 ∨ s = 2 ∨ s = 4 ∨ s = 6) then 5 else 0
/-- a container: its state, its tries -/
abbrev B := Int × Int
def step (b : B) (q : Int) (well : Bool) (r : Int) : B :=
  if nxt b.1 q = 0 then b else if well then (nxt b.1 q, 0) else if r < Sat.add b.2 1 then (6, Sat.add b.2 1) else (b.1, Sat.add b.2 1)
/-- the answer's number -/
def err (s q : Int) : Int := if nxt s q = 0 then 7 else 0
def may (b : B) (q : Int) : Bool := decide (nxt b.1 q ≠ 0)
theorem to_bd (s q : Int) : 0 ≤ nxt s q ∧ nxt s q ≤ 5 := by unfold nxt; (repeat' split) <;> omega
/-- a container of the program's own -/
def Ok (b : B) : Prop := 0 ≤ b.1 ∧ b.1 ≤ 6 ∧ 0 ≤ b.2 ∧ b.2 ≤ 9223372036854775807
theorem step_ok {b : B} (h : Ok b) (q : Int) (well : Bool) (r : Int) : Ok (step b q well r) := by
  obtain ⟨h1, h2, h3, h4⟩ := h
  have ht := to_bd b.1 q
  have ha := Sat.add_bd b.2 1
  unfold step
  split
  · exact ⟨h1, h2, h3, h4⟩
  · split
    · exact ⟨by simp; omega, by simp; omega, by simp, by simp⟩
    · split
      · exact ⟨by simp, by simp, ha.1, ha.2⟩
      · exact ⟨h1, h2, ha.1, ha.2⟩
/-- all asked, one behind the other: the container then, and how often it might be asked -/
def runTo (l : List Int) (well : List Bool) (r : Int) : Nat → B × Int
  | 0 => ((1, 0), 0)
  | k + 1 => (step (runTo l well r k).1 (l.getD k 0) (well.getD k true) r, (runTo l well r k).2 + if nxt (runTo l well r k).1.1 (l.getD k 0) = 0 then 0 else 1)
theorem runTo_ok (l : List Int) (well : List Bool) (r : Int) (k : Nat) : Ok (runTo l well r k).1 ∧ 0 ≤ (runTo l well r k).2 ∧ (runTo l well r k).2 ≤ k := by
  induction k with
  | zero => exact ⟨⟨by simp [runTo], by simp [runTo], by simp [runTo], by simp [runTo]⟩, by simp [runTo], by simp [runTo]⟩
  | succ k ih =>
    obtain ⟨h1, h2, h3⟩ := ih
    refine ⟨step_ok h1 _ _ _, ?_, ?_⟩
    · show 0 ≤ (runTo l well r k).2 + (if _ then (0 : Int) else 1)
      split <;> omega
    · show (runTo l well r k).2 + (if _ then (0 : Int) else 1) ≤ ((k + 1 : Nat) : Int)
      split <;> omega
end Box
end Go.Proofs.Ythccojfflmfggaa
