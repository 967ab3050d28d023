/- The walks of the references of layers 6 and 7: right thresholds, right configs; rows compared; timers that may be. -/
import Derived.Test.YtjfbnobijlkicaaGraceM
namespace Go.Proofs.Ytjfbnobijlkicaa
open Go.RowKit
namespace Grc
def RTSaid (t : ThrV) (W : World) (e : Ending) (w' : World) : Prop := ∃ b, e = .returned (.bool b) ∧ (b = true → RightT t) ∧ Below W.heap.size W w'
set_option maxRecDepth 100000 in
set_option maxHeartbeats 2000000 in
theorem rright_c (t : ThrV) (w : World) : Calls Try.prog 60 #[.agg t.arr] w (RTSaid t w) := by
  obtain ⟨sig, pct, amt, soft, grace⟩ := t
  unfold ThrV.arr
  dsimp only
  have L1 : Below w.heap.size w (w.alloc (.cells #[.int .i64 sig, .int .i64 pct, .int .i64 amt, .bool soft, .int .i64 grace] 67)) := (Below.refl _ _).alloc (Nat.le_refl _) _
  have hor : (sig < 0 ∨ 2 < sig ∨ pct < 0 ∨ 100 < pct ∨ amt < 0) ∨ 0 ≤ sig ∧ sig ≤ 2 ∧ 0 ≤ pct ∧ pct ≤ 100 ∧ 0 ≤ amt := by omega
  rcases hor with hor | ⟨s0, s2, p0, p1, m0⟩
  · have hor2 : sig < 0 ∨ 0 ≤ sig ∧ (2 < sig ∨ sig ≤ 2 ∧ (pct < 0 ∨ 0 ≤ pct ∧ (100 < pct ∨ pct ≤ 100 ∧ amt < 0))) := by omega
    clear hor
    rcases hor2 with h | ⟨h, h' | ⟨h', h2 | ⟨h2, h3 | ⟨h3, h4⟩⟩⟩⟩
    all_goals
      go_enter Try.func60, Try.ntmps60
      go_wp2_with fail
      go_ret
      exact ⟨false, rfl, fun h => (by cases h), L1⟩
  · have e0 : decide (sig < 0) = false := by simpa using s0
    have e1 : decide (sig > 2) = false := by simpa using s2
    have e2 : decide (pct < 0) = false := by simpa using p0
    have e3 : decide (pct > 100) = false := by simpa using p1
    have e4 : decide (amt < 0) = false := by simpa using m0
    have Hs := Lib.hid (And.intro s0 (And.intro s2 (And.intro p0 (And.intro p1 m0))))
    have hor : (pct = 0 ∧ amt = 0) ∨ (pct ≠ 0 ∧ amt ≠ 0) ∨ (pct = 0 ∧ amt ≠ 0) ∨ (pct ≠ 0 ∧ amt = 0) := by omega
    clear s0 s2 p0 p1 m0
    rcases hor with ⟨q1, q2⟩ | ⟨q1, q2⟩ | ⟨q1, q2⟩ | ⟨q1, q2⟩
    · subst q1; subst q2
      go_enter Try.func60, Try.ntmps60
      go_wp2_with fail
      go_ret
      exact ⟨false, rfl, fun h => (by cases h), L1⟩
    · have d1 : (pct == 0) = false := by simpa using q1
      have d2 : (amt == 0) = false := by simpa using q2
      clear q1 q2
      go_enter Try.func60, Try.ntmps60
      go_wp2_with fail
      go_ret
      exact ⟨false, rfl, fun h => (by cases h), L1⟩
    all_goals
      have hone : Hid ((pct = 0 ∧ 0 < amt) ∨ (0 < pct ∧ amt = 0)) := by have := Hs.out; show _ ∨ _; omega
      cases soft with
      | true =>
        have hor : grace < 1 ∨ 1 ≤ grace ∧ (1000 < grace ∨ grace ≤ 1000) := by omega
        rcases hor with g1 | ⟨g1, g2 | g2⟩
        · have d3 : decide (grace ≥ 1) = false := by simpa using g1
          clear g1
          first
            | (subst q1; have d2 : (amt == 0) = false := by simpa using q2
               clear q2 hone)
            | (subst q2; have d2 : (pct == 0) = false := by simpa using q1
               clear q1 hone)
          go_enter Try.func60, Try.ntmps60
          go_wp2_with fail
          go_ret
          exact ⟨false, rfl, fun h => (by cases h), L1⟩
        · have d3 : decide (grace ≥ 1) = true := by simpa using g1
          have d4 : decide (grace ≤ 1000) = false := by simpa using g2
          clear g1 g2
          first
            | (subst q1; have d2 : (amt == 0) = false := by simpa using q2
               clear q2 hone)
            | (subst q2; have d2 : (pct == 0) = false := by simpa using q1
               clear q1 hone)
          go_enter Try.func60, Try.ntmps60
          go_wp2_with fail
          go_ret
          exact ⟨false, rfl, fun h => (by cases h), L1⟩
        · have d3 : decide (grace ≥ 1) = true := by simpa using g1
          have d4 : decide (grace ≤ 1000) = true := by simpa using g2
          have HR : Hid (RightT ⟨sig, pct, amt, true, grace⟩) := by
            obtain ⟨s0, s2, p0, p1, m0⟩ := Hs.out
            exact ⟨s0, s2, p0, p1, m0, hone.out, (by show (0:Int) ≤ grace; omega), g2, fun _ => g1, fun h => by cases h⟩
          clear g1 g2
          first
            | (subst q1; have d2 : (amt == 0) = false := by simpa using q2
               clear q2 hone)
            | (subst q2; have d2 : (pct == 0) = false := by simpa using q1
               clear q1 hone)
          go_enter Try.func60, Try.ntmps60
          go_wp2_with fail
          go_ret
          exact ⟨true, rfl, fun _ => HR.out, L1⟩
      | false =>
        have hor : grace = 0 ∨ grace ≠ 0 := by omega
        rcases hor with g1 | g1
        · subst g1
          have HR : Hid (RightT ⟨sig, pct, amt, false, 0⟩) := by
            obtain ⟨s0, s2, p0, p1, m0⟩ := Hs.out
            exact ⟨s0, s2, p0, p1, m0, hone.out, (by show (0:Int) ≤ 0; omega), (by show (0:Int) ≤ 1000; omega), (fun h => by cases h), fun _ => rfl⟩
          first
            | (subst q1; have d2 : (amt == 0) = false := by simpa using q2
               clear q2 hone)
            | (subst q2; have d2 : (pct == 0) = false := by simpa using q1
               clear q1 hone)
          go_enter Try.func60, Try.ntmps60
          go_wp2_with fail
          go_ret
          exact ⟨true, rfl, fun _ => HR.out, L1⟩
        · have d3 : (grace == 0) = false := by simpa using g1
          clear g1
          first
            | (subst q1; have d2 : (amt == 0) = false := by simpa using q2
               clear q2 hone)
            | (subst q2; have d2 : (pct == 0) = false := by simpa using q1
               clear q1 hone)
          go_enter Try.func60, Try.ntmps60
          go_wp2_with fail
          go_ret
          exact ⟨false, rfl, fun h => (by cases h), L1⟩
set_option maxRecDepth 100000 in
theorem rmet_c (t : ThrV) (cap av : Int) (w : World) (ht : t.ok) (hc : ThrV.I64 cap) (ha : ThrV.I64 av) :
    Calls Try.prog 63 #[.agg t.arr, .int .i64 cap, .int .i64 av] w fun e w' => e = .returned (.bool (metT t cap av)) ∧ Below w.heap.size w w' := by
  have hb : Hid (∀ w, Calls Try.prog 72 #[.int .i64 av, .int .i64 100, .int .i64 cap, .int .i64 t.pct] w fun e w' => e = .returned (.int .i64 (Wide.compare av 100 cap t.pct)) ∧ w = w') := fun w => Wide.rcompare_c av 100 cap t.pct w ha.2 (by decide) hc.2 ht.pct.2
  have hm : Hid (metT t cap av = if 0 < t.pct then decide (Wide.compare av 100 cap t.pct < 0) else decide (av < t.amt)) := rfl
  clear ht hc ha
  generalize metT t cap av = M at *
  obtain ⟨sig, pct, amt, soft, grace⟩ := t
  unfold ThrV.arr
  dsimp only at hb hm ⊢
  generalize Wide.compare av 100 cap pct = C at *
  rcases Int.lt_or_le 0 pct with h | h
  · have hd : decide (pct > 0) = true := by simpa using h
    have hM : Hid (M = decide (C < 0)) := by show _ = _; rw [hm.out, if_pos h]
    clear hm h
    go_enter Try.func63, Try.ntmps63
    go_wp2_with fail
    refine (hb.out _).mono ?_
    rintro e w1 ⟨rfl, rfl⟩
    go_wp2_with fail
    go_ret
    exact ⟨by rw [hM.out]; rfl, (Below.refl _ _).alloc (Nat.le_refl _) _⟩
  · have hd : decide (pct > 0) = false := by simpa using h
    have hM : Hid (M = decide (av < amt)) := by show _ = _; rw [hm.out, if_neg (by omega)]
    clear hm h
    go_enter Try.func63, Try.ntmps63
    go_wp2_with fail
    go_ret
    exact ⟨by rw [hM.out]; rfl, (Below.refl _ _).alloc (Nat.le_refl _) _⟩
end Grc
end Go.Proofs.Ytjfbnobijlkicaa
