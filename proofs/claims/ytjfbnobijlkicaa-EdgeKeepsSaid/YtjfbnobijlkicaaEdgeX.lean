/- The walks of layer 3 (edge): how two stand; what is read. -/
import Derived.Test.YtjfbnobijlkicaaRows
import Derived.WalkKit
import Derived.BigQuiet
import Derived.Deep.QuietTactic
import Derived.WalkLawsBesides
import Derived.WalkSpells
import Derived.Lib.Hide
import Derived.Test.YtjfbnobijlkicaaEdgeF
import Derived.Test.YtjfbnobijlkicaaEdgeW
namespace Go.Proofs.Ytjfbnobijlkicaa
open Go.RowKit
namespace Fl
/-- how two whole numbers stand -/
def cmpI (x y : Int) : Int := if x < y then -1 else if y < x then 1 else 0
/-- a kind's place -/
def pv (b : Nat) : Int := if kd b = 1 then 8 else kd b
theorem rk_cases (b : Nat) : kd b = 1 ∧ rk b = 9223372036854775807 ∧ 9218868437227405312 < rg b ∨ kd b = 2 ∧ rk b = -9218868437227405313 ∨ kd b = 3 ∧ rk b < -1 ∧ -9218868437227405313 < rk b ∧ sr b = rk b + 1 ∧ rg b ≤ 9218868437227405312 ∨ kd b = 4 ∧ rk b = -1 ∧ rg b ≤ 9218868437227405312 ∨ kd b = 5 ∧ rk b = 0 ∧ rg b ≤ 9218868437227405312 ∨ kd b = 6 ∧ 0 < rk b ∧ rk b < 9218868437227405312 ∧ sr b = rk b ∧ rk b = rg b ∧ rg b ≤ 9218868437227405312 ∨ kd b = 7 ∧ rk b = 9218868437227405312 ∧ sr b = rk b ∧ rg b = 9218868437227405312 := by
  have e : rk b = (if kdp (sg b) (rg b) = 1 then 9223372036854775807 else if sg b then -(rg b : Int) - 1 else rg b) := rfl
  rw [e, kd_p, sr_p]
  have h := kdp_cases (sg b) (rg b)
  unfold srp at h ⊢
  clear e
  generalize kdp (sg b) (rg b) = k at *
  generalize rg b = r at *
  generalize sg b = x at *
  cases x
  · simp only [Bool.false_eq_true, if_false] at h ⊢
    generalize hR : (if k = 1 then (9223372036854775807 : Int) else (r : Int)) = R
    have h1 : k = 1 → R = 9223372036854775807 := by intro h; rw [← hR, if_pos h]
    have h2 : k ≠ 1 → R = r := by intro h; rw [← hR, if_neg h]
    clear hR
    rcases h with h | h | h | h | h | h | h
    · left; omega
    · right; left; omega
    · right; right; left; omega
    · exact h.2.2.elim
    · right; right; right; right; left; omega
    · right; right; right; right; right; left; omega
    · right; right; right; right; right; right; omega
  · simp only [if_true] at h ⊢
    generalize hR : (if k = 1 then (9223372036854775807 : Int) else -(r : Int) - 1) = R
    have h1 : k = 1 → R = 9223372036854775807 := by intro h; rw [← hR, if_pos h]
    have h2 : k ≠ 1 → R = -(r : Int) - 1 := by intro h; rw [← hR, if_neg h]
    clear hR
    rcases h with h | h | h | h | h | h | h
    · left; omega
    · right; left; omega
    · right; right; left; omega
    · right; right; right; left; omega
    · exact absurd h.2.2 (by decide)
    · exfalso; omega
    · exfalso; omega
set_option maxRecDepth 100000 in
theorem place_c (b : Nat) (w : World) (hb : b < 18446744073709551616) : Calls Try.prog 53 #[.float .f64 b] w fun e w' => e = .returned (.int .i64 (pv b)) ∧ w = w' := by
  have hk := kind_c b w hb
  by_cases h : kd b = 1
  · have e : pv b = 8 := by unfold pv; rw [if_pos h]
    have d : (kd b == 1) = true := beq_iff_eq.2 h
    rw [e]; clear e
    generalize kd b = k at *
    clear h
    have hk := Lib.hid hk
    go_enter Try.func53, Try.ntmps53
    go_wp2_with fail
    refine hk.out.mono ?_
    rintro e w' ⟨rfl, rfl⟩
    clear hk
    go_wp2_with fail
    go_ret
    exact ⟨rfl, rfl⟩
  · have e : pv b = kd b := by unfold pv; rw [if_neg h]
    have d : (kd b == 1) = false := beq_eq_false_iff_ne.2 h
    rw [e]; clear e
    generalize kd b = k at *
    clear h
    have hk := Lib.hid hk
    go_enter Try.func53, Try.ntmps53
    go_wp2_with fail
    refine hk.out.mono ?_
    rintro e w' ⟨rfl, rfl⟩
    clear hk
    go_wp2_with fail
    go_ret
    exact ⟨rfl, rfl⟩
set_option maxRecDepth 100000 in
theorem nani_c (x : Int) (w : World) : Calls Try.prog 67 #[.int .i64 x] w fun e w' => e = .returned (.bool false) ∧ w = w' := by
  go_enter Try.func67, Try.ntmps67
  go_wp2_with fail
  go_ret
  exact ⟨by simp, rfl⟩
set_option maxRecDepth 100000 in
theorem nanf_c (b : Nat) (w : World) (r : Bool) (h : (FloatKind.f64.format.order b b != some .eq) = r) : Calls Try.prog 68 #[.float .f64 b] w fun e w' => e = .returned (.bool r) ∧ w = w' := by
  go_enter Try.func68, Try.ntmps68
  go_wp2_with fail
  go_ret
  exact ⟨rfl, rfl⟩
set_option maxRecDepth 100000 in
set_option maxHeartbeats 1000000 in
theorem cmpi_c (x y : Int) (w : World) : Calls Try.prog 52 #[.int .i64 x, .int .i64 y] w fun e w' => e = .returned (.int .i64 (cmpI x y)) ∧ w = w' := by
  have hn : Hid (∀ x w, Calls Try.prog 67 #[.int .i64 x] w fun e w' => e = .returned (.bool false) ∧ w = w') := nani_c
  unfold cmpI
  by_cases h1 : x < y
  · rw [if_pos h1]
    have d : decide (x < y) = true := decide_eq_true h1
    go_enter Try.func52, Try.ntmps52
    go_wp2_with fail
    refine (hn.out _ _).mono ?_
    rintro e w' ⟨rfl, rfl⟩
    go_wp2_with fail
    refine (hn.out _ _).mono ?_
    rintro e w' ⟨rfl, rfl⟩
    go_wp2_with fail
    go_ret
    exact ⟨rfl, rfl⟩
  · rw [if_neg h1]
    have d : decide (x < y) = false := decide_eq_false h1
    by_cases h2 : y < x
    · rw [if_pos h2]
      have d2 : decide (y < x) = true := decide_eq_true h2
      have d3 : decide (x > y) = true := decide_eq_true h2
      go_enter Try.func52, Try.ntmps52
      go_wp2_with fail
      refine (hn.out _ _).mono ?_
      rintro e w' ⟨rfl, rfl⟩
      go_wp2_with fail
      refine (hn.out _ _).mono ?_
      rintro e w' ⟨rfl, rfl⟩
      go_wp2_with fail
      go_ret
      exact ⟨rfl, rfl⟩
    · rw [if_neg h2]
      have d2 : decide (y < x) = false := decide_eq_false h2
      have d3 : decide (x > y) = false := decide_eq_false h2
      go_enter Try.func52, Try.ntmps52
      go_wp2_with fail
      refine (hn.out _ _).mono ?_
      rintro e w' ⟨rfl, rfl⟩
      go_wp2_with fail
      refine (hn.out _ _).mono ?_
      rintro e w' ⟨rfl, rfl⟩
      go_wp2_with fail
      go_ret
      exact ⟨rfl, rfl⟩
set_option maxRecDepth 100000 in
set_option maxHeartbeats 1000000 in
theorem cmpf_c (a b : Nat) (w : World) (ha : a < 18446744073709551616) (hb : b < 18446744073709551616) (na : rg a ≤ 9218868437227405312) (nb : rg b ≤ 9218868437227405312) : Calls Try.prog 54 #[.float .f64 a, .float .f64 b] w fun e w' => e = .returned (.int .i64 (cmpI (sr a) (sr b))) ∧ w = w' := by
  have ea : (FloatKind.f64.format.order a a != some .eq) = false := by rw [order_sr ha ha na na, ord_ne]; simp
  have eb : (FloatKind.f64.format.order b b != some .eq) = false := by rw [order_sr hb hb nb nb, ord_ne]; simp
  have hna := Lib.hid (fun w => nanf_c a w false ea)
  have hnb := Lib.hid (fun w => nanf_c b w false eb)
  have o := order_sr ha hb na nb
  have ol : (FloatKind.f64.format.order a b == some .lt) = decide (sr a < sr b) := by rw [o, ord_lt]
  have og : (FloatKind.f64.format.order a b == some .gt) = decide (sr b < sr a) := by rw [o, ord_gt]
  clear o ea eb
  generalize sr a = x at *
  generalize sr b = y at *
  unfold cmpI
  by_cases h1 : x < y
  · rw [if_pos h1]
    rw [decide_eq_true h1] at ol
    go_enter Try.func54, Try.ntmps54
    go_wp2_with fail
    refine (hna.out _).mono ?_
    rintro e w' ⟨rfl, rfl⟩
    go_wp2_with fail
    refine (hnb.out _).mono ?_
    rintro e w' ⟨rfl, rfl⟩
    go_wp2_with fail
    go_ret
    exact ⟨rfl, rfl⟩
  · rw [if_neg h1]
    rw [decide_eq_false h1] at ol
    by_cases h2 : y < x
    · rw [if_pos h2]
      rw [decide_eq_true h2] at og
      go_enter Try.func54, Try.ntmps54
      go_wp2_with fail
      refine (hna.out _).mono ?_
      rintro e w' ⟨rfl, rfl⟩
      go_wp2_with fail
      refine (hnb.out _).mono ?_
      rintro e w' ⟨rfl, rfl⟩
      go_wp2_with fail
      go_ret
      exact ⟨rfl, rfl⟩
    · rw [if_neg h2]
      rw [decide_eq_false h2] at og
      go_enter Try.func54, Try.ntmps54
      go_wp2_with fail
      refine (hna.out _).mono ?_
      rintro e w' ⟨rfl, rfl⟩
      go_wp2_with fail
      refine (hnb.out _).mono ?_
      rintro e w' ⟨rfl, rfl⟩
      go_wp2_with fail
      go_ret
      exact ⟨rfl, rfl⟩
/-- the plain law of Compare: by kinds, then by rungs -/
theorem cmp_law (a b : Nat) : (cmpI (pv a) (pv b) ≠ 0 ∧ cmpv a b = cmpI (pv a) (pv b)) ∨ (cmpI (pv a) (pv b) = 0 ∧ (kd a = 3 ∨ kd a = 6) ∧ cmpv a b = cmpI (sr a) (sr b) ∧ rg a ≤ 9218868437227405312 ∧ rg b ≤ 9218868437227405312) ∨ (cmpI (pv a) (pv b) = 0 ∧ kd a ≠ 3 ∧ kd a ≠ 6 ∧ cmpv a b = 0) := by
  have ha := rk_cases a
  have hb := rk_cases b
  unfold cmpv cmpI pv
  generalize kd a = k at *
  generalize kd b = l at *
  generalize rk a = x at *
  generalize rk b = y at *
  generalize rg a = r at *
  generalize rg b = s at *
  generalize sr a = u at *
  generalize sr b = v at *
  rcases ha with ha | ha | ha | ha | ha | ha | ha <;> (obtain ⟨rfl, ha⟩ := ha; rcases hb with hb | hb | hb | hb | hb | hb | hb <;> (obtain ⟨rfl, hb⟩ := hb; simp; try omega))
set_option maxRecDepth 100000 in
set_option maxHeartbeats 1000000 in
theorem compare_c (a b : Nat) (w : World) (ha : a < 18446744073709551616) (hb : b < 18446744073709551616) : Calls Try.prog 21 #[.float .f64 a, .float .f64 b] w fun e w' => e = .returned (.int .i64 (cmpv a b)) ∧ w = w' := by
  have hpa := Lib.hid (fun w => place_c a w ha)
  have hpb := Lib.hid (fun w => place_c b w hb)
  have hc := Lib.hid (fun w => cmpi_c (pv a) (pv b) w)
  have hk := Lib.hid (fun w => kind_c a w ha)
  rcases cmp_law a b with ⟨h, e⟩ | ⟨h, h2, e, na, nb⟩ | ⟨h, h3, h6, e⟩
  · rw [e]; clear e hk
    have d : (cmpI (pv a) (pv b) == 0) = false := beq_eq_false_iff_ne.2 h
    clear h
    generalize cmpI (pv a) (pv b) = c at *
    generalize pv a = p at *
    generalize pv b = q at *
    go_enter Try.func21, Try.ntmps21
    go_wp2_with fail
    refine (hpa.out _).mono ?_
    rintro e w' ⟨rfl, rfl⟩
    go_wp2_with fail
    refine (hpb.out _).mono ?_
    rintro e w' ⟨rfl, rfl⟩
    go_wp2_with fail
    refine (hc.out _).mono ?_
    rintro e w' ⟨rfl, rfl⟩
    go_wp2_with fail
    go_ret
    exact ⟨rfl, rfl⟩
  · rw [e]; clear e
    have hf := Lib.hid (fun w => cmpf_c a b w ha hb na nb)
    rw [h] at hc
    have d : (kd a == 3) = true ∧ True ∨ (kd a == 3) = false ∧ (kd a == 6) = true := by rcases h2 with h2 | h2 <;> rw [h2] <;> simp
    clear h h2 na nb
    generalize cmpI (sr a) (sr b) = c at *
    generalize pv a = p at *
    generalize pv b = q at *
    generalize kd a = k at *
    rcases d with ⟨d, d2⟩ | ⟨d, d2⟩
    all_goals
      go_enter Try.func21, Try.ntmps21
      go_wp2_with fail
      refine (hpa.out _).mono ?_
      rintro e w' ⟨rfl, rfl⟩
      go_wp2_with fail
      refine (hpb.out _).mono ?_
      rintro e w' ⟨rfl, rfl⟩
      go_wp2_with fail
      refine (hc.out _).mono ?_
      rintro e w' ⟨rfl, rfl⟩
      go_wp2_with fail
      refine (hk.out _).mono ?_
      rintro e w' ⟨rfl, rfl⟩
      go_wp2_with fail
      refine (hf.out _).mono ?_
      rintro e w' ⟨rfl, rfl⟩
      go_wp2_with fail
      go_ret
      exact ⟨rfl, rfl⟩
  · rw [e]; clear e
    rw [h] at hc
    have d : (kd a == 3) = false := beq_eq_false_iff_ne.2 h3
    have d' : (kd a == 6) = false := beq_eq_false_iff_ne.2 h6
    clear h h3 h6
    generalize pv a = p at *
    generalize pv b = q at *
    generalize kd a = k at *
    go_enter Try.func21, Try.ntmps21
    go_wp2_with fail
    refine (hpa.out _).mono ?_
    rintro e w' ⟨rfl, rfl⟩
    go_wp2_with fail
    refine (hpb.out _).mono ?_
    rintro e w' ⟨rfl, rfl⟩
    go_wp2_with fail
    refine (hc.out _).mono ?_
    rintro e w' ⟨rfl, rfl⟩
    go_wp2_with fail
    refine (hk.out _).mono ?_
    rintro e w' ⟨rfl, rfl⟩
    go_wp2_with fail
    go_ret
    exact ⟨rfl, rfl⟩
end Fl
end Go.Proofs.Ytjfbnobijlkicaa
