/- The walks of layer 3 (edge): the document's ranks; how two stand by it; words of the library. -/
import Derived.Test.YtjfbnobijlkicaaRows
import Derived.WalkKit
import Derived.BigQuiet
import Derived.Deep.QuietTactic
import Derived.WalkLawsBesides
import Derived.WalkSpells
import Derived.OwnWalk
import Derived.Lib.Hide
import Derived.Test.YtjfbnobijlkicaaEdgeU
namespace Go.Proofs.Ytjfbnobijlkicaa
open Go.RowKit
namespace Fl
theorem rank_law {b : Nat} (hb : b < 18446744073709551616) : kd b = 1 ∧ rk b + 9223372036854775808 = 18446744073709551615 ∨ kd b ≠ 1 ∧ (9223372036854775808 : Int) ≤ b ∧ rk b + 9223372036854775808 = 9223372036854775807 - ((b : Int) - 9223372036854775808) ∨ kd b ≠ 1 ∧ (b : Int) < 9223372036854775808 ∧ rk b + 9223372036854775808 = (b : Int) + 9223372036854775808 := by
  have hv := rg_val hb
  unfold rk sg
  by_cases h1 : kd b = 1
  · left; refine ⟨h1, ?_⟩; rw [if_pos h1]; rfl
  · right
    rw [if_neg h1]
    by_cases h2 : 9223372036854775808 ≤ b
    · left; rw [decide_eq_true h2]; simp only [if_true]; refine ⟨h1, by omega, ?_⟩
      rw [if_pos h2] at hv
      omega
    · right; rw [decide_eq_false h2]; simp only [Bool.false_eq_true, if_false]; refine ⟨h1, by omega, ?_⟩
      rw [if_neg h2] at hv
      omega
theorem rank_bd (b : Nat) : 0 ≤ rk b + 9223372036854775808 ∧ rk b + 9223372036854775808 ≤ 18446744073709551615 := by
  have := rk_cases b
  omega
set_option maxRecDepth 100000 in
theorem rank_c (b : Nat) (w : World) (hb : b < 18446744073709551616) : Calls Try.prog 55 #[.float .f64 b] w fun e w' => e = .returned (.int .u64 (rk b + 9223372036854775808)) ∧ w = w' := by
  have fb := xbits
  have hk := Lib.hid (fun w => rkind_c b w hb)
  rcases rank_law hb with ⟨h1, e⟩ | ⟨h1, h2, e⟩ | ⟨h1, h2, e⟩
  · rw [e]; clear e
    have d : (kd b == 1) = true := beq_iff_eq.2 h1
    clear h1
    generalize kd b = k at *
    go_enter Try.func55, Try.ntmps55
    go_wp2_with fail
    refine (hk.out _).mono ?_
    rintro e w' ⟨rfl, rfl⟩
    go_wp2_with fail
    go_ret
    exact ⟨rfl, rfl⟩
  · rw [e]; clear e
    have d : (kd b == 1) = false := beq_eq_false_iff_ne.2 h1
    have d2 : decide ((b : Int) ≥ 9223372036854775808) = true := decide_eq_true h2
    clear h1
    generalize kd b = k at *
    go_enter Try.func55, Try.ntmps55
    go_wp2_with fail
    refine (hk.out _).mono ?_
    rintro e w' ⟨rfl, rfl⟩
    go_wp2_with fail
    go_ret
    exact ⟨rfl, rfl⟩
  · rw [e]; clear e
    have d : (kd b == 1) = false := beq_eq_false_iff_ne.2 h1
    have d2 : decide ((b : Int) ≥ 9223372036854775808) = false := decide_eq_false (by omega)
    clear h1
    generalize kd b = k at *
    go_enter Try.func55, Try.ntmps55
    go_wp2_with fail
    refine (hk.out _).mono ?_
    rintro e w' ⟨rfl, rfl⟩
    go_wp2_with fail
    go_ret
    exact ⟨rfl, rfl⟩
theorem cmpv_law (a b : Nat) : rk a + 9223372036854775808 < rk b + 9223372036854775808 ∧ cmpv a b = -1 ∨ ¬ rk a + 9223372036854775808 < rk b + 9223372036854775808 ∧ rk a + 9223372036854775808 > rk b + 9223372036854775808 ∧ cmpv a b = 1 ∨ ¬ rk a + 9223372036854775808 < rk b + 9223372036854775808 ∧ ¬ rk a + 9223372036854775808 > rk b + 9223372036854775808 ∧ cmpv a b = 0 := by
  unfold cmpv
  by_cases h1 : rk a < rk b
  · left; rw [if_pos h1]; omega
  · right
    rw [if_neg h1]
    by_cases h2 : rk b < rk a
    · left; rw [if_pos h2]; omega
    · right; rw [if_neg h2]; omega
set_option maxRecDepth 100000 in
theorem rcompare_c (a b : Nat) (w : World) (ha : a < 18446744073709551616) (hb : b < 18446744073709551616) : Calls Try.prog 22 #[.float .f64 a, .float .f64 b] w fun e w' => e = .returned (.int .i64 (cmpv a b)) ∧ w = w' := by
  have hx := Lib.hid (fun w => rank_c a w ha)
  have hy := Lib.hid (fun w => rank_c b w hb)
  rcases cmpv_law a b with ⟨h1, e⟩ | ⟨h1, h2, e⟩ | ⟨h1, h2, e⟩
  · rw [e]; clear e
    have d := decide_eq_true h1
    clear h1
    generalize rk a + 9223372036854775808 = x at *
    generalize rk b + 9223372036854775808 = y at *
    go_enter Try.func22, Try.ntmps22
    go_wp2_with fail
    refine (hx.out _).mono ?_
    rintro e w' ⟨rfl, rfl⟩
    go_wp2_with fail
    refine (hy.out _).mono ?_
    rintro e w' ⟨rfl, rfl⟩
    go_wp2_with fail
    go_ret
    exact ⟨rfl, rfl⟩
  · rw [e]; clear e
    have d := decide_eq_false h1
    have d2 := decide_eq_true h2
    clear h1 h2
    generalize rk a + 9223372036854775808 = x at *
    generalize rk b + 9223372036854775808 = y at *
    go_enter Try.func22, Try.ntmps22
    go_wp2_with fail
    refine (hx.out _).mono ?_
    rintro e w' ⟨rfl, rfl⟩
    go_wp2_with fail
    refine (hy.out _).mono ?_
    rintro e w' ⟨rfl, rfl⟩
    go_wp2_with fail
    go_ret
    exact ⟨rfl, rfl⟩
  · rw [e]; clear e
    have d := decide_eq_false h1
    have d2 := decide_eq_false h2
    clear h1 h2
    generalize rk a + 9223372036854775808 = x at *
    generalize rk b + 9223372036854775808 = y at *
    go_enter Try.func22, Try.ntmps22
    go_wp2_with fail
    refine (hx.out _).mono ?_
    rintro e w' ⟨rfl, rfl⟩
    go_wp2_with fail
    refine (hy.out _).mono ?_
    rintro e w' ⟨rfl, rfl⟩
    go_wp2_with fail
    go_ret
    exact ⟨rfl, rfl⟩
set_option maxRecDepth 100000 in
theorem alike_c (a b : Nat) (w : World) (ha : a < 18446744073709551616) (hb : b < 18446744073709551616) : Calls Try.prog 24 #[.float .f64 a, .float .f64 b] w fun e w' => e = .returned (.bool (cmpv a b == 0)) ∧ w = w' := by
  have hx := Lib.hid (fun w => rcompare_c a b w ha hb)
  generalize cmpv a b = x at *
  go_enter Try.func24, Try.ntmps24
  go_wp2_with fail
  refine (hx.out _).mono ?_
  rintro e w' ⟨rfl, rfl⟩
  go_wp2_with fail
  go_ret
  exact ⟨rfl, rfl⟩
set_option maxRecDepth 100000 in
theorem inf_c (w : World) : Calls Try.prog 47 #[.int .i64 1] w fun e w' => e = .returned (.float .f64 9218868437227405312) ∧ w = w' := by
  have fb : ∀ w, (callFunc 16 #[.int .u64 9218868437227405312]).run Try.prog w = .ok (.value (.float .f64 9218868437227405312)) w := fun w => xfrom 9218868437227405312 w
  go_enter Try.func47, Try.ntmps47
  go_wp2_with fail
  go_ret
  exact ⟨rfl, rfl⟩
set_option maxRecDepth 100000 in
theorem nan_c (w : World) : Calls Try.prog 46 #[] w fun e w' => e = .returned (.float .f64 9221120237041090561) ∧ w = w' := by
  have fb : ∀ w, (callFunc 16 #[.int .u64 9221120237041090561]).run Try.prog w = .ok (.value (.float .f64 9221120237041090561)) w := fun w => xfrom 9221120237041090561 w
  go_enter Try.func46, Try.ntmps46
  go_wp2_with fail
  go_ret
  exact ⟨rfl, rfl⟩
set_option maxRecDepth 100000 in
theorem copysign_c (w : World) : Calls Try.prog 26 #[.float .f64 0, .float .f64 13830554455654793216] w fun e w' => e = .returned (.float .f64 9223372036854775808) ∧ w = w' := by
  have fb : ∀ w, (callFunc 16 #[.int .u64 9223372036854775808]).run Try.prog w = .ok (.value (.float .f64 9223372036854775808)) w := fun w => xfrom 9223372036854775808 w
  have f1 : ∀ w, (callFunc 57 #[.float .f64 0]).run Try.prog w = .ok (.value (.int .u64 0)) w := fun w => xbits 0 w
  have f2 : ∀ w, (callFunc 57 #[.float .f64 13830554455654793216]).run Try.prog w = .ok (.value (.int .u64 13830554455654793216)) w := fun w => xbits 13830554455654793216 w
  have h1 : bits .andNot .u64 0 9223372036854775808 = 0 := by decide
  have h2 : bits .and .u64 13830554455654793216 9223372036854775808 = 9223372036854775808 := by decide
  have h3 : bits .or .u64 0 9223372036854775808 = 9223372036854775808 := by decide
  go_enter Try.func26, Try.ntmps26
  go_wp2_with fail
  go_ret
  exact ⟨rfl, rfl⟩
end Fl
end Go.Proofs.Ytjfbnobijlkicaa
