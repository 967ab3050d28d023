/- The walks of layer 3 (edge): what is read of a number. -/
import Derived.Test.YtjfbnobijlkicaaRows
import Derived.WalkKit
import Derived.BigQuiet
import Derived.Deep.QuietTactic
import Derived.WalkLawsBesides
import Derived.WalkSpells
import Derived.Lib.Hide
import Derived.Test.YtjfbnobijlkicaaEdgeX
namespace Go.Proofs.Ytjfbnobijlkicaa
open Go.RowKit
namespace Fl
theorem xfloor (b : Nat) (hb : b < 9218868437227405312) (w : World) : (callFunc 64 #[.float .f64 b]).run Try.prog w = .ok (.value (.float .f64 (whole (fl b)))) w := by
  have hr : rg b = b := by unfold rg; omega
  have hs : sg b = false := by unfold sg; exact decide_eq_false (by omega)
  have e : FloatKind.f64.decode b = .number false (mag b) (-1074 + (pl b : Nat)) := by
    have := read_num (b := b) (by omega) (by rw [hr]; exact hb)
    rw [hr, hs] at this
    exact this
  have h := floor_pos hb
  rw [run_callFunc_extern Try.func64 (by kernel_rfl) (by kernel_rfl) (by kernel_rfl) (e := Extern.MathFloor.toIntegral "math.archFloor" .down) (by kernel_rfl)]
  rw [e] at h
  have h2 : Extern.MathFloor.toIntegral "math.archFloor" .down #[.float .f64 b] = (pure (.float .f64 (whole (fl b))) : Sem Value) := by
    unfold Extern.MathFloor.toIntegral
    show (match FloatKind.f64.decode b with | .nan s t => _ | d => _) = _
    rw [e]
    rw [← h]
  rw [h2]
  rfl
set_option maxRecDepth 100000 in
theorem floor_c (b : Nat) (hb : b < 9218868437227405312) (w : World) : Calls Try.prog 48 #[.float .f64 b] w fun e w' => e = .returned (.float .f64 (whole (fl b))) ∧ w = w' := by
  have fb := xfloor b hb
  generalize whole (fl b) = x at *
  clear hb
  go_enter Try.func48, Try.ntmps48
  go_wp2_with fail
  go_ret
  exact ⟨rfl, rfl⟩
/-- what the walk of Read meets -/
theorem rd_law {b : Nat} (hb : b < 18446744073709551616) : kd b = 1 ∧ rdv b = 0 ∨ (kd b ≠ 1 ∧ kd b ≤ 5 ∧ rdv b = 0) ∨ (kd b ≠ 1 ∧ ¬ kd b ≤ 5 ∧ rdv b = 9223372036854775807 ∧ (FloatKind.f64.format.order b 4890909195324358656 == some .gt || FloatKind.f64.format.order b 4890909195324358656 == some .eq) = true) ∨ (kd b ≠ 1 ∧ ¬ kd b ≤ 5 ∧ rdv b = fl b ∧ (FloatKind.f64.format.order b 4890909195324358656 == some .gt) = false ∧ (FloatKind.f64.format.order b 4890909195324358656 == some .eq) = false ∧ b < 9218868437227405312 ∧ floatToIntVal .f64 (whole (fl b)) .i64 = some (fl b : Int)) := by
  by_cases h1 : kd b = 1
  · left
    refine ⟨h1, ?_⟩
    unfold rdv
    rw [h1]
    rfl
  right
  by_cases h5 : kd b ≤ 5
  · left
    refine ⟨h1, h5, ?_⟩
    unfold rdv
    rw [if_pos h5]
  right
  have hc := rk_cases b
  have hr : rg b ≤ 9218868437227405312 := by omega
  have hs : sr b = rg b := by omega
  have hz : sg b = false := by
    cases h : sg b
    · rfl
    · exfalso
      unfold sr at hs
      rw [h] at hs
      simp only [if_true] at hs
      omega
  have hv := rg_val hb
  have hlt : b < 9223372036854775808 := by unfold sg at hz; have := of_decide_eq_false hz; omega
  have eb : rg b = b := by rw [hv, if_neg (by omega)]
  have rm : rg 4890909195324358656 ≤ 9218868437227405312 := by unfold rg; omega
  have sm : sr 4890909195324358656 = 4890909195324358656 := by unfold sr sg rg; rw [decide_eq_false (by omega)]; simp
  have o := order_sr hb (show 4890909195324358656 < 18446744073709551616 by omega) hr rm
  rw [sm, hs] at o
  rw [o, ord_gt, ord_eq]
  unfold rdv
  rw [if_neg h5]
  rw [eb] at hr ⊢
  by_cases hm : 4890909195324358656 ≤ b
  · left
    refine ⟨h1, h5, by rw [if_pos hm], ?_⟩
    by_cases he : 4890909195324358656 < b
    · rw [decide_eq_true (by omega)]; rfl
    · rw [decide_eq_true (p := (b : Int) = 4890909195324358656) (by omega)]
      simp
  · right
    refine ⟨h1, h5, by rw [if_neg hm], decide_eq_false (by omega), decide_eq_false (by omega), by omega, ?_⟩
    exact back (ex_fl (by omega)) (fl_lt (by omega))
set_option maxRecDepth 100000 in
set_option maxHeartbeats 1000000 in
theorem read_c (b : Nat) (w : World) (hb : b < 18446744073709551616) : Calls Try.prog 17 #[.float .f64 b] w fun e w' => e = .returned (.tuple #[.int .i64 (rdv b), .bool (decide (kd b ≠ 1))]) ∧ w = w' := by
  have hk := Lib.hid (fun w => kind_c b w hb)
  rcases rd_law hb with ⟨h1, e⟩ | ⟨h1, h5, e⟩ | ⟨h1, h5, e, o⟩ | ⟨h1, h5, e, o1, o2, hlt, hx⟩
  · rw [e, decide_eq_false (by omega)]; clear e
    have d : (kd b == 1) = true := beq_iff_eq.2 h1
    clear h1
    generalize kd b = k at *
    go_enter Try.func17, Try.ntmps17
    go_wp2_with fail
    refine (hk.out _).mono ?_
    rintro e w' ⟨rfl, rfl⟩
    go_wp2_with fail
    go_ret2
    exact ⟨rfl, rfl⟩
  · rw [e, decide_eq_true h1]; clear e
    have d : (kd b == 1) = false := beq_eq_false_iff_ne.2 h1
    have d2 : decide (kd b ≤ 5) = true := decide_eq_true h5
    clear h1 h5
    generalize kd b = k at *
    go_enter Try.func17, Try.ntmps17
    go_wp2_with fail
    refine (hk.out _).mono ?_
    rintro e w' ⟨rfl, rfl⟩
    go_wp2_with fail
    go_ret2
    exact ⟨rfl, rfl⟩
  · rw [e, decide_eq_true h1]; clear e
    have d : (kd b == 1) = false := beq_eq_false_iff_ne.2 h1
    have d2 : decide (kd b ≤ 5) = false := decide_eq_false h5
    clear h1 h5
    generalize kd b = k at *
    go_enter Try.func17, Try.ntmps17
    go_wp2_with fail
    refine (hk.out _).mono ?_
    rintro e w' ⟨rfl, rfl⟩
    go_wp2_with fail
    go_ret2
    exact ⟨rfl, rfl⟩
  · rw [e, decide_eq_true h1]; clear e
    have d : (kd b == 1) = false := beq_eq_false_iff_ne.2 h1
    have d2 : decide (kd b ≤ 5) = false := decide_eq_false h5
    have hf := Lib.hid (fun w => floor_c b hlt w)
    have hcv : ∀ w, (convert 24 3 (.float .f64 (whole (fl b)))).run Try.prog w = .ok (.int .i64 (fl b : Int)) w := fun w => run_convert_float_int w 24 3 .f64 .i64 _ _ (by rw [Try.underlying24]; rfl) Try.underlying3 hx
    clear h1 h5 hlt hx
    generalize kd b = k at *
    generalize whole (fl b) = x at *
    generalize (fl b : Int) = y at *
    go_enter Try.func17, Try.ntmps17
    go_wp2_with fail
    refine (hk.out _).mono ?_
    rintro e w' ⟨rfl, rfl⟩
    go_wp2_with fail
    refine (hf.out _).mono ?_
    rintro e w' ⟨rfl, rfl⟩
    go_wp2_with fail
    go_ret2
    exact ⟨rfl, rfl⟩
end Fl
end Go.Proofs.Ytjfbnobijlkicaa
