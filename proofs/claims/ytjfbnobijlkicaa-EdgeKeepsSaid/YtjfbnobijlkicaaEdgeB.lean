/- The walks of layer 3 (edge): awake. -/
import Derived.Test.YtjfbnobijlkicaaRows
import Derived.WalkKit
import Derived.BigQuiet
import Derived.Deep.QuietTactic
import Derived.WalkLawsBesides
import Derived.WalkSpells
import Derived.OwnWalk
import Derived.Lib.Hide
import Derived.Test.YtjfbnobijlkicaaEdgeA
namespace Go.Proofs.Ytjfbnobijlkicaa
open Go.RowKit
namespace Fl
theorem kd_29 : kd 4613712638259704627 = 6 := by kernel_rfl
theorem rd_29 : rdv 4613712638259704627 = 2 := by kernel_rfl
theorem kd_nan : kd 9221120237041090561 = 1 := by kernel_rfl
theorem rd_nan : rdv 9221120237041090561 = 0 := by kernel_rfl
theorem kd_nought : kd 9223372036854775808 = 4 := by kernel_rfl
theorem cmp_noughts : cmpv 9223372036854775808 0 = -1 := by kernel_rfl
theorem cmp_noughts2 : cmpv 0 9223372036854775808 = 1 := by kernel_rfl
theorem cmp_nans : cmpv 9221120237041090561 9221120237041090561 = 0 := by kernel_rfl
theorem oks_two : oks [4607182418800017408, 9218868437227405312] = true := by kernel_rfl
theorem rds_two : rds [4607182418800017408, 9218868437227405312] = [.int .i64 1, .int .i64 9223372036854775807] := by kernel_rfl
theorem least_two : leastF [4613937818241073152, 4611686018427387904] = 4611686018427387904 := by kernel_rfl
theorem order_two : (FloatKind.f64.format.order 4611686018427387904 4611686018427387904 == some .eq) = true := by kernel_rfl
set_option maxRecDepth 100000 in
set_option maxHeartbeats 2000000 in
theorem eawake_c (w : World) : Calls Try.prog 15 #[] w fun e w' => e = .returned (.bool true) ∧ Below w.heap.size w w' := by
  have r1 := fun w => read_c 4613712638259704627 w (by decide)
  rw [rd_29, kd_29, show decide ((6 : Int) ≠ 1) = true from rfl] at r1
  have r2 := fun w => read_c 9221120237041090561 w (by decide)
  rw [rd_nan, kd_nan, show decide ((1 : Int) ≠ 1) = false from rfl] at r2
  have k1 := fun w => kind_c 9223372036854775808 w (by decide)
  rw [kd_nought] at k1
  have c1 := fun w => compare_c 9223372036854775808 0 w (by decide) (by decide)
  rw [cmp_noughts] at c1
  have c2 := fun w => compare_c 9221120237041090561 9221120237041090561 w (by decide) (by decide)
  rw [cmp_nans] at c2
  have R1 := Lib.hid r1
  have R2 := Lib.hid r2
  have K1 := Lib.hid k1
  have C1 := Lib.hid c1
  have C2 := Lib.hid c2
  have o2 := order_two
  clear r1 r2 k1 c1 c2
  go_enter Try.func15, Try.ntmps15
  go_wp2_with fail
  refine (R1.out _).mono ?_
  rintro e w1 ⟨rfl, rfl⟩
  go_wp2_with fail
  refine (nan_c _).mono ?_
  rintro e w1 ⟨rfl, rfl⟩
  go_wp2_with fail
  refine (R2.out _).mono ?_
  rintro e w1 ⟨rfl, rfl⟩
  go_wp2_with fail
  refine (inf_c _).mono ?_
  rintro e w1 ⟨rfl, rfl⟩
  go_wp2_with fail
  refine (all_c (some ⟨w.heap.size, 0, none⟩) 2 2 [4607182418800017408, 9218868437227405312] _ (Mem.Sl.more (Mem.new_sl rfl rfl rfl) (by simp)) (by simp) (by decide)).mono ?_
  rintro e w2 ⟨hy, -⟩
  obtain ⟨A', c', rfl, hrow, hb2⟩ := hy oks_two
  obtain ⟨_, _, hv, hsl, _, hc1, hc2⟩ := Mem.own_form hrow
  obtain ⟨rfl, rfl⟩ : A' = _ ∧ c' = _ := by simpa using hv
  obtain ⟨ad, _, rfl, hbk, hcl⟩ := Mem.Sl.at_ (k := 1) hsl (by decide)
  have hcell : w2.cell? { block := ad.block, off := ad.off + 1 } = some (.int .i64 9223372036854775807) := by
    have : ad.add 1 = { block := ad.block, off := ad.off + 1 } := by simp [Addr.add]
    rw [← this, hcl]; simp [rds_two]
  have L2 : Below w.heap.size w w2 := ((Below.refl _ _).alloc (Nat.le_refl _) _).trans (hb2.mono (by simp))
  clear hy hrow hsl hb2 hcl
  go_wp2_with fail
  refine (copysign_c _).mono ?_
  rintro e w1 ⟨rfl, rfl⟩
  go_wp2_with fail
  refine (K1.out _).mono ?_
  rintro e w1 ⟨rfl, rfl⟩
  go_wp2_with fail
  refine (copysign_c _).mono ?_
  rintro e w1 ⟨rfl, rfl⟩
  go_wp2_with fail
  refine (C1.out _).mono ?_
  rintro e w1 ⟨rfl, rfl⟩
  go_wp2_with fail
  refine (nan_c _).mono ?_
  rintro e w1 ⟨rfl, rfl⟩
  go_wp2_with fail
  refine (nan_c _).mono ?_
  rintro e w1 ⟨rfl, rfl⟩
  go_wp2_with fail
  refine (C2.out _).mono ?_
  rintro e w1 ⟨rfl, rfl⟩
  go_wp2_with fail
  refine (least_c (some ⟨w2.heap.size, 0, none⟩) 2 2 [4613937818241073152, 4611686018427387904] _ (Mem.Sl.more (Mem.new_sl rfl rfl rfl) (by simp)) (by simp) (by decide)).mono ?_
  rintro e w3 ⟨rfl, rfl⟩
  rw [least_two]
  go_wp2_with fail
  go_ret
  exact ⟨rfl, L2.alloc L2.size _⟩
end Fl
end Go.Proofs.Ytjfbnobijlkicaa
