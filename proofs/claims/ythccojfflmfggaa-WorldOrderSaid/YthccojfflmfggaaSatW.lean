/- The walks of layer 1 (sat). -/
import Derived.Test.YthccojfflmfggaaRows
import Derived.WalkKit
import Derived.BigQuiet
import Derived.Deep.QuietTactic
import Derived.WalkLawsBesides
import Derived.WalkSpells
import Derived.Lib.Hide
import Derived.Test.YthccojfflmfggaaSatL
import Derived.Test.YthccojfflmfggaaMem
namespace Go.Proofs.Ythccojfflmfggaa
open Go.RowKit
namespace Sat
theorem ret_int {k : IntKind} {a b : Int} (h : a = b) : Ending.returned (.int k a) = .returned (.int k b) := by rw [h]
theorem ret_bool {a b : Bool} (h : a = b) : Ending.returned (.bool a) = .returned (.bool b) := by rw [h]

theorem number_c (a : Int) (w : World) : Calls Try.prog 82 #[.int .i64 a] w fun e w' => e = .returned (.int .i64 (num a)) ∧ w = w' := by
  go_enter Try.func82, Try.ntmps82
  go_wp2
  · go_ret
    exact ⟨ret_int (by unfold num; split <;> omega), rfl⟩
  · go_ret
    exact ⟨ret_int (by unfold num; split <;> omega), rfl⟩

theorem add_c (a b : Int) (w : World) (ha : a ≤ 9223372036854775807) (hb : b ≤ 9223372036854775807) :
    Calls Try.prog 74 #[.int .i64 a, .int .i64 b] w fun e w' => e = .returned (.int .i64 (add a b)) ∧ w = w' := by
  have h1 := num_nonneg a
  have h2 := num_nonneg b
  have h3 := num_le a ha
  have h4 := num_le b hb
  go_enter Try.func74, Try.ntmps74
  go_wp2_with (go_at_call 82; refine (number_c _ _).mono ?_; rintro e w' ⟨rfl, rfl⟩)
  all_goals
    go_ret
    exact ⟨ret_int (by unfold add cut; split <;> omega), rfl⟩

theorem rnumber_c (a : Int) (w : World) (ha : a ≤ 9223372036854775807) : Calls Try.prog 87 #[.int .i64 a] w fun e w' => e = .returned (.int .u64 (num a)) ∧ w = w' := by
  by_cases h : a < 0
  · go_enter Try.func87, Try.ntmps87
    go_wp2
    go_ret
    exact ⟨ret_int (by unfold num; split <;> omega), rfl⟩
  · go_enter Try.func87, Try.ntmps87
    go_wp2
    go_ret
    exact ⟨ret_int (by unfold num; split <;> omega), rfl⟩

theorem rheld_c (a : Int) (w : World) (ha : 0 ≤ a) : Calls Try.prog 86 #[.int .u64 a] w fun e w' => e = .returned (.int .i64 (cut a)) ∧ w = w' := by
  by_cases h : 9223372036854775807 < a
  · go_enter Try.func86, Try.ntmps86
    go_wp2
    go_ret
    exact ⟨ret_int (by unfold cut; split <;> omega), rfl⟩
  · go_enter Try.func86, Try.ntmps86
    go_wp2
    go_ret
    exact ⟨ret_int (by unfold cut; split <;> omega), rfl⟩

theorem radd_c (a b : Int) (w : World) (ha : a ≤ 9223372036854775807) (hb : b ≤ 9223372036854775807) :
    Calls Try.prog 84 #[.int .i64 a, .int .i64 b] w fun e w' => e = .returned (.int .i64 (add a b)) ∧ w = w' := by
  have h1 := num_nonneg a
  have h2 := num_nonneg b
  have h3 := num_le a ha
  have h4 := num_le b hb
  go_enter Try.func84, Try.ntmps84
  go_wp2_with (first | (go_at_call 87; refine (rnumber_c _ _ (by omega)).mono ?_; rintro e w' ⟨rfl, rfl⟩) | (go_at_call 86; refine (rheld_c _ _ (by omega)).mono ?_; rintro e w' ⟨rfl, rfl⟩))
  go_ret
  exact ⟨rfl, rfl⟩

end Sat
end Go.Proofs.Ythccojfflmfggaa
