/- SatSums: the walk. -/
import Derived.Test.YtfcdmfiblmnbkaaSatW
import Derived.Test.YtfcdmfiblmnbkaaFrame
namespace Go.Proofs.Ytfcdmfiblmnbkaa.satSums
open Go.RowKit Sat
theorem core (a b : Int) (w : World) (ha : a ≤ 9223372036854775807) (hb : b ≤ 9223372036854775807) :
    Calls Try.prog 3 #[.int .i64 a, .int .i64 b] w fun e w' => e = .returned (.bool true) ∧ Below w.heap.size w w' := by
  go_enter Try.func3, Try.ntmps3
  go_wp2_with (first
    | (go_at_call 14; refine (awake_c _).mono ?_; rintro e w' ⟨rfl, o, rfl⟩)
    | (go_at_call 15; refine (add_c _ _ _ ha hb).mono ?_; rintro e w' ⟨rfl, rfl⟩)
    | (go_at_call 16; refine (radd_c _ _ _ ha hb).mono ?_; rintro e w' ⟨rfl, rfl⟩)
    | (go_at_call 17; refine (mul_c _ _ _ ha hb).mono ?_; rintro e w' ⟨rfl, rfl⟩)
    | (go_at_call 18; refine (rmul_c _ _ _ ha hb).mono ?_; rintro e w' ⟨rfl, rfl⟩)
    | (go_at_call 19; refine (less_c _ _ _ ha hb).mono ?_; rintro e w' ⟨rfl, rfl⟩)
    | (go_at_call 20; refine (rless_c _ _ _ ha hb).mono ?_; rintro e w' ⟨rfl, rfl⟩)
    | (go_at_call 21; refine (full_c _ _).mono ?_; rintro e w' ⟨rfl, rfl⟩))
  go_ret
  exact ⟨rfl, (Below.refl _ _).alloc (Nat.le_refl _) _⟩
theorem walk (v1 v2 : Value) (w : World) (h1 : Frame.Arg Try.prog w 3 v1) (h2 : Frame.Arg Try.prog w 3 v2) :
    Calls Try.prog 3 #[v1, v2] w fun e w' => e = .returned (.bool true) ∧ Below w.heap.size w w' := by
  obtain ⟨a, rfl, ha⟩ := h1.int Try.underlying3
  obtain ⟨b, rfl, hb⟩ := h2.int Try.underlying3
  exact core a b w (Frame.bd_i64 ha).2 (Frame.bd_i64 hb).2
end Go.Proofs.Ytfcdmfiblmnbkaa.satSums
