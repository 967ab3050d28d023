/- The walks of layer 3 (edge): kinds; how two stand. -/
import Derived.Test.YtjfbnobijlkicaaRows
import Derived.WalkKit
import Derived.BigQuiet
import Derived.Deep.QuietTactic
import Derived.WalkLawsBesides
import Derived.WalkSpells
import Derived.Lib.Hide
import Derived.Test.YtjfbnobijlkicaaEdgeM
import Derived.Test.YtjfbnobijlkicaaMem
import Derived.Laws.Externs
namespace Go.Proofs.Ytjfbnobijlkicaa
open Go.RowKit
namespace Fl
theorem xbits (b : Nat) (w : World) : (callFunc 57 #[.float .f64 b]).run Try.prog w = .ok (.value (.int .u64 b)) w := by
  rw [run_callFunc_extern Try.func57 (by kernel_rfl) (by kernel_rfl) (by kernel_rfl) (e := Extern.MathFloatBits.float64bits) (by kernel_rfl)]
  rfl
theorem xfrom (b : Nat) (w : World) : (callFunc 16 #[.int .u64 (b : Int)]).run Try.prog w = .ok (.value (.float .f64 b)) w := by
  rw [run_callFunc_extern Try.func16 (by kernel_rfl) (by kernel_rfl) (by kernel_rfl) (e := Extern.MathFloatBits.float64frombits) (by kernel_rfl)]
  rfl
set_option maxRecDepth 100000 in
theorem signbit_c (b : Nat) (w : World) (hb : b < 18446744073709551616) : Calls Try.prog 51 #[.float .f64 b] w fun e w' => e = .returned (.bool (sg b)) ∧ w = w' := by
  have fb := xbits
  have d : decide (wrap64 (b : Int) < 0) = sg b := by
    unfold sg wrap64
    rw [decide_eq_decide]
    omega
  generalize sg b = s at *
  go_enter Try.func51, Try.ntmps51
  go_wp2_with fail
  go_ret
  exact ⟨rfl, rfl⟩
set_option maxRecDepth 100000 in
set_option maxHeartbeats 1000000 in
theorem isinf_c (b : Nat) (w : World) (r : Bool) (h : (FloatKind.f64.format.order b 9218868437227405311 == some .gt) = r) : Calls Try.prog 50 #[.float .f64 b, .int .i64 1] w fun e w' => e = .returned (.bool r) ∧ w = w' := by
  go_enter Try.func50, Try.ntmps50
  go_wp2_with fail
  go_ret
  exact ⟨rfl, rfl⟩
set_option maxRecDepth 100000 in
set_option maxHeartbeats 1000000 in
theorem isninf_c (b : Nat) (w : World) (r : Bool) (h : (FloatKind.f64.format.order (ng b) 9218868437227405311 == some .gt) = r) : Calls Try.prog 50 #[.float .f64 b, .int .i64 (-1)] w fun e w' => e = .returned (.bool r) ∧ w = w' := by
  have hneg : Op.unary .neg (.float .f64 b) = (pure (.float .f64 (ng b)) : Sem Value) := rfl
  go_enter Try.func50, Try.ntmps50
  go_wp2_with fail
  go_ret
  exact ⟨rfl, rfl⟩
set_option maxRecDepth 100000 in
set_option maxHeartbeats 1000000 in
theorem kind_c (b : Nat) (w : World) (hb : b < 18446744073709551616) : Calls Try.prog 19 #[.float .f64 b] w fun e w' => e = .returned (.int .i64 (kd b)) ∧ w = w' := by
  obtain ⟨n, i, p, l, g, s, hk⟩ := kf hb
  have hi : Hid (∀ (r : Bool), (FloatKind.f64.format.order b 9218868437227405311 == some .gt) = r → ∀ w, Calls Try.prog 50 #[.float .f64 b, .int .i64 1] w fun e w' => e = .returned (.bool r) ∧ w = w') := fun r h w => isinf_c b w r h
  have hn : Hid (∀ (r : Bool), (FloatKind.f64.format.order (ng b) 9218868437227405311 == some .gt) = r → ∀ w, Calls Try.prog 50 #[.float .f64 b, .int .i64 (-1)] w fun e w' => e = .returned (.bool r) ∧ w = w') := fun r h w => isninf_c b w r h
  have hs : Hid (∀ w, Calls Try.prog 51 #[.float .f64 b] w fun e w' => e = .returned (.bool (sg b)) ∧ w = w') := fun w => signbit_c b w hb
  rcases hk with hk | hk | hk | hk | hk | hk | hk
  · rw [hk] at n ⊢
    simp only [decide_true] at n
    clear i p l g s
    go_enter Try.func19, Try.ntmps19
    go_wp2_with fail
    go_ret
    exact ⟨rfl, rfl⟩
  all_goals
    rw [hk] at n i p l g s ⊢
    have i := hn.out _ (i (by decide))
    have p := hi.out _ (p (by decide))
    have l := l (by decide)
    have g := g (by decide)
    have HI := Lib.hid i
    have HP := Lib.hid p
    have HS : Hid ((_ : Int) = 4 ∨ (_ : Int) = 5 → sg b = decide ((_ : Int) = 4)) := s
    clear i p s hi hn hk
    simp at n l g
    go_enter Try.func19, Try.ntmps19
    go_wp2_with fail
    refine (HI.out _).mono ?_
    rintro e w' ⟨rfl, rfl⟩
    clear HI
    go_wp2_with fail
    try (go_ret; exact ⟨rfl, rfl⟩)
    try (refine (HP.out _).mono ?_; rintro e w' ⟨rfl, rfl⟩; clear HP; go_wp2_with fail)
    try (go_ret; exact ⟨rfl, rfl⟩)
    try (refine (hs.out _).mono ?_; rintro e w' ⟨rfl, rfl⟩; rw [HS.out (by decide)]; clear HS; go_wp2_with fail)
    try (go_ret; exact ⟨rfl, rfl⟩)
end Fl
end Go.Proofs.Ytjfbnobijlkicaa
