/- Parts of the walk. -/
import Derived.Test.YtkidababfdehlaaGreatDoorQAw
import Derived.Test.YtkidababfdehlaaGreatDoorQAx
set_option linter.all false
set_option maxRecDepth 100000
namespace Go.Proofs.YtkidababfdehlaaGreatDoor.fV
theorem iD {a b:Bool} (h:a=true) (h2:b=true):(a&&b)=true:=by rw [h,h2];rfl
theorem facts:joinedFacts Tryz.pinned.checked.prog 3 Tryz.f3 Rows.wholeSparesSpec Rows.wholeSparesRow=true:=by
 unfold joinedFacts;exact (iD (iD (iD (iD (iD (iD (iD (iD (iD (iD (iD (iD (iD (iD (iD (iD (iD (iD (iD (iD (iD (iD (iD (iD (iD (iD (iD (iD (iD (iD (iD (by kernel_rfl) (by kernel_rfl)) (by kernel_rfl)) (by kernel_rfl)) (by kernel_rfl)) (by kernel_rfl)) (by kernel_rfl)) (by kernel_rfl)) (by kernel_rfl)) Kf) xi) WV) UE) (by kernel_rfl)) (by kernel_rfl)) (by kernel_rfl)) (by kernel_rfl)) (by kernel_rfl)) (by kernel_rfl)) (by kernel_rfl)) (by kernel_rfl)) (by kernel_rfl)) (by kernel_rfl)) (by kernel_rfl)) (by kernel_rfl)) (by kernel_rfl)) (by kernel_rfl)) (by kernel_rfl)) (by kernel_rfl)) (by kernel_rfl)) (by kernel_rfl)) (by kernel_rfl))
end Go.Proofs.YtkidababfdehlaaGreatDoor.fV
