/- Parts of the walk. -/
import Derived.Test.YtkidababfdehlaaGreatDoorRows
import Derived.JoinedOf
set_option linter.all false
set_option maxRecDepth 100000
namespace Go.Proofs.YtkidababfdehlaaGreatDoor.fV
theorem WV:(Rows.wholeSparesRow.recurses==Program.recurses Tryz.pinned.checked.prog 3)=true:=by kernel_rfl
theorem UE:(Rows.wholeSparesRow.named==Program.varsNamed Tryz.pinned.checked.prog 3)=true:=by kernel_rfl
end Go.Proofs.YtkidababfdehlaaGreatDoor.fV
