/- Parts of the walk. -/
import Derived.Test.YtkidababfdehlaaGreatDoorRows
import Derived.JoinedOf
import GoSem.ClaimSeven
set_option linter.all false
set_option maxRecDepth 100000
namespace Go.Proofs.YtkidababfdehlaaGreatDoor.fV
theorem goes:false=Rows.wholeSparesRow.goesBy Tryz.pinned.checked.prog:=by kernel_rfl
end Go.Proofs.YtkidababfdehlaaGreatDoor.fV
