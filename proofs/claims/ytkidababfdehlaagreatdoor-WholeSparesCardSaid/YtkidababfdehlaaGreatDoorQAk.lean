/- Parts of the walk. -/
import Derived.Test.YtkidababfdehlaaGreatDoorQAf
set_option linter.all false
set_option maxRecDepth 100000
set_option maxHeartbeats 64000000
namespace Go.Proofs
open _root_.Go.Proofs.Tryz
open Go.RowKit Go.Maps Go.Sort Go.Shelf
theorem Tryz.iR {H:Type} (k:TypeId) (R:Value->Option (DataW H×List MemPlace)) (b n:Nat) (D:DataW H) (w:World) (hown:w.ownsMap prog k R b n D):
  Calls prog 204 #[.map (some b)] w λe w'=>e= .returned (.map (some w.heap.size))/\w'.ownsMap prog k R w.heap.size n D/\w'.ownsMap prog k R b n D/\Below w.heap.size w w':=
 AnyW.maps_Clone_owns Tryz.RJ k R b n D w hown
end Go.Proofs
