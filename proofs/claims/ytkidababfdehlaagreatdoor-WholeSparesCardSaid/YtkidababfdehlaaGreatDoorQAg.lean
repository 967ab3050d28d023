/- Parts of the walk. -/
import Derived.Test.YtkidababfdehlaaGreatDoorProg
import Derived.Test.YtkidababfdehlaaGreatDoorQAa
import Derived.Shelf.SlicesQ.IndexFunc
import Derived.Shelf.Slices.Turned
import Derived.Shelf.Slices.Clone
set_option linter.all false
set_option maxRecDepth 100000
namespace Go.Proofs
open _root_.Go.Proofs.Tryz
open YtkidababfdehlaaGreatDoor
open Go.Shelf
def Tryz.Vf:Go.Shelf.Ren:=⟨fun|6=>142|n=>n,fun|22=>23|23=>92|25=>93|3=>3|0=>0|4=>4|n=>n,fun|n=>n⟩
def Tryz.DL:Go.Shelf.Ren:=⟨fun|6=>254|n=>n,fun|22=>358|23=>362|25=>363|3=>3|0=>0|4=>4|n=>n,fun|n=>n⟩
theorem Tryz.Ve:Go.Proofs.SlLaysH0.n6 prog Tryz.DL:=by
 repeat' first|kernel_rfl|exact Br|exact λ_=>k_|constructor
def Tryz.xI:Go.Shelf.Ren:=⟨fun|109=>196|n=>n,fun|31=>52|9=>9|3=>3|0=>0|4=>4|n=>n,fun|n=>n⟩
theorem Tryz.JM:Go.Proofs.Lays.n109 prog Tryz.xI:=by
 repeat' first|kernel_rfl|exact Br|exact λ_=>k_|constructor
def Tryz.xJ:Go.Shelf.Ren:=⟨fun|110=>175|109=>196|n=>n,fun|31=>52|9=>9|4=>4|3=>3|0=>0|n=>n,fun|n=>n⟩
theorem Tryz.AH:Go.Proofs.Lays.n110 prog Tryz.xJ:=by
 repeat' first|kernel_rfl|exact Br|exact λ_=>k_|constructor
def Tryz.xK:Go.Shelf.Ren:=⟨fun|114=>77|n=>n,fun|28=>49|3=>3|4=>4|9=>9|20=>20|0=>0|n=>n,fun|n=>n⟩
theorem Tryz.Nj:Go.Proofs.Lays.n114 prog Tryz.xK:=by
 repeat' first|kernel_rfl|exact Br|exact λ_=>k_|constructor
end Go.Proofs
