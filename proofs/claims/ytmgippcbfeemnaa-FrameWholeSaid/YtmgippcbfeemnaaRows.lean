/-
  No cell of these rows narrows 'for every input' (looked for: loops, veiled, ifaces, maps, wideKeys, modest, calm, conditions, laid).
  DERIVED. THE GIVEN ROWS OF THIS SEAT. 10 by the template 'for every input the law returns true; each argument reads behind the call as it read before'; 0 by the template 'total and deterministic' (their statements: YtmgippcbfeemnaaTotals.lean).
  GIVEN WITH THE SEED: the statements are not yours to turn. If you find one false, say at which input.
  Laid BY PROGRAM, IN A SANDBOX (cutbox-rows.mjs): the forced cells as the released guide's own fill.sh prints them over the translation fddb3a40ed7cf54e… (all of the seat's roots in one cut). By AI agents, Wed Nov 11 2026. No macro, syntax, notation, axiom, sorry.
-/
import Derived.Test.YtmgippcbfeemnaaChecked
import GoSem.Claim
import GoSem.ClaimJoined
import GoSem.ClaimMapViews
import Derived.JoinedTies
import Derived.KernelRfl
namespace Go.Proofs.Ytmgippcbfeemnaa
/- THE CELL 'sum', in the pinned program and in every row, IS THE sha256 OF THE DUMP (.gsa) THAT YtmgippcbfeemnaaProg.lean LOADS. Nothing in Lean hashes anything: it is a label: what it is worth is what the hold of that sum in a sandbox is worth. -/
noncomputable def Try.pinned : Pinned := { name := "ytmgippcbfeemnaa", sum := "fddb3a40ed7cf54ebe75df22cdd659ee69b436c0f52f507977bffb5d40c4274b", checked := Try.checked }
namespace Rows
def none {H : Type} : Left H := { results := [], args := [] }

/-- 'bilgelaw08.SumParts': WHATEVER THE INPUT: true; the input reads as it did. -/
def sumPartsSpec : ChangeSpec := { name := "sumParts", fn := fun _ => fun
  | [d1, d2, d3] => { results := [.lit (.bool true)], args := [d1, d2, d3] }
  | _ => none }
def sumPartsRow : OpenClaim := { program := "ytmgippcbfeemnaa", sum := "fddb3a40ed7cf54ebe75df22cdd659ee69b436c0f52f507977bffb5d40c4274b", func := "bilge/bilgelaw08.SumParts", spec := "sumParts", apart := false }
def SumPartsSaid : Prop := sumPartsRow.holds Try.pinned (OpenSpec.ofChange sumPartsSpec)

/-- ITS FALSE NEIGHBOUR: 'it returns false'. Refute it at one input. -/
def sumPartsWrong : ChangeSpec := { name := "sumParts", fn := fun _ => fun
  | [d1, d2, d3] => { results := [.lit (.bool false)], args := [d1, d2, d3] }
  | _ => none }
def SumPartsWrongFalsely : Prop := sumPartsRow.holds Try.pinned (OpenSpec.ofChange sumPartsWrong)

/-- 'bilgelaw08.SumTurned': WHATEVER THE INPUT: true; the input reads as it did. -/
def sumTurnedSpec : ChangeSpec := { name := "sumTurned", fn := fun _ => fun
  | [d1, d2, d3] => { results := [.lit (.bool true)], args := [d1, d2, d3] }
  | _ => none }
def sumTurnedRow : OpenClaim := { program := "ytmgippcbfeemnaa", sum := "fddb3a40ed7cf54ebe75df22cdd659ee69b436c0f52f507977bffb5d40c4274b", func := "bilge/bilgelaw08.SumTurned", spec := "sumTurned", apart := false }
def SumTurnedSaid : Prop := sumTurnedRow.holds Try.pinned (OpenSpec.ofChange sumTurnedSpec)

/-- ITS FALSE NEIGHBOUR: 'it returns false'. Refute it at one input. -/
def sumTurnedWrong : ChangeSpec := { name := "sumTurned", fn := fun _ => fun
  | [d1, d2, d3] => { results := [.lit (.bool false)], args := [d1, d2, d3] }
  | _ => none }
def SumTurnedWrongFalsely : Prop := sumTurnedRow.holds Try.pinned (OpenSpec.ofChange sumTurnedWrong)

/-- 'bilgelaw08.SumCuts': WHATEVER THE INPUT: true; the input reads as it did. -/
def sumCutsSpec : ChangeSpec := { name := "sumCuts", fn := fun _ => fun
  | [d] => { results := [.lit (.bool true)], args := [d] }
  | _ => none }
def sumCutsRow : OpenClaim := { program := "ytmgippcbfeemnaa", sum := "fddb3a40ed7cf54ebe75df22cdd659ee69b436c0f52f507977bffb5d40c4274b", func := "bilge/bilgelaw08.SumCuts", spec := "sumCuts", apart := false }
def SumCutsSaid : Prop := sumCutsRow.holds Try.pinned (OpenSpec.ofChange sumCutsSpec)

/-- ITS FALSE NEIGHBOUR: 'it returns false'. Refute it at one input. -/
def sumCutsWrong : ChangeSpec := { name := "sumCuts", fn := fun _ => fun
  | [d] => { results := [.lit (.bool false)], args := [d] }
  | _ => none }
def SumCutsWrongFalsely : Prop := sumCutsRow.holds Try.pinned (OpenSpec.ofChange sumCutsWrong)

/-- 'bilgelaw08.SumKeeps': WHATEVER THE INPUT: true; the input reads as it did. -/
def sumKeepsSpec : ChangeSpec := { name := "sumKeeps", fn := fun _ => fun
  | [d] => { results := [.lit (.bool true)], args := [d] }
  | _ => none }
def sumKeepsRow : OpenClaim := { program := "ytmgippcbfeemnaa", sum := "fddb3a40ed7cf54ebe75df22cdd659ee69b436c0f52f507977bffb5d40c4274b", func := "bilge/bilgelaw08.SumKeeps", spec := "sumKeeps", apart := false }
def SumKeepsSaid : Prop := sumKeepsRow.holds Try.pinned (OpenSpec.ofChange sumKeepsSpec)

/-- ITS FALSE NEIGHBOUR: 'it returns false'. Refute it at one input. -/
def sumKeepsWrong : ChangeSpec := { name := "sumKeeps", fn := fun _ => fun
  | [d] => { results := [.lit (.bool false)], args := [d] }
  | _ => none }
def SumKeepsWrongFalsely : Prop := sumKeepsRow.holds Try.pinned (OpenSpec.ofChange sumKeepsWrong)

/-- 'bilgelaw08.SumLinear': WHATEVER THE INPUT: true; the input reads as it did. -/
def sumLinearSpec : ChangeSpec := { name := "sumLinear", fn := fun _ => fun
  | [d1, d2, d3] => { results := [.lit (.bool true)], args := [d1, d2, d3] }
  | _ => none }
def sumLinearRow : OpenClaim := { program := "ytmgippcbfeemnaa", sum := "fddb3a40ed7cf54ebe75df22cdd659ee69b436c0f52f507977bffb5d40c4274b", func := "bilge/bilgelaw08.SumLinear", spec := "sumLinear", apart := false }
def SumLinearSaid : Prop := sumLinearRow.holds Try.pinned (OpenSpec.ofChange sumLinearSpec)

/-- ITS FALSE NEIGHBOUR: 'it returns false'. Refute it at one input. -/
def sumLinearWrong : ChangeSpec := { name := "sumLinear", fn := fun _ => fun
  | [d1, d2, d3] => { results := [.lit (.bool false)], args := [d1, d2, d3] }
  | _ => none }
def SumLinearWrongFalsely : Prop := sumLinearRow.holds Try.pinned (OpenSpec.ofChange sumLinearWrong)

/-- 'bilgelaw09.FramePuts': WHATEVER THE INPUT: true; the input reads as it did. -/
def framePutsSpec : ChangeSpec := { name := "framePuts", fn := fun _ => fun
  | [d1, d2] => { results := [.lit (.bool true)], args := [d1, d2] }
  | _ => none }
def framePutsRow : OpenClaim := { program := "ytmgippcbfeemnaa", sum := "fddb3a40ed7cf54ebe75df22cdd659ee69b436c0f52f507977bffb5d40c4274b", func := "bilge/bilgelaw09.FramePuts", spec := "framePuts", unfollowed := true, recurses := true, apart := false }
def FramePutsSaid : Prop := framePutsRow.holds Try.pinned (OpenSpec.ofChange framePutsSpec)

/-- ITS FALSE NEIGHBOUR: 'it returns false'. Refute it at one input. -/
def framePutsWrong : ChangeSpec := { name := "framePuts", fn := fun _ => fun
  | [d1, d2] => { results := [.lit (.bool false)], args := [d1, d2] }
  | _ => none }
def FramePutsWrongFalsely : Prop := framePutsRow.holds Try.pinned (OpenSpec.ofChange framePutsWrong)

/-- 'bilgelaw09.FrameWhole': WHATEVER THE INPUT: true; the input reads as it did. -/
def frameWholeSpec : ChangeSpec := { name := "frameWhole", fn := fun _ => fun
  | [d1, d2, d3, d4, d5] => { results := [.lit (.bool true)], args := [d1, d2, d3, d4, d5] }
  | _ => none }
def frameWholeRow : OpenClaim := { program := "ytmgippcbfeemnaa", sum := "fddb3a40ed7cf54ebe75df22cdd659ee69b436c0f52f507977bffb5d40c4274b", func := "bilge/bilgelaw09.FrameWhole", spec := "frameWhole", unfollowed := true, recurses := true, apart := false }
def FrameWholeSaid : Prop := frameWholeRow.holds Try.pinned (OpenSpec.ofChange frameWholeSpec)

/-- ITS FALSE NEIGHBOUR: 'it returns false'. Refute it at one input. -/
def frameWholeWrong : ChangeSpec := { name := "frameWhole", fn := fun _ => fun
  | [d1, d2, d3, d4, d5] => { results := [.lit (.bool false)], args := [d1, d2, d3, d4, d5] }
  | _ => none }
def FrameWholeWrongFalsely : Prop := frameWholeRow.holds Try.pinned (OpenSpec.ofChange frameWholeWrong)

/-- 'bilgelaw09.FrameGets': WHATEVER THE INPUT: true; the input reads as it did. -/
def frameGetsSpec : ChangeSpec := { name := "frameGets", fn := fun _ => fun
  | [d] => { results := [.lit (.bool true)], args := [d] }
  | _ => none }
def frameGetsRow : OpenClaim := { program := "ytmgippcbfeemnaa", sum := "fddb3a40ed7cf54ebe75df22cdd659ee69b436c0f52f507977bffb5d40c4274b", func := "bilge/bilgelaw09.FrameGets", spec := "frameGets", unfollowed := true, recurses := true, apart := false }
def FrameGetsSaid : Prop := frameGetsRow.holds Try.pinned (OpenSpec.ofChange frameGetsSpec)

/-- ITS FALSE NEIGHBOUR: 'it returns false'. Refute it at one input. -/
def frameGetsWrong : ChangeSpec := { name := "frameGets", fn := fun _ => fun
  | [d] => { results := [.lit (.bool false)], args := [d] }
  | _ => none }
def FrameGetsWrongFalsely : Prop := frameGetsRow.holds Try.pinned (OpenSpec.ofChange frameGetsWrong)

/-- 'bilgelaw09.FrameKeeps': WHATEVER THE INPUT: true; the input reads as it did. -/
def frameKeepsSpec : ChangeSpec := { name := "frameKeeps", fn := fun _ => fun
  | [d1, d2] => { results := [.lit (.bool true)], args := [d1, d2] }
  | _ => none }
def frameKeepsRow : OpenClaim := { program := "ytmgippcbfeemnaa", sum := "fddb3a40ed7cf54ebe75df22cdd659ee69b436c0f52f507977bffb5d40c4274b", func := "bilge/bilgelaw09.FrameKeeps", spec := "frameKeeps", unfollowed := true, recurses := true, apart := false }
def FrameKeepsSaid : Prop := frameKeepsRow.holds Try.pinned (OpenSpec.ofChange frameKeepsSpec)

/-- ITS FALSE NEIGHBOUR: 'it returns false'. Refute it at one input. -/
def frameKeepsWrong : ChangeSpec := { name := "frameKeeps", fn := fun _ => fun
  | [d1, d2] => { results := [.lit (.bool false)], args := [d1, d2] }
  | _ => none }
def FrameKeepsWrongFalsely : Prop := frameKeepsRow.holds Try.pinned (OpenSpec.ofChange frameKeepsWrong)

/-- 'bilgelaw09.FrameTwo': WHATEVER THE INPUT: true; the input reads as it did. -/
def frameTwoSpec : ChangeSpec := { name := "frameTwo", fn := fun _ => fun
  | [d1, d2, d3, d4] => { results := [.lit (.bool true)], args := [d1, d2, d3, d4] }
  | _ => none }
def frameTwoRow : OpenClaim := { program := "ytmgippcbfeemnaa", sum := "fddb3a40ed7cf54ebe75df22cdd659ee69b436c0f52f507977bffb5d40c4274b", func := "bilge/bilgelaw09.FrameTwo", spec := "frameTwo", unfollowed := true, recurses := true, apart := false }
def FrameTwoSaid : Prop := frameTwoRow.holds Try.pinned (OpenSpec.ofChange frameTwoSpec)

/-- ITS FALSE NEIGHBOUR: 'it returns false'. Refute it at one input. -/
def frameTwoWrong : ChangeSpec := { name := "frameTwo", fn := fun _ => fun
  | [d1, d2, d3, d4] => { results := [.lit (.bool false)], args := [d1, d2, d3, d4] }
  | _ => none }
def FrameTwoWrongFalsely : Prop := frameTwoRow.holds Try.pinned (OpenSpec.ofChange frameTwoWrong)

/- THE SECOND FORM. 'bulk': how many values and letters a reading holds, each counted each time it is reached (what is shared counts as often as it is met; a slice's spare places count too). A statement '..UptoSaid' is the law's where the arguments, and the package variables that the reading takes, are together of bulk at most 1048576: NARROWER than '..Said'. Prove '..Said' where nothing that the law and all that it calls make is longer than what came in: it says more and counts as full. Else prove '..UptoSaid'. A law counts once. -/
mutual
def uptoBulk {H : Type} : DataW H → Nat
  | .lit (.string bytes) => bytes.length + 1
  | .lit _ => 1
  | .nil => 1
  | .ptr d => uptoBulk d + 1
  | .slice elems spare => uptoBulkAll elems + uptoBulkAll spare + 1
  | .agg parts => uptoBulkAll parts + 1
  | .iface _ d => uptoBulk d + 1
  | .map entries => uptoBulkEntries entries + 1
  | .held _ => 1
def uptoBulkAll {H : Type} : List (DataW H) → Nat
  | [] => 0
  | d :: r => uptoBulk d + uptoBulkAll r
def uptoBulkEntries {H : Type} : List (Lit × DataW H) → Nat
  | [] => 0
  | x :: r => uptoBulkEntry x + uptoBulkEntries r
def uptoBulkEntry {H : Type} : Lit × DataW H → Nat
  | (.string bytes, d) => bytes.length + uptoBulk d + 1
  | (_, d) => uptoBulk d + 1
 end
def uptoSmall : (H : Type) → List (DataW H) → Bool := fun _ ds => decide (uptoBulkAll ds ≤ 1048576)
def OpenSpec.upto (s : _root_.Go.ChangeSpec) : _root_.Go.OpenSpec := { _root_.Go.OpenSpec.ofChange s with cond := some uptoSmall }

/-- 'bilgelaw08.SumParts', WHERE WHAT IT READS IS OF BULK AT MOST 1048576: true; the input reads as it did. -/
def sumPartsUptoRow : OpenClaim := { program := "ytmgippcbfeemnaa", sum := "fddb3a40ed7cf54ebe75df22cdd659ee69b436c0f52f507977bffb5d40c4274b", func := "bilge/bilgelaw08.SumParts", spec := "sumParts", apart := false, narrowed := true }
def SumPartsUptoSaid : Prop := sumPartsUptoRow.holds Try.pinned (OpenSpec.upto sumPartsSpec)

/-- 'bilgelaw08.SumTurned', WHERE WHAT IT READS IS OF BULK AT MOST 1048576: true; the input reads as it did. -/
def sumTurnedUptoRow : OpenClaim := { program := "ytmgippcbfeemnaa", sum := "fddb3a40ed7cf54ebe75df22cdd659ee69b436c0f52f507977bffb5d40c4274b", func := "bilge/bilgelaw08.SumTurned", spec := "sumTurned", apart := false, narrowed := true }
def SumTurnedUptoSaid : Prop := sumTurnedUptoRow.holds Try.pinned (OpenSpec.upto sumTurnedSpec)

/-- 'bilgelaw08.SumCuts', WHERE WHAT IT READS IS OF BULK AT MOST 1048576: true; the input reads as it did. -/
def sumCutsUptoRow : OpenClaim := { program := "ytmgippcbfeemnaa", sum := "fddb3a40ed7cf54ebe75df22cdd659ee69b436c0f52f507977bffb5d40c4274b", func := "bilge/bilgelaw08.SumCuts", spec := "sumCuts", apart := false, narrowed := true }
def SumCutsUptoSaid : Prop := sumCutsUptoRow.holds Try.pinned (OpenSpec.upto sumCutsSpec)

/-- 'bilgelaw08.SumKeeps', WHERE WHAT IT READS IS OF BULK AT MOST 1048576: true; the input reads as it did. -/
def sumKeepsUptoRow : OpenClaim := { program := "ytmgippcbfeemnaa", sum := "fddb3a40ed7cf54ebe75df22cdd659ee69b436c0f52f507977bffb5d40c4274b", func := "bilge/bilgelaw08.SumKeeps", spec := "sumKeeps", apart := false, narrowed := true }
def SumKeepsUptoSaid : Prop := sumKeepsUptoRow.holds Try.pinned (OpenSpec.upto sumKeepsSpec)

/-- 'bilgelaw08.SumLinear', WHERE WHAT IT READS IS OF BULK AT MOST 1048576: true; the input reads as it did. -/
def sumLinearUptoRow : OpenClaim := { program := "ytmgippcbfeemnaa", sum := "fddb3a40ed7cf54ebe75df22cdd659ee69b436c0f52f507977bffb5d40c4274b", func := "bilge/bilgelaw08.SumLinear", spec := "sumLinear", apart := false, narrowed := true }
def SumLinearUptoSaid : Prop := sumLinearUptoRow.holds Try.pinned (OpenSpec.upto sumLinearSpec)

/-- 'bilgelaw09.FramePuts', WHERE WHAT IT READS IS OF BULK AT MOST 1048576: true; the input reads as it did. -/
def framePutsUptoRow : OpenClaim := { program := "ytmgippcbfeemnaa", sum := "fddb3a40ed7cf54ebe75df22cdd659ee69b436c0f52f507977bffb5d40c4274b", func := "bilge/bilgelaw09.FramePuts", spec := "framePuts", unfollowed := true, recurses := true, apart := false, narrowed := true }
def FramePutsUptoSaid : Prop := framePutsUptoRow.holds Try.pinned (OpenSpec.upto framePutsSpec)

/-- 'bilgelaw09.FrameWhole', WHERE WHAT IT READS IS OF BULK AT MOST 1048576: true; the input reads as it did. -/
def frameWholeUptoRow : OpenClaim := { program := "ytmgippcbfeemnaa", sum := "fddb3a40ed7cf54ebe75df22cdd659ee69b436c0f52f507977bffb5d40c4274b", func := "bilge/bilgelaw09.FrameWhole", spec := "frameWhole", unfollowed := true, recurses := true, apart := false, narrowed := true }
def FrameWholeUptoSaid : Prop := frameWholeUptoRow.holds Try.pinned (OpenSpec.upto frameWholeSpec)

/-- 'bilgelaw09.FrameGets', WHERE WHAT IT READS IS OF BULK AT MOST 1048576: true; the input reads as it did. -/
def frameGetsUptoRow : OpenClaim := { program := "ytmgippcbfeemnaa", sum := "fddb3a40ed7cf54ebe75df22cdd659ee69b436c0f52f507977bffb5d40c4274b", func := "bilge/bilgelaw09.FrameGets", spec := "frameGets", unfollowed := true, recurses := true, apart := false, narrowed := true }
def FrameGetsUptoSaid : Prop := frameGetsUptoRow.holds Try.pinned (OpenSpec.upto frameGetsSpec)

/-- 'bilgelaw09.FrameKeeps', WHERE WHAT IT READS IS OF BULK AT MOST 1048576: true; the input reads as it did. -/
def frameKeepsUptoRow : OpenClaim := { program := "ytmgippcbfeemnaa", sum := "fddb3a40ed7cf54ebe75df22cdd659ee69b436c0f52f507977bffb5d40c4274b", func := "bilge/bilgelaw09.FrameKeeps", spec := "frameKeeps", unfollowed := true, recurses := true, apart := false, narrowed := true }
def FrameKeepsUptoSaid : Prop := frameKeepsUptoRow.holds Try.pinned (OpenSpec.upto frameKeepsSpec)

/-- 'bilgelaw09.FrameTwo', WHERE WHAT IT READS IS OF BULK AT MOST 1048576: true; the input reads as it did. -/
def frameTwoUptoRow : OpenClaim := { program := "ytmgippcbfeemnaa", sum := "fddb3a40ed7cf54ebe75df22cdd659ee69b436c0f52f507977bffb5d40c4274b", func := "bilge/bilgelaw09.FrameTwo", spec := "frameTwo", unfollowed := true, recurses := true, apart := false, narrowed := true }
def FrameTwoUptoSaid : Prop := frameTwoUptoRow.holds Try.pinned (OpenSpec.upto frameTwoSpec)

end Rows
end Go.Proofs.Ytmgippcbfeemnaa
