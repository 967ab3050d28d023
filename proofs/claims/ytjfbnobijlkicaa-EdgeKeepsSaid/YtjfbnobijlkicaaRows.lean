/-
  No cell of these rows narrows 'for every input' (looked for: loops, veiled, ifaces, maps, wideKeys, modest, calm, conditions, laid).
  DERIVED. THE GIVEN ROWS OF THIS SEAT. 12 by the template 'for every input the law returns true; each argument reads behind the call as it read before'; 0 by the template 'total and deterministic' (their statements: YtjfbnobijlkicaaTotals.lean).
  GIVEN WITH THE SEED: the statements are not yours to turn. If you find one false, say at which input.
  Laid BY PROGRAM, IN A SANDBOX (cutbox-rows.mjs): the forced cells as the released guide's own fill.sh prints them over the translation 3134c3081a35d44f… (all of the seat's roots in one cut). By AI agents, Wed Nov 11 2026. No macro, syntax, notation, axiom, sorry.
-/
import Derived.Test.YtjfbnobijlkicaaChecked
import GoSem.Claim
import GoSem.ClaimJoined
import GoSem.ClaimMapViews
import Derived.JoinedTies
import Derived.KernelRfl
namespace Go.Proofs.Ytjfbnobijlkicaa
/- THE CELL 'sum', in the pinned program and in every row, IS THE sha256 OF THE DUMP (.gsa) THAT YtjfbnobijlkicaaProg.lean LOADS. Nothing in Lean hashes anything: it is a label: what it is worth is what the hold of that sum in a sandbox is worth. -/
noncomputable def Try.pinned : Pinned := { name := "ytjfbnobijlkicaa", sum := "3134c3081a35d44f1a56524967cd67c02817ad1e837a5829a8645a2e42a12651", checked := Try.checked }
namespace Rows
def none {H : Type} : Left H := { results := [], args := [] }

/-- 'bilgelaw03.EdgeReads': WHATEVER THE INPUT: true; the input reads as it did. -/
def edgeReadsSpec : ChangeSpec := { name := "edgeReads", fn := fun _ => fun
  | [d] => { results := [.lit (.bool true)], args := [d] }
  | _ => none }
def edgeReadsRow : OpenClaim := { program := "ytjfbnobijlkicaa", sum := "3134c3081a35d44f1a56524967cd67c02817ad1e837a5829a8645a2e42a12651", func := "bilge/bilgelaw03.EdgeReads", spec := "edgeReads", inPlace := ["math.Float64bits", "math.Float64frombits", "math.archFloor", "math.archTrunc"], unfollowed := true, recurses := true, apart := false }
def EdgeReadsSaid : Prop := edgeReadsRow.holds Try.pinned (OpenSpec.ofChange edgeReadsSpec)

/-- ITS FALSE NEIGHBOUR: 'it returns false'. Refute it at one input. -/
def edgeReadsWrong : ChangeSpec := { name := "edgeReads", fn := fun _ => fun
  | [d] => { results := [.lit (.bool false)], args := [d] }
  | _ => none }
def EdgeReadsWrongFalsely : Prop := edgeReadsRow.holds Try.pinned (OpenSpec.ofChange edgeReadsWrong)

/-- 'bilgelaw03.EdgeOrder': WHATEVER THE INPUT: true; the input reads as it did. -/
def edgeOrderSpec : ChangeSpec := { name := "edgeOrder", fn := fun _ => fun
  | [d1, d2, d3] => { results := [.lit (.bool true)], args := [d1, d2, d3] }
  | _ => none }
def edgeOrderRow : OpenClaim := { program := "ytjfbnobijlkicaa", sum := "3134c3081a35d44f1a56524967cd67c02817ad1e837a5829a8645a2e42a12651", func := "bilge/bilgelaw03.EdgeOrder", spec := "edgeOrder", inPlace := ["math.Float64bits", "math.Float64frombits", "math.archFloor", "math.archTrunc"], unfollowed := true, recurses := true, apart := false }
def EdgeOrderSaid : Prop := edgeOrderRow.holds Try.pinned (OpenSpec.ofChange edgeOrderSpec)

/-- ITS FALSE NEIGHBOUR: 'it returns false'. Refute it at one input. -/
def edgeOrderWrong : ChangeSpec := { name := "edgeOrder", fn := fun _ => fun
  | [d1, d2, d3] => { results := [.lit (.bool false)], args := [d1, d2, d3] }
  | _ => none }
def EdgeOrderWrongFalsely : Prop := edgeOrderRow.holds Try.pinned (OpenSpec.ofChange edgeOrderWrong)

/-- 'bilgelaw03.EdgeLists': WHATEVER THE INPUT: true; the input reads as it did. -/
def edgeListsSpec : ChangeSpec := { name := "edgeLists", fn := fun _ => fun
  | [d] => { results := [.lit (.bool true)], args := [d] }
  | _ => none }
def edgeListsRow : OpenClaim := { program := "ytjfbnobijlkicaa", sum := "3134c3081a35d44f1a56524967cd67c02817ad1e837a5829a8645a2e42a12651", func := "bilge/bilgelaw03.EdgeLists", spec := "edgeLists", inPlace := ["math.Float64bits", "math.Float64frombits", "math.archFloor", "math.archTrunc"], unfollowed := true, recurses := true, apart := false }
def EdgeListsSaid : Prop := edgeListsRow.holds Try.pinned (OpenSpec.ofChange edgeListsSpec)

/-- ITS FALSE NEIGHBOUR: 'it returns false'. Refute it at one input. -/
def edgeListsWrong : ChangeSpec := { name := "edgeLists", fn := fun _ => fun
  | [d] => { results := [.lit (.bool false)], args := [d] }
  | _ => none }
def EdgeListsWrongFalsely : Prop := edgeListsRow.holds Try.pinned (OpenSpec.ofChange edgeListsWrong)

/-- 'bilgelaw03.EdgeWhole': WHATEVER THE INPUT: true; the input reads as it did. -/
def edgeWholeSpec : ChangeSpec := { name := "edgeWhole", fn := fun _ => fun
  | [d1, d2] => { results := [.lit (.bool true)], args := [d1, d2] }
  | _ => none }
def edgeWholeRow : OpenClaim := { program := "ytjfbnobijlkicaa", sum := "3134c3081a35d44f1a56524967cd67c02817ad1e837a5829a8645a2e42a12651", func := "bilge/bilgelaw03.EdgeWhole", spec := "edgeWhole", inPlace := ["math.Float64bits", "math.Float64frombits", "math.archFloor", "math.archTrunc"], unfollowed := true, recurses := true, apart := false }
def EdgeWholeSaid : Prop := edgeWholeRow.holds Try.pinned (OpenSpec.ofChange edgeWholeSpec)

/-- ITS FALSE NEIGHBOUR: 'it returns false'. Refute it at one input. -/
def edgeWholeWrong : ChangeSpec := { name := "edgeWhole", fn := fun _ => fun
  | [d1, d2] => { results := [.lit (.bool false)], args := [d1, d2] }
  | _ => none }
def EdgeWholeWrongFalsely : Prop := edgeWholeRow.holds Try.pinned (OpenSpec.ofChange edgeWholeWrong)

/-- 'bilgelaw03.EdgeKeeps': WHATEVER THE INPUT: true; the input reads as it did. -/
def edgeKeepsSpec : ChangeSpec := { name := "edgeKeeps", fn := fun _ => fun
  | [d] => { results := [.lit (.bool true)], args := [d] }
  | _ => none }
def edgeKeepsRow : OpenClaim := { program := "ytjfbnobijlkicaa", sum := "3134c3081a35d44f1a56524967cd67c02817ad1e837a5829a8645a2e42a12651", func := "bilge/bilgelaw03.EdgeKeeps", spec := "edgeKeeps", inPlace := ["math.Float64bits", "math.Float64frombits", "math.archFloor", "math.archTrunc"], unfollowed := true, recurses := true, apart := false }
def EdgeKeepsSaid : Prop := edgeKeepsRow.holds Try.pinned (OpenSpec.ofChange edgeKeepsSpec)

/-- ITS FALSE NEIGHBOUR: 'it returns false'. Refute it at one input. -/
def edgeKeepsWrong : ChangeSpec := { name := "edgeKeeps", fn := fun _ => fun
  | [d] => { results := [.lit (.bool false)], args := [d] }
  | _ => none }
def EdgeKeepsWrongFalsely : Prop := edgeKeepsRow.holds Try.pinned (OpenSpec.ofChange edgeKeepsWrong)

/-- 'bilgelaw03.EdgeSigns': WHATEVER THE INPUT: true; the input reads as it did. -/
def edgeSignsSpec : ChangeSpec := { name := "edgeSigns", fn := fun _ => fun
  | [d1, d2] => { results := [.lit (.bool true)], args := [d1, d2] }
  | _ => none }
def edgeSignsRow : OpenClaim := { program := "ytjfbnobijlkicaa", sum := "3134c3081a35d44f1a56524967cd67c02817ad1e837a5829a8645a2e42a12651", func := "bilge/bilgelaw03.EdgeSigns", spec := "edgeSigns", inPlace := ["math.Float64bits", "math.Float64frombits", "math.archFloor", "math.archTrunc"], unfollowed := true, recurses := true, apart := false }
def EdgeSignsSaid : Prop := edgeSignsRow.holds Try.pinned (OpenSpec.ofChange edgeSignsSpec)

/-- ITS FALSE NEIGHBOUR: 'it returns false'. Refute it at one input. -/
def edgeSignsWrong : ChangeSpec := { name := "edgeSigns", fn := fun _ => fun
  | [d1, d2] => { results := [.lit (.bool false)], args := [d1, d2] }
  | _ => none }
def EdgeSignsWrongFalsely : Prop := edgeSignsRow.holds Try.pinned (OpenSpec.ofChange edgeSignsWrong)

/-- 'bilgelaw18.GraceSteps': WHATEVER THE INPUT: true; the input reads as it did. -/
def graceStepsSpec : ChangeSpec := { name := "graceSteps", fn := fun _ => fun
  | [d1, d2, d3, d4] => { results := [.lit (.bool true)], args := [d1, d2, d3, d4] }
  | _ => none }
def graceStepsRow : OpenClaim := { program := "ytjfbnobijlkicaa", sum := "3134c3081a35d44f1a56524967cd67c02817ad1e837a5829a8645a2e42a12651", func := "bilge/bilgelaw18.GraceSteps", spec := "graceSteps", named := ["math/bits.divideError", "math/bits.overflowError"], apart := false }
def GraceStepsSaid : Prop := graceStepsRow.holds Try.pinned (OpenSpec.ofChange graceStepsSpec)

/-- ITS FALSE NEIGHBOUR: 'it returns false'. Refute it at one input. -/
def graceStepsWrong : ChangeSpec := { name := "graceSteps", fn := fun _ => fun
  | [d1, d2, d3, d4] => { results := [.lit (.bool false)], args := [d1, d2, d3, d4] }
  | _ => none }
def GraceStepsWrongFalsely : Prop := graceStepsRow.holds Try.pinned (OpenSpec.ofChange graceStepsWrong)

/-- 'bilgelaw18.GraceSignals': WHATEVER THE INPUT: true; the input reads as it did. -/
def graceSignalsSpec : ChangeSpec := { name := "graceSignals", fn := fun _ => fun
  | [d1, d2] => { results := [.lit (.bool true)], args := [d1, d2] }
  | _ => none }
def graceSignalsRow : OpenClaim := { program := "ytjfbnobijlkicaa", sum := "3134c3081a35d44f1a56524967cd67c02817ad1e837a5829a8645a2e42a12651", func := "bilge/bilgelaw18.GraceSignals", spec := "graceSignals", named := ["math/bits.divideError", "math/bits.overflowError"], apart := false }
def GraceSignalsSaid : Prop := graceSignalsRow.holds Try.pinned (OpenSpec.ofChange graceSignalsSpec)

/-- ITS FALSE NEIGHBOUR: 'it returns false'. Refute it at one input. -/
def graceSignalsWrong : ChangeSpec := { name := "graceSignals", fn := fun _ => fun
  | [d1, d2] => { results := [.lit (.bool false)], args := [d1, d2] }
  | _ => none }
def GraceSignalsWrongFalsely : Prop := graceSignalsRow.holds Try.pinned (OpenSpec.ofChange graceSignalsWrong)

/-- 'bilgelaw18.GraceRuns': WHATEVER THE INPUT: true; the input reads as it did. -/
def graceRunsSpec : ChangeSpec := { name := "graceRuns", fn := fun _ => fun
  | [d1, d2] => { results := [.lit (.bool true)], args := [d1, d2] }
  | _ => none }
def graceRunsRow : OpenClaim := { program := "ytjfbnobijlkicaa", sum := "3134c3081a35d44f1a56524967cd67c02817ad1e837a5829a8645a2e42a12651", func := "bilge/bilgelaw18.GraceRuns", spec := "graceRuns", named := ["math/bits.divideError", "math/bits.overflowError"], apart := false }
def GraceRunsSaid : Prop := graceRunsRow.holds Try.pinned (OpenSpec.ofChange graceRunsSpec)

/-- ITS FALSE NEIGHBOUR: 'it returns false'. Refute it at one input. -/
def graceRunsWrong : ChangeSpec := { name := "graceRuns", fn := fun _ => fun
  | [d1, d2] => { results := [.lit (.bool false)], args := [d1, d2] }
  | _ => none }
def GraceRunsWrongFalsely : Prop := graceRunsRow.holds Try.pinned (OpenSpec.ofChange graceRunsWrong)

/-- 'bilgelaw18.GraceAnew': WHATEVER THE INPUT: true; the input reads as it did. -/
def graceAnewSpec : ChangeSpec := { name := "graceAnew", fn := fun _ => fun
  | [d1, d2, d3, d4] => { results := [.lit (.bool true)], args := [d1, d2, d3, d4] }
  | _ => none }
def graceAnewRow : OpenClaim := { program := "ytjfbnobijlkicaa", sum := "3134c3081a35d44f1a56524967cd67c02817ad1e837a5829a8645a2e42a12651", func := "bilge/bilgelaw18.GraceAnew", spec := "graceAnew", named := ["math/bits.divideError", "math/bits.overflowError"], apart := false }
def GraceAnewSaid : Prop := graceAnewRow.holds Try.pinned (OpenSpec.ofChange graceAnewSpec)

/-- ITS FALSE NEIGHBOUR: 'it returns false'. Refute it at one input. -/
def graceAnewWrong : ChangeSpec := { name := "graceAnew", fn := fun _ => fun
  | [d1, d2, d3, d4] => { results := [.lit (.bool false)], args := [d1, d2, d3, d4] }
  | _ => none }
def GraceAnewWrongFalsely : Prop := graceAnewRow.holds Try.pinned (OpenSpec.ofChange graceAnewWrong)

/-- 'bilgelaw18.GraceLess': WHATEVER THE INPUT: true; the input reads as it did. -/
def graceLessSpec : ChangeSpec := { name := "graceLess", fn := fun _ => fun
  | [d1, d2, d3, d4, d5] => { results := [.lit (.bool true)], args := [d1, d2, d3, d4, d5] }
  | _ => none }
def graceLessRow : OpenClaim := { program := "ytjfbnobijlkicaa", sum := "3134c3081a35d44f1a56524967cd67c02817ad1e837a5829a8645a2e42a12651", func := "bilge/bilgelaw18.GraceLess", spec := "graceLess", named := ["math/bits.divideError", "math/bits.overflowError"], apart := false }
def GraceLessSaid : Prop := graceLessRow.holds Try.pinned (OpenSpec.ofChange graceLessSpec)

/-- ITS FALSE NEIGHBOUR: 'it returns false'. Refute it at one input. -/
def graceLessWrong : ChangeSpec := { name := "graceLess", fn := fun _ => fun
  | [d1, d2, d3, d4, d5] => { results := [.lit (.bool false)], args := [d1, d2, d3, d4, d5] }
  | _ => none }
def GraceLessWrongFalsely : Prop := graceLessRow.holds Try.pinned (OpenSpec.ofChange graceLessWrong)

/-- 'bilgelaw18.GraceKeeps': WHATEVER THE INPUT: true; the input reads as it did. -/
def graceKeepsSpec : ChangeSpec := { name := "graceKeeps", fn := fun _ => fun
  | [d1, d2, d3, d4] => { results := [.lit (.bool true)], args := [d1, d2, d3, d4] }
  | _ => none }
def graceKeepsRow : OpenClaim := { program := "ytjfbnobijlkicaa", sum := "3134c3081a35d44f1a56524967cd67c02817ad1e837a5829a8645a2e42a12651", func := "bilge/bilgelaw18.GraceKeeps", spec := "graceKeeps", named := ["math/bits.divideError", "math/bits.overflowError"], apart := false }
def GraceKeepsSaid : Prop := graceKeepsRow.holds Try.pinned (OpenSpec.ofChange graceKeepsSpec)

/-- ITS FALSE NEIGHBOUR: 'it returns false'. Refute it at one input. -/
def graceKeepsWrong : ChangeSpec := { name := "graceKeeps", fn := fun _ => fun
  | [d1, d2, d3, d4] => { results := [.lit (.bool false)], args := [d1, d2, d3, d4] }
  | _ => none }
def GraceKeepsWrongFalsely : Prop := graceKeepsRow.holds Try.pinned (OpenSpec.ofChange graceKeepsWrong)

/- THE SECOND FORM. 'bulk': how many values and letters a reading holds, each counted each time it is reached (what is shared counts as often as it is met; a slice's spare places count too). A statement '..UptoSaid' is the law's where the arguments, and the package variables that the reading takes, are together of bulk at most 1048576: NARROWER than '..Said'. Prove '..Said' where nothing that the law and all that it calls make is longer than what came in: it says more and counts as full. Else prove '..UptoSaid'. A law counts once. -/
mutual
def uptoBulk {H : Type} : DataW H → Nat
  | .lit (.string bytes) => bytes.length + 1
  | .lit _ => 1
  | .nil => 1
  | .ptr d => uptoBulk d + 1
  | .slice elems spare => uptoBulkAll elems + uptoBulkAll spare + 1
  | .agg parts => uptoBulkAll parts + 1
  | .iface _ d => uptoBulk d + 1
  | .map entries => uptoBulkEntries entries + 1
  | .held _ => 1
def uptoBulkAll {H : Type} : List (DataW H) → Nat
  | [] => 0
  | d :: r => uptoBulk d + uptoBulkAll r
def uptoBulkEntries {H : Type} : List (Lit × DataW H) → Nat
  | [] => 0
  | x :: r => uptoBulkEntry x + uptoBulkEntries r
def uptoBulkEntry {H : Type} : Lit × DataW H → Nat
  | (.string bytes, d) => bytes.length + uptoBulk d + 1
  | (_, d) => uptoBulk d + 1
 end
def uptoSmall : (H : Type) → List (DataW H) → Bool := fun _ ds => decide (uptoBulkAll ds ≤ 1048576)
def OpenSpec.upto (s : _root_.Go.ChangeSpec) : _root_.Go.OpenSpec := { _root_.Go.OpenSpec.ofChange s with cond := some uptoSmall }

/-- 'bilgelaw03.EdgeReads', WHERE WHAT IT READS IS OF BULK AT MOST 1048576: true; the input reads as it did. -/
def edgeReadsUptoRow : OpenClaim := { program := "ytjfbnobijlkicaa", sum := "3134c3081a35d44f1a56524967cd67c02817ad1e837a5829a8645a2e42a12651", func := "bilge/bilgelaw03.EdgeReads", spec := "edgeReads", inPlace := ["math.Float64bits", "math.Float64frombits", "math.archFloor", "math.archTrunc"], unfollowed := true, recurses := true, apart := false, narrowed := true }
def EdgeReadsUptoSaid : Prop := edgeReadsUptoRow.holds Try.pinned (OpenSpec.upto edgeReadsSpec)

/-- 'bilgelaw03.EdgeOrder', WHERE WHAT IT READS IS OF BULK AT MOST 1048576: true; the input reads as it did. -/
def edgeOrderUptoRow : OpenClaim := { program := "ytjfbnobijlkicaa", sum := "3134c3081a35d44f1a56524967cd67c02817ad1e837a5829a8645a2e42a12651", func := "bilge/bilgelaw03.EdgeOrder", spec := "edgeOrder", inPlace := ["math.Float64bits", "math.Float64frombits", "math.archFloor", "math.archTrunc"], unfollowed := true, recurses := true, apart := false, narrowed := true }
def EdgeOrderUptoSaid : Prop := edgeOrderUptoRow.holds Try.pinned (OpenSpec.upto edgeOrderSpec)

/-- 'bilgelaw03.EdgeLists', WHERE WHAT IT READS IS OF BULK AT MOST 1048576: true; the input reads as it did. -/
def edgeListsUptoRow : OpenClaim := { program := "ytjfbnobijlkicaa", sum := "3134c3081a35d44f1a56524967cd67c02817ad1e837a5829a8645a2e42a12651", func := "bilge/bilgelaw03.EdgeLists", spec := "edgeLists", inPlace := ["math.Float64bits", "math.Float64frombits", "math.archFloor", "math.archTrunc"], unfollowed := true, recurses := true, apart := false, narrowed := true }
def EdgeListsUptoSaid : Prop := edgeListsUptoRow.holds Try.pinned (OpenSpec.upto edgeListsSpec)

/-- 'bilgelaw03.EdgeWhole', WHERE WHAT IT READS IS OF BULK AT MOST 1048576: true; the input reads as it did. -/
def edgeWholeUptoRow : OpenClaim := { program := "ytjfbnobijlkicaa", sum := "3134c3081a35d44f1a56524967cd67c02817ad1e837a5829a8645a2e42a12651", func := "bilge/bilgelaw03.EdgeWhole", spec := "edgeWhole", inPlace := ["math.Float64bits", "math.Float64frombits", "math.archFloor", "math.archTrunc"], unfollowed := true, recurses := true, apart := false, narrowed := true }
def EdgeWholeUptoSaid : Prop := edgeWholeUptoRow.holds Try.pinned (OpenSpec.upto edgeWholeSpec)

/-- 'bilgelaw03.EdgeKeeps', WHERE WHAT IT READS IS OF BULK AT MOST 1048576: true; the input reads as it did. -/
def edgeKeepsUptoRow : OpenClaim := { program := "ytjfbnobijlkicaa", sum := "3134c3081a35d44f1a56524967cd67c02817ad1e837a5829a8645a2e42a12651", func := "bilge/bilgelaw03.EdgeKeeps", spec := "edgeKeeps", inPlace := ["math.Float64bits", "math.Float64frombits", "math.archFloor", "math.archTrunc"], unfollowed := true, recurses := true, apart := false, narrowed := true }
def EdgeKeepsUptoSaid : Prop := edgeKeepsUptoRow.holds Try.pinned (OpenSpec.upto edgeKeepsSpec)

/-- 'bilgelaw03.EdgeSigns', WHERE WHAT IT READS IS OF BULK AT MOST 1048576: true; the input reads as it did. -/
def edgeSignsUptoRow : OpenClaim := { program := "ytjfbnobijlkicaa", sum := "3134c3081a35d44f1a56524967cd67c02817ad1e837a5829a8645a2e42a12651", func := "bilge/bilgelaw03.EdgeSigns", spec := "edgeSigns", inPlace := ["math.Float64bits", "math.Float64frombits", "math.archFloor", "math.archTrunc"], unfollowed := true, recurses := true, apart := false, narrowed := true }
def EdgeSignsUptoSaid : Prop := edgeSignsUptoRow.holds Try.pinned (OpenSpec.upto edgeSignsSpec)

/-- 'bilgelaw18.GraceSteps', WHERE WHAT IT READS IS OF BULK AT MOST 1048576: true; the input reads as it did. -/
def graceStepsUptoRow : OpenClaim := { program := "ytjfbnobijlkicaa", sum := "3134c3081a35d44f1a56524967cd67c02817ad1e837a5829a8645a2e42a12651", func := "bilge/bilgelaw18.GraceSteps", spec := "graceSteps", named := ["math/bits.divideError", "math/bits.overflowError"], apart := false, narrowed := true }
def GraceStepsUptoSaid : Prop := graceStepsUptoRow.holds Try.pinned (OpenSpec.upto graceStepsSpec)

/-- 'bilgelaw18.GraceSignals', WHERE WHAT IT READS IS OF BULK AT MOST 1048576: true; the input reads as it did. -/
def graceSignalsUptoRow : OpenClaim := { program := "ytjfbnobijlkicaa", sum := "3134c3081a35d44f1a56524967cd67c02817ad1e837a5829a8645a2e42a12651", func := "bilge/bilgelaw18.GraceSignals", spec := "graceSignals", named := ["math/bits.divideError", "math/bits.overflowError"], apart := false, narrowed := true }
def GraceSignalsUptoSaid : Prop := graceSignalsUptoRow.holds Try.pinned (OpenSpec.upto graceSignalsSpec)

/-- 'bilgelaw18.GraceRuns', WHERE WHAT IT READS IS OF BULK AT MOST 1048576: true; the input reads as it did. -/
def graceRunsUptoRow : OpenClaim := { program := "ytjfbnobijlkicaa", sum := "3134c3081a35d44f1a56524967cd67c02817ad1e837a5829a8645a2e42a12651", func := "bilge/bilgelaw18.GraceRuns", spec := "graceRuns", named := ["math/bits.divideError", "math/bits.overflowError"], apart := false, narrowed := true }
def GraceRunsUptoSaid : Prop := graceRunsUptoRow.holds Try.pinned (OpenSpec.upto graceRunsSpec)

/-- 'bilgelaw18.GraceAnew', WHERE WHAT IT READS IS OF BULK AT MOST 1048576: true; the input reads as it did. -/
def graceAnewUptoRow : OpenClaim := { program := "ytjfbnobijlkicaa", sum := "3134c3081a35d44f1a56524967cd67c02817ad1e837a5829a8645a2e42a12651", func := "bilge/bilgelaw18.GraceAnew", spec := "graceAnew", named := ["math/bits.divideError", "math/bits.overflowError"], apart := false, narrowed := true }
def GraceAnewUptoSaid : Prop := graceAnewUptoRow.holds Try.pinned (OpenSpec.upto graceAnewSpec)

/-- 'bilgelaw18.GraceLess', WHERE WHAT IT READS IS OF BULK AT MOST 1048576: true; the input reads as it did. -/
def graceLessUptoRow : OpenClaim := { program := "ytjfbnobijlkicaa", sum := "3134c3081a35d44f1a56524967cd67c02817ad1e837a5829a8645a2e42a12651", func := "bilge/bilgelaw18.GraceLess", spec := "graceLess", named := ["math/bits.divideError", "math/bits.overflowError"], apart := false, narrowed := true }
def GraceLessUptoSaid : Prop := graceLessUptoRow.holds Try.pinned (OpenSpec.upto graceLessSpec)

/-- 'bilgelaw18.GraceKeeps', WHERE WHAT IT READS IS OF BULK AT MOST 1048576: true; the input reads as it did. -/
def graceKeepsUptoRow : OpenClaim := { program := "ytjfbnobijlkicaa", sum := "3134c3081a35d44f1a56524967cd67c02817ad1e837a5829a8645a2e42a12651", func := "bilge/bilgelaw18.GraceKeeps", spec := "graceKeeps", named := ["math/bits.divideError", "math/bits.overflowError"], apart := false, narrowed := true }
def GraceKeepsUptoSaid : Prop := graceKeepsUptoRow.holds Try.pinned (OpenSpec.upto graceKeepsSpec)

end Rows
end Go.Proofs.Ytjfbnobijlkicaa
