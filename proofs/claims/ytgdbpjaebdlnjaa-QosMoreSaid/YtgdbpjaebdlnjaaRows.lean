/-
  No cell of these rows narrows 'for every input' (looked for: loops, veiled, ifaces, maps, wideKeys, modest, calm, conditions, laid).
  DERIVED. THE GIVEN ROWS OF THIS SEAT. 10 by the template 'for every input the law returns true; each argument reads behind the call as it read before'; 0 by the template 'total and deterministic' (their statements: YtgdbpjaebdlnjaaTotals.lean).
  GIVEN WITH THE SEED: the statements are not yours to turn. If you find one false, say at which input.
  Laid BY PROGRAM, IN A SANDBOX (cutbox-rows.mjs): the forced cells as the released guide's own fill.sh prints them over the translation 0306baee3ca254a4… (all of the seat's roots in one cut). By AI agents, Wed Nov 11 2026. No macro, syntax, notation, axiom, sorry.
-/
import Derived.Test.YtgdbpjaebdlnjaaChecked
import GoSem.Claim
import GoSem.ClaimJoined
import GoSem.ClaimMapViews
import Derived.JoinedTies
import Derived.KernelRfl
namespace Go.Proofs.Ytgdbpjaebdlnjaa
/- THE CELL 'sum', in the pinned program and in every row, IS THE sha256 OF THE DUMP (.gsa) THAT YtgdbpjaebdlnjaaProg.lean LOADS. Nothing in Lean hashes anything: it is a label: what it is worth is what the hold of that sum in a sandbox is worth. -/
noncomputable def Try.pinned : Pinned := { name := "ytgdbpjaebdlnjaa", sum := "0306baee3ca254a4f35219b4db8a32185bc0f8f570497dc2a4d8a5212c95c9da", checked := Try.checked }
namespace Rows
def none {H : Type} : Left H := { results := [], args := [] }

/-- 'bilgelaw13.QosClasses': WHATEVER THE INPUT: true; the input reads as it did. -/
def qosClassesSpec : ChangeSpec := { name := "qosClasses", fn := fun _ => fun
  | [d1, d2] => { results := [.lit (.bool true)], args := [d1, d2] }
  | _ => none }
def qosClassesRow : OpenClaim := { program := "ytgdbpjaebdlnjaa", sum := "0306baee3ca254a4f35219b4db8a32185bc0f8f570497dc2a4d8a5212c95c9da", func := "bilge/bilgelaw13.QosClasses", spec := "qosClasses", apart := false }
def QosClassesSaid : Prop := qosClassesRow.holds Try.pinned (OpenSpec.ofChange qosClassesSpec)

/-- ITS FALSE NEIGHBOUR: 'it returns false'. Refute it at one input. -/
def qosClassesWrong : ChangeSpec := { name := "qosClasses", fn := fun _ => fun
  | [d1, d2] => { results := [.lit (.bool false)], args := [d1, d2] }
  | _ => none }
def QosClassesWrongFalsely : Prop := qosClassesRow.holds Try.pinned (OpenSpec.ofChange qosClassesWrong)

/-- 'bilgelaw13.QosParts': WHATEVER THE INPUT: true; the input reads as it did. -/
def qosPartsSpec : ChangeSpec := { name := "qosParts", fn := fun _ => fun
  | [d1, d2] => { results := [.lit (.bool true)], args := [d1, d2] }
  | _ => none }
def qosPartsRow : OpenClaim := { program := "ytgdbpjaebdlnjaa", sum := "0306baee3ca254a4f35219b4db8a32185bc0f8f570497dc2a4d8a5212c95c9da", func := "bilge/bilgelaw13.QosParts", spec := "qosParts", apart := false }
def QosPartsSaid : Prop := qosPartsRow.holds Try.pinned (OpenSpec.ofChange qosPartsSpec)

/-- ITS FALSE NEIGHBOUR: 'it returns false'. Refute it at one input. -/
def qosPartsWrong : ChangeSpec := { name := "qosParts", fn := fun _ => fun
  | [d1, d2] => { results := [.lit (.bool false)], args := [d1, d2] }
  | _ => none }
def QosPartsWrongFalsely : Prop := qosPartsRow.holds Try.pinned (OpenSpec.ofChange qosPartsWrong)

/-- 'bilgelaw13.QosMore': WHATEVER THE INPUT: true; the input reads as it did. -/
def qosMoreSpec : ChangeSpec := { name := "qosMore", fn := fun _ => fun
  | [d1, d2, d3] => { results := [.lit (.bool true)], args := [d1, d2, d3] }
  | _ => none }
def qosMoreRow : OpenClaim := { program := "ytgdbpjaebdlnjaa", sum := "0306baee3ca254a4f35219b4db8a32185bc0f8f570497dc2a4d8a5212c95c9da", func := "bilge/bilgelaw13.QosMore", spec := "qosMore", apart := false }
def QosMoreSaid : Prop := qosMoreRow.holds Try.pinned (OpenSpec.ofChange qosMoreSpec)

/-- ITS FALSE NEIGHBOUR: 'it returns false'. Refute it at one input. -/
def qosMoreWrong : ChangeSpec := { name := "qosMore", fn := fun _ => fun
  | [d1, d2, d3] => { results := [.lit (.bool false)], args := [d1, d2, d3] }
  | _ => none }
def QosMoreWrongFalsely : Prop := qosMoreRow.holds Try.pinned (OpenSpec.ofChange qosMoreWrong)

/-- 'bilgelaw13.QosCounts': WHATEVER THE INPUT: true; the input reads as it did. -/
def qosCountsSpec : ChangeSpec := { name := "qosCounts", fn := fun _ => fun
  | [d] => { results := [.lit (.bool true)], args := [d] }
  | _ => none }
def qosCountsRow : OpenClaim := { program := "ytgdbpjaebdlnjaa", sum := "0306baee3ca254a4f35219b4db8a32185bc0f8f570497dc2a4d8a5212c95c9da", func := "bilge/bilgelaw13.QosCounts", spec := "qosCounts", apart := false }
def QosCountsSaid : Prop := qosCountsRow.holds Try.pinned (OpenSpec.ofChange qosCountsSpec)

/-- ITS FALSE NEIGHBOUR: 'it returns false'. Refute it at one input. -/
def qosCountsWrong : ChangeSpec := { name := "qosCounts", fn := fun _ => fun
  | [d] => { results := [.lit (.bool false)], args := [d] }
  | _ => none }
def QosCountsWrongFalsely : Prop := qosCountsRow.holds Try.pinned (OpenSpec.ofChange qosCountsWrong)

/-- 'bilgelaw13.QosLimits': WHATEVER THE INPUT: true; the input reads as it did. -/
def qosLimitsSpec : ChangeSpec := { name := "qosLimits", fn := fun _ => fun
  | [d1, d2, d3, d4, d5] => { results := [.lit (.bool true)], args := [d1, d2, d3, d4, d5] }
  | _ => none }
def qosLimitsRow : OpenClaim := { program := "ytgdbpjaebdlnjaa", sum := "0306baee3ca254a4f35219b4db8a32185bc0f8f570497dc2a4d8a5212c95c9da", func := "bilge/bilgelaw13.QosLimits", spec := "qosLimits", apart := false }
def QosLimitsSaid : Prop := qosLimitsRow.holds Try.pinned (OpenSpec.ofChange qosLimitsSpec)

/-- ITS FALSE NEIGHBOUR: 'it returns false'. Refute it at one input. -/
def qosLimitsWrong : ChangeSpec := { name := "qosLimits", fn := fun _ => fun
  | [d1, d2, d3, d4, d5] => { results := [.lit (.bool false)], args := [d1, d2, d3, d4, d5] }
  | _ => none }
def QosLimitsWrongFalsely : Prop := qosLimitsRow.holds Try.pinned (OpenSpec.ofChange qosLimitsWrong)

/-- 'bilgelaw02.WideExact': WHATEVER THE INPUT: true; the input reads as it did. -/
def wideExactSpec : ChangeSpec := { name := "wideExact", fn := fun _ => fun
  | [d1, d2, d3, d4] => { results := [.lit (.bool true)], args := [d1, d2, d3, d4] }
  | _ => none }
def wideExactRow : OpenClaim := { program := "ytgdbpjaebdlnjaa", sum := "0306baee3ca254a4f35219b4db8a32185bc0f8f570497dc2a4d8a5212c95c9da", func := "bilge/bilgelaw02.WideExact", spec := "wideExact", named := ["math/bits.divideError", "math/bits.overflowError"], apart := false }
def WideExactSaid : Prop := wideExactRow.holds Try.pinned (OpenSpec.ofChange wideExactSpec)

/-- ITS FALSE NEIGHBOUR: 'it returns false'. Refute it at one input. -/
def wideExactWrong : ChangeSpec := { name := "wideExact", fn := fun _ => fun
  | [d1, d2, d3, d4] => { results := [.lit (.bool false)], args := [d1, d2, d3, d4] }
  | _ => none }
def WideExactWrongFalsely : Prop := wideExactRow.holds Try.pinned (OpenSpec.ofChange wideExactWrong)

/-- 'bilgelaw02.WideRules': WHATEVER THE INPUT: true; the input reads as it did. -/
def wideRulesSpec : ChangeSpec := { name := "wideRules", fn := fun _ => fun
  | [d1, d2, d3, d4, d5, d6, d7, d8] => { results := [.lit (.bool true)], args := [d1, d2, d3, d4, d5, d6, d7, d8] }
  | _ => none }
def wideRulesRow : OpenClaim := { program := "ytgdbpjaebdlnjaa", sum := "0306baee3ca254a4f35219b4db8a32185bc0f8f570497dc2a4d8a5212c95c9da", func := "bilge/bilgelaw02.WideRules", spec := "wideRules", named := ["math/bits.divideError", "math/bits.overflowError"], apart := false }
def WideRulesSaid : Prop := wideRulesRow.holds Try.pinned (OpenSpec.ofChange wideRulesSpec)

/-- ITS FALSE NEIGHBOUR: 'it returns false'. Refute it at one input. -/
def wideRulesWrong : ChangeSpec := { name := "wideRules", fn := fun _ => fun
  | [d1, d2, d3, d4, d5, d6, d7, d8] => { results := [.lit (.bool false)], args := [d1, d2, d3, d4, d5, d6, d7, d8] }
  | _ => none }
def WideRulesWrongFalsely : Prop := wideRulesRow.holds Try.pinned (OpenSpec.ofChange wideRulesWrong)

/-- 'bilgelaw02.WideRatios': WHATEVER THE INPUT: true; the input reads as it did. -/
def wideRatiosSpec : ChangeSpec := { name := "wideRatios", fn := fun _ => fun
  | [d1, d2, d3, d4, d5] => { results := [.lit (.bool true)], args := [d1, d2, d3, d4, d5] }
  | _ => none }
def wideRatiosRow : OpenClaim := { program := "ytgdbpjaebdlnjaa", sum := "0306baee3ca254a4f35219b4db8a32185bc0f8f570497dc2a4d8a5212c95c9da", func := "bilge/bilgelaw02.WideRatios", spec := "wideRatios", named := ["math/bits.divideError", "math/bits.overflowError"], apart := false }
def WideRatiosSaid : Prop := wideRatiosRow.holds Try.pinned (OpenSpec.ofChange wideRatiosSpec)

/-- ITS FALSE NEIGHBOUR: 'it returns false'. Refute it at one input. -/
def wideRatiosWrong : ChangeSpec := { name := "wideRatios", fn := fun _ => fun
  | [d1, d2, d3, d4, d5] => { results := [.lit (.bool false)], args := [d1, d2, d3, d4, d5] }
  | _ => none }
def WideRatiosWrongFalsely : Prop := wideRatiosRow.holds Try.pinned (OpenSpec.ofChange wideRatiosWrong)

/-- 'bilgelaw02.WideShares': WHATEVER THE INPUT: true; the input reads as it did. -/
def wideSharesSpec : ChangeSpec := { name := "wideShares", fn := fun _ => fun
  | [d1, d2, d3] => { results := [.lit (.bool true)], args := [d1, d2, d3] }
  | _ => none }
def wideSharesRow : OpenClaim := { program := "ytgdbpjaebdlnjaa", sum := "0306baee3ca254a4f35219b4db8a32185bc0f8f570497dc2a4d8a5212c95c9da", func := "bilge/bilgelaw02.WideShares", spec := "wideShares", named := ["math/bits.divideError", "math/bits.overflowError"], apart := false }
def WideSharesSaid : Prop := wideSharesRow.holds Try.pinned (OpenSpec.ofChange wideSharesSpec)

/-- ITS FALSE NEIGHBOUR: 'it returns false'. Refute it at one input. -/
def wideSharesWrong : ChangeSpec := { name := "wideShares", fn := fun _ => fun
  | [d1, d2, d3] => { results := [.lit (.bool false)], args := [d1, d2, d3] }
  | _ => none }
def WideSharesWrongFalsely : Prop := wideSharesRow.holds Try.pinned (OpenSpec.ofChange wideSharesWrong)

/-- 'bilgelaw02.WideSplits': WHATEVER THE INPUT: true; the input reads as it did. -/
def wideSplitsSpec : ChangeSpec := { name := "wideSplits", fn := fun _ => fun
  | [d1, d2, d3, d4] => { results := [.lit (.bool true)], args := [d1, d2, d3, d4] }
  | _ => none }
def wideSplitsRow : OpenClaim := { program := "ytgdbpjaebdlnjaa", sum := "0306baee3ca254a4f35219b4db8a32185bc0f8f570497dc2a4d8a5212c95c9da", func := "bilge/bilgelaw02.WideSplits", spec := "wideSplits", named := ["math/bits.divideError", "math/bits.overflowError"], apart := false }
def WideSplitsSaid : Prop := wideSplitsRow.holds Try.pinned (OpenSpec.ofChange wideSplitsSpec)

/-- ITS FALSE NEIGHBOUR: 'it returns false'. Refute it at one input. -/
def wideSplitsWrong : ChangeSpec := { name := "wideSplits", fn := fun _ => fun
  | [d1, d2, d3, d4] => { results := [.lit (.bool false)], args := [d1, d2, d3, d4] }
  | _ => none }
def WideSplitsWrongFalsely : Prop := wideSplitsRow.holds Try.pinned (OpenSpec.ofChange wideSplitsWrong)

/- THE SECOND FORM. 'bulk': how many values and letters a reading holds, each counted each time it is reached (what is shared counts as often as it is met; a slice's spare places count too). A statement '..UptoSaid' is the law's where the arguments, and the package variables that the reading takes, are together of bulk at most 1048576: NARROWER than '..Said'. Prove '..Said' where nothing that the law and all that it calls make is longer than what came in: it says more and counts as full. Else prove '..UptoSaid'. A law counts once. -/
mutual
def uptoBulk {H : Type} : DataW H → Nat
  | .lit (.string bytes) => bytes.length + 1
  | .lit _ => 1
  | .nil => 1
  | .ptr d => uptoBulk d + 1
  | .slice elems spare => uptoBulkAll elems + uptoBulkAll spare + 1
  | .agg parts => uptoBulkAll parts + 1
  | .iface _ d => uptoBulk d + 1
  | .map entries => uptoBulkEntries entries + 1
  | .held _ => 1
def uptoBulkAll {H : Type} : List (DataW H) → Nat
  | [] => 0
  | d :: r => uptoBulk d + uptoBulkAll r
def uptoBulkEntries {H : Type} : List (Lit × DataW H) → Nat
  | [] => 0
  | x :: r => uptoBulkEntry x + uptoBulkEntries r
def uptoBulkEntry {H : Type} : Lit × DataW H → Nat
  | (.string bytes, d) => bytes.length + uptoBulk d + 1
  | (_, d) => uptoBulk d + 1
 end
def uptoSmall : (H : Type) → List (DataW H) → Bool := fun _ ds => decide (uptoBulkAll ds ≤ 1048576)
def OpenSpec.upto (s : _root_.Go.ChangeSpec) : _root_.Go.OpenSpec := { _root_.Go.OpenSpec.ofChange s with cond := some uptoSmall }

/-- 'bilgelaw13.QosClasses', WHERE WHAT IT READS IS OF BULK AT MOST 1048576: true; the input reads as it did. -/
def qosClassesUptoRow : OpenClaim := { program := "ytgdbpjaebdlnjaa", sum := "0306baee3ca254a4f35219b4db8a32185bc0f8f570497dc2a4d8a5212c95c9da", func := "bilge/bilgelaw13.QosClasses", spec := "qosClasses", apart := false, narrowed := true }
def QosClassesUptoSaid : Prop := qosClassesUptoRow.holds Try.pinned (OpenSpec.upto qosClassesSpec)

/-- 'bilgelaw13.QosParts', WHERE WHAT IT READS IS OF BULK AT MOST 1048576: true; the input reads as it did. -/
def qosPartsUptoRow : OpenClaim := { program := "ytgdbpjaebdlnjaa", sum := "0306baee3ca254a4f35219b4db8a32185bc0f8f570497dc2a4d8a5212c95c9da", func := "bilge/bilgelaw13.QosParts", spec := "qosParts", apart := false, narrowed := true }
def QosPartsUptoSaid : Prop := qosPartsUptoRow.holds Try.pinned (OpenSpec.upto qosPartsSpec)

/-- 'bilgelaw13.QosMore', WHERE WHAT IT READS IS OF BULK AT MOST 1048576: true; the input reads as it did. -/
def qosMoreUptoRow : OpenClaim := { program := "ytgdbpjaebdlnjaa", sum := "0306baee3ca254a4f35219b4db8a32185bc0f8f570497dc2a4d8a5212c95c9da", func := "bilge/bilgelaw13.QosMore", spec := "qosMore", apart := false, narrowed := true }
def QosMoreUptoSaid : Prop := qosMoreUptoRow.holds Try.pinned (OpenSpec.upto qosMoreSpec)

/-- 'bilgelaw13.QosCounts', WHERE WHAT IT READS IS OF BULK AT MOST 1048576: true; the input reads as it did. -/
def qosCountsUptoRow : OpenClaim := { program := "ytgdbpjaebdlnjaa", sum := "0306baee3ca254a4f35219b4db8a32185bc0f8f570497dc2a4d8a5212c95c9da", func := "bilge/bilgelaw13.QosCounts", spec := "qosCounts", apart := false, narrowed := true }
def QosCountsUptoSaid : Prop := qosCountsUptoRow.holds Try.pinned (OpenSpec.upto qosCountsSpec)

/-- 'bilgelaw13.QosLimits', WHERE WHAT IT READS IS OF BULK AT MOST 1048576: true; the input reads as it did. -/
def qosLimitsUptoRow : OpenClaim := { program := "ytgdbpjaebdlnjaa", sum := "0306baee3ca254a4f35219b4db8a32185bc0f8f570497dc2a4d8a5212c95c9da", func := "bilge/bilgelaw13.QosLimits", spec := "qosLimits", apart := false, narrowed := true }
def QosLimitsUptoSaid : Prop := qosLimitsUptoRow.holds Try.pinned (OpenSpec.upto qosLimitsSpec)

/-- 'bilgelaw02.WideExact', WHERE WHAT IT READS IS OF BULK AT MOST 1048576: true; the input reads as it did. -/
def wideExactUptoRow : OpenClaim := { program := "ytgdbpjaebdlnjaa", sum := "0306baee3ca254a4f35219b4db8a32185bc0f8f570497dc2a4d8a5212c95c9da", func := "bilge/bilgelaw02.WideExact", spec := "wideExact", named := ["math/bits.divideError", "math/bits.overflowError"], apart := false, narrowed := true }
def WideExactUptoSaid : Prop := wideExactUptoRow.holds Try.pinned (OpenSpec.upto wideExactSpec)

/-- 'bilgelaw02.WideRules', WHERE WHAT IT READS IS OF BULK AT MOST 1048576: true; the input reads as it did. -/
def wideRulesUptoRow : OpenClaim := { program := "ytgdbpjaebdlnjaa", sum := "0306baee3ca254a4f35219b4db8a32185bc0f8f570497dc2a4d8a5212c95c9da", func := "bilge/bilgelaw02.WideRules", spec := "wideRules", named := ["math/bits.divideError", "math/bits.overflowError"], apart := false, narrowed := true }
def WideRulesUptoSaid : Prop := wideRulesUptoRow.holds Try.pinned (OpenSpec.upto wideRulesSpec)

/-- 'bilgelaw02.WideRatios', WHERE WHAT IT READS IS OF BULK AT MOST 1048576: true; the input reads as it did. -/
def wideRatiosUptoRow : OpenClaim := { program := "ytgdbpjaebdlnjaa", sum := "0306baee3ca254a4f35219b4db8a32185bc0f8f570497dc2a4d8a5212c95c9da", func := "bilge/bilgelaw02.WideRatios", spec := "wideRatios", named := ["math/bits.divideError", "math/bits.overflowError"], apart := false, narrowed := true }
def WideRatiosUptoSaid : Prop := wideRatiosUptoRow.holds Try.pinned (OpenSpec.upto wideRatiosSpec)

/-- 'bilgelaw02.WideShares', WHERE WHAT IT READS IS OF BULK AT MOST 1048576: true; the input reads as it did. -/
def wideSharesUptoRow : OpenClaim := { program := "ytgdbpjaebdlnjaa", sum := "0306baee3ca254a4f35219b4db8a32185bc0f8f570497dc2a4d8a5212c95c9da", func := "bilge/bilgelaw02.WideShares", spec := "wideShares", named := ["math/bits.divideError", "math/bits.overflowError"], apart := false, narrowed := true }
def WideSharesUptoSaid : Prop := wideSharesUptoRow.holds Try.pinned (OpenSpec.upto wideSharesSpec)

/-- 'bilgelaw02.WideSplits', WHERE WHAT IT READS IS OF BULK AT MOST 1048576: true; the input reads as it did. -/
def wideSplitsUptoRow : OpenClaim := { program := "ytgdbpjaebdlnjaa", sum := "0306baee3ca254a4f35219b4db8a32185bc0f8f570497dc2a4d8a5212c95c9da", func := "bilge/bilgelaw02.WideSplits", spec := "wideSplits", named := ["math/bits.divideError", "math/bits.overflowError"], apart := false, narrowed := true }
def WideSplitsUptoSaid : Prop := wideSplitsUptoRow.holds Try.pinned (OpenSpec.upto wideSplitsSpec)

end Rows
end Go.Proofs.Ytgdbpjaebdlnjaa
