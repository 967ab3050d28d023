/-
  No cell of these rows narrows 'for every input' (looked for: loops, veiled, ifaces, maps, wideKeys, modest, calm, conditions, laid).
  DERIVED. THE GIVEN ROWS OF THIS SEAT. 11 by the template 'for every input the law returns true; each argument reads behind the call as it read before'; 0 by the template 'total and deterministic' (their statements: YtfcdmfiblmnbkaaTotals.lean).
  GIVEN WITH THE SEED: the statements are not yours to turn. If you find one false, say at which input.
  Laid BY PROGRAM, IN A SANDBOX (cutbox-rows.mjs): the forced cells as the released guide's own fill.sh prints them over the translation 9db5e9966f943f1d… (all of the seat's roots in one cut). By AI agents, Wed Nov 11 2026. No macro, syntax, notation, axiom, sorry.
-/
import Derived.Test.YtfcdmfiblmnbkaaChecked
import GoSem.Claim
import GoSem.ClaimJoined
import GoSem.ClaimMapViews
import Derived.JoinedTies
import Derived.KernelRfl
namespace Go.Proofs.Ytfcdmfiblmnbkaa
/- THE CELL 'sum', in the pinned program and in every row, IS THE sha256 OF THE DUMP (.gsa) THAT YtfcdmfiblmnbkaaProg.lean LOADS. Nothing in Lean hashes anything: it is a label: what it is worth is what the hold of that sum in a sandbox is worth. -/
noncomputable def Try.pinned : Pinned := { name := "ytfcdmfiblmnbkaa", sum := "9db5e9966f943f1de831d1820369ad309ba3ec77b072ab7e41a590231dc139cd", checked := Try.checked }
namespace Rows
def none {H : Type} : Left H := { results := [], args := [] }

/-- 'bilgelaw01.SatSums': WHATEVER THE INPUT: true; the input reads as it did. -/
def satSumsSpec : ChangeSpec := { name := "satSums", fn := fun _ => fun
  | [d1, d2] => { results := [.lit (.bool true)], args := [d1, d2] }
  | _ => none }
def satSumsRow : OpenClaim := { program := "ytfcdmfiblmnbkaa", sum := "9db5e9966f943f1de831d1820369ad309ba3ec77b072ab7e41a590231dc139cd", func := "bilge/bilgelaw01.SatSums", spec := "satSums", plainKeys := false, apart := false }
def SatSumsSaid : Prop := satSumsRow.holds Try.pinned (OpenSpec.ofChange satSumsSpec)

/-- ITS FALSE NEIGHBOUR: 'it returns false'. Refute it at one input. -/
def satSumsWrong : ChangeSpec := { name := "satSums", fn := fun _ => fun
  | [d1, d2] => { results := [.lit (.bool false)], args := [d1, d2] }
  | _ => none }
def SatSumsWrongFalsely : Prop := satSumsRow.holds Try.pinned (OpenSpec.ofChange satSumsWrong)

/-- 'bilgelaw01.SatAll': WHATEVER THE INPUT: true; the input reads as it did. -/
def satAllSpec : ChangeSpec := { name := "satAll", fn := fun _ => fun
  | [d] => { results := [.lit (.bool true)], args := [d] }
  | _ => none }
def satAllRow : OpenClaim := { program := "ytfcdmfiblmnbkaa", sum := "9db5e9966f943f1de831d1820369ad309ba3ec77b072ab7e41a590231dc139cd", func := "bilge/bilgelaw01.SatAll", spec := "satAll", plainKeys := false, apart := false }
def SatAllSaid : Prop := satAllRow.holds Try.pinned (OpenSpec.ofChange satAllSpec)

/-- ITS FALSE NEIGHBOUR: 'it returns false'. Refute it at one input. -/
def satAllWrong : ChangeSpec := { name := "satAll", fn := fun _ => fun
  | [d] => { results := [.lit (.bool false)], args := [d] }
  | _ => none }
def SatAllWrongFalsely : Prop := satAllRow.holds Try.pinned (OpenSpec.ofChange satAllWrong)

/-- 'bilgelaw01.SatRules': WHATEVER THE INPUT: true; the input reads as it did. -/
def satRulesSpec : ChangeSpec := { name := "satRules", fn := fun _ => fun
  | [d1, d2, d3] => { results := [.lit (.bool true)], args := [d1, d2, d3] }
  | _ => none }
def satRulesRow : OpenClaim := { program := "ytfcdmfiblmnbkaa", sum := "9db5e9966f943f1de831d1820369ad309ba3ec77b072ab7e41a590231dc139cd", func := "bilge/bilgelaw01.SatRules", spec := "satRules", plainKeys := false, apart := false }
def SatRulesSaid : Prop := satRulesRow.holds Try.pinned (OpenSpec.ofChange satRulesSpec)

/-- ITS FALSE NEIGHBOUR: 'it returns false'. Refute it at one input. -/
def satRulesWrong : ChangeSpec := { name := "satRules", fn := fun _ => fun
  | [d1, d2, d3] => { results := [.lit (.bool false)], args := [d1, d2, d3] }
  | _ => none }
def SatRulesWrongFalsely : Prop := satRulesRow.holds Try.pinned (OpenSpec.ofChange satRulesWrong)

/-- 'bilgelaw01.SatLists': WHATEVER THE INPUT: true; the input reads as it did. -/
def satListsSpec : ChangeSpec := { name := "satLists", fn := fun _ => fun
  | [d1, d2] => { results := [.lit (.bool true)], args := [d1, d2] }
  | _ => none }
def satListsRow : OpenClaim := { program := "ytfcdmfiblmnbkaa", sum := "9db5e9966f943f1de831d1820369ad309ba3ec77b072ab7e41a590231dc139cd", func := "bilge/bilgelaw01.SatLists", spec := "satLists", plainKeys := false, apart := false }
def SatListsSaid : Prop := satListsRow.holds Try.pinned (OpenSpec.ofChange satListsSpec)

/-- ITS FALSE NEIGHBOUR: 'it returns false'. Refute it at one input. -/
def satListsWrong : ChangeSpec := { name := "satLists", fn := fun _ => fun
  | [d1, d2] => { results := [.lit (.bool false)], args := [d1, d2] }
  | _ => none }
def SatListsWrongFalsely : Prop := satListsRow.holds Try.pinned (OpenSpec.ofChange satListsWrong)

/-- 'bilgelaw01.SatTimes': WHATEVER THE INPUT: true; the input reads as it did. -/
def satTimesSpec : ChangeSpec := { name := "satTimes", fn := fun _ => fun
  | [d1, d2, d3] => { results := [.lit (.bool true)], args := [d1, d2, d3] }
  | _ => none }
def satTimesRow : OpenClaim := { program := "ytfcdmfiblmnbkaa", sum := "9db5e9966f943f1de831d1820369ad309ba3ec77b072ab7e41a590231dc139cd", func := "bilge/bilgelaw01.SatTimes", spec := "satTimes", plainKeys := false, apart := false }
def SatTimesSaid : Prop := satTimesRow.holds Try.pinned (OpenSpec.ofChange satTimesSpec)

/-- ITS FALSE NEIGHBOUR: 'it returns false'. Refute it at one input. -/
def satTimesWrong : ChangeSpec := { name := "satTimes", fn := fun _ => fun
  | [d1, d2, d3] => { results := [.lit (.bool false)], args := [d1, d2, d3] }
  | _ => none }
def SatTimesWrongFalsely : Prop := satTimesRow.holds Try.pinned (OpenSpec.ofChange satTimesWrong)

/-- 'bilgelaw14.BoxDoes': WHATEVER THE INPUT: true; the input reads as it did. -/
def boxDoesSpec : ChangeSpec := { name := "boxDoes", fn := fun _ => fun
  | [d1, d2, d3, d4] => { results := [.lit (.bool true)], args := [d1, d2, d3, d4] }
  | _ => none }
def boxDoesRow : OpenClaim := { program := "ytfcdmfiblmnbkaa", sum := "9db5e9966f943f1de831d1820369ad309ba3ec77b072ab7e41a590231dc139cd", func := "bilge/bilgelaw14.BoxDoes", spec := "boxDoes", plainKeys := false, apart := false }
def BoxDoesSaid : Prop := boxDoesRow.holds Try.pinned (OpenSpec.ofChange boxDoesSpec)

/-- ITS FALSE NEIGHBOUR: 'it returns false'. Refute it at one input. -/
def boxDoesWrong : ChangeSpec := { name := "boxDoes", fn := fun _ => fun
  | [d1, d2, d3, d4] => { results := [.lit (.bool false)], args := [d1, d2, d3, d4] }
  | _ => none }
def BoxDoesWrongFalsely : Prop := boxDoesRow.holds Try.pinned (OpenSpec.ofChange boxDoesWrong)

/-- 'bilgelaw14.BoxRuns': WHATEVER THE INPUT: true; the input reads as it did. -/
def boxRunsSpec : ChangeSpec := { name := "boxRuns", fn := fun _ => fun
  | [d1, d2, d3] => { results := [.lit (.bool true)], args := [d1, d2, d3] }
  | _ => none }
def boxRunsRow : OpenClaim := { program := "ytfcdmfiblmnbkaa", sum := "9db5e9966f943f1de831d1820369ad309ba3ec77b072ab7e41a590231dc139cd", func := "bilge/bilgelaw14.BoxRuns", spec := "boxRuns", plainKeys := false, apart := false }
def BoxRunsSaid : Prop := boxRunsRow.holds Try.pinned (OpenSpec.ofChange boxRunsSpec)

/-- ITS FALSE NEIGHBOUR: 'it returns false'. Refute it at one input. -/
def boxRunsWrong : ChangeSpec := { name := "boxRuns", fn := fun _ => fun
  | [d1, d2, d3] => { results := [.lit (.bool false)], args := [d1, d2, d3] }
  | _ => none }
def BoxRunsWrongFalsely : Prop := boxRunsRow.holds Try.pinned (OpenSpec.ofChange boxRunsWrong)

/-- 'bilgelaw14.BoxTries': WHATEVER THE INPUT: true; the input reads as it did. -/
def boxTriesSpec : ChangeSpec := { name := "boxTries", fn := fun _ => fun
  | [d1, d2] => { results := [.lit (.bool true)], args := [d1, d2] }
  | _ => none }
def boxTriesRow : OpenClaim := { program := "ytfcdmfiblmnbkaa", sum := "9db5e9966f943f1de831d1820369ad309ba3ec77b072ab7e41a590231dc139cd", func := "bilge/bilgelaw14.BoxTries", spec := "boxTries", plainKeys := false, apart := false }
def BoxTriesSaid : Prop := boxTriesRow.holds Try.pinned (OpenSpec.ofChange boxTriesSpec)

/-- ITS FALSE NEIGHBOUR: 'it returns false'. Refute it at one input. -/
def boxTriesWrong : ChangeSpec := { name := "boxTries", fn := fun _ => fun
  | [d1, d2] => { results := [.lit (.bool false)], args := [d1, d2] }
  | _ => none }
def BoxTriesWrongFalsely : Prop := boxTriesRow.holds Try.pinned (OpenSpec.ofChange boxTriesWrong)

/-- 'bilgelaw14.BoxEnds': WHATEVER THE INPUT: true; the input reads as it did. -/
def boxEndsSpec : ChangeSpec := { name := "boxEnds", fn := fun _ => fun
  | [d1, d2, d3, d4] => { results := [.lit (.bool true)], args := [d1, d2, d3, d4] }
  | _ => none }
def boxEndsRow : OpenClaim := { program := "ytfcdmfiblmnbkaa", sum := "9db5e9966f943f1de831d1820369ad309ba3ec77b072ab7e41a590231dc139cd", func := "bilge/bilgelaw14.BoxEnds", spec := "boxEnds", plainKeys := false, apart := false }
def BoxEndsSaid : Prop := boxEndsRow.holds Try.pinned (OpenSpec.ofChange boxEndsSpec)

/-- ITS FALSE NEIGHBOUR: 'it returns false'. Refute it at one input. -/
def boxEndsWrong : ChangeSpec := { name := "boxEnds", fn := fun _ => fun
  | [d1, d2, d3, d4] => { results := [.lit (.bool false)], args := [d1, d2, d3, d4] }
  | _ => none }
def BoxEndsWrongFalsely : Prop := boxEndsRow.holds Try.pinned (OpenSpec.ofChange boxEndsWrong)

/-- 'bilgelaw14.BoxForward': WHATEVER THE INPUT: true; the input reads as it did. -/
def boxForwardSpec : ChangeSpec := { name := "boxForward", fn := fun _ => fun
  | [d1, d2, d3] => { results := [.lit (.bool true)], args := [d1, d2, d3] }
  | _ => none }
def boxForwardRow : OpenClaim := { program := "ytfcdmfiblmnbkaa", sum := "9db5e9966f943f1de831d1820369ad309ba3ec77b072ab7e41a590231dc139cd", func := "bilge/bilgelaw14.BoxForward", spec := "boxForward", plainKeys := false, apart := false }
def BoxForwardSaid : Prop := boxForwardRow.holds Try.pinned (OpenSpec.ofChange boxForwardSpec)

/-- ITS FALSE NEIGHBOUR: 'it returns false'. Refute it at one input. -/
def boxForwardWrong : ChangeSpec := { name := "boxForward", fn := fun _ => fun
  | [d1, d2, d3] => { results := [.lit (.bool false)], args := [d1, d2, d3] }
  | _ => none }
def BoxForwardWrongFalsely : Prop := boxForwardRow.holds Try.pinned (OpenSpec.ofChange boxForwardWrong)

/-- 'bilgelaw14.BoxRetries': WHATEVER THE INPUT: true; the input reads as it did. -/
def boxRetriesSpec : ChangeSpec := { name := "boxRetries", fn := fun _ => fun
  | [d1, d2, d3, d4] => { results := [.lit (.bool true)], args := [d1, d2, d3, d4] }
  | _ => none }
def boxRetriesRow : OpenClaim := { program := "ytfcdmfiblmnbkaa", sum := "9db5e9966f943f1de831d1820369ad309ba3ec77b072ab7e41a590231dc139cd", func := "bilge/bilgelaw14.BoxRetries", spec := "boxRetries", plainKeys := false, apart := false }
def BoxRetriesSaid : Prop := boxRetriesRow.holds Try.pinned (OpenSpec.ofChange boxRetriesSpec)

/-- ITS FALSE NEIGHBOUR: 'it returns false'. Refute it at one input. -/
def boxRetriesWrong : ChangeSpec := { name := "boxRetries", fn := fun _ => fun
  | [d1, d2, d3, d4] => { results := [.lit (.bool false)], args := [d1, d2, d3, d4] }
  | _ => none }
def BoxRetriesWrongFalsely : Prop := boxRetriesRow.holds Try.pinned (OpenSpec.ofChange boxRetriesWrong)

/- THE SECOND FORM. 'bulk': how many values and letters a reading holds, each counted each time it is reached (what is shared counts as often as it is met; a slice's spare places count too). A statement '..UptoSaid' is the law's where the arguments, and the package variables that the reading takes, are together of bulk at most 1048576: NARROWER than '..Said'. Prove '..Said' where nothing that the law and all that it calls make is longer than what came in: it says more and counts as full. Else prove '..UptoSaid'. A law counts once. -/
mutual
def uptoBulk {H : Type} : DataW H → Nat
  | .lit (.string bytes) => bytes.length + 1
  | .lit _ => 1
  | .nil => 1
  | .ptr d => uptoBulk d + 1
  | .slice elems spare => uptoBulkAll elems + uptoBulkAll spare + 1
  | .agg parts => uptoBulkAll parts + 1
  | .iface _ d => uptoBulk d + 1
  | .map entries => uptoBulkEntries entries + 1
  | .held _ => 1
def uptoBulkAll {H : Type} : List (DataW H) → Nat
  | [] => 0
  | d :: r => uptoBulk d + uptoBulkAll r
def uptoBulkEntries {H : Type} : List (Lit × DataW H) → Nat
  | [] => 0
  | x :: r => uptoBulkEntry x + uptoBulkEntries r
def uptoBulkEntry {H : Type} : Lit × DataW H → Nat
  | (.string bytes, d) => bytes.length + uptoBulk d + 1
  | (_, d) => uptoBulk d + 1
 end
def uptoSmall : (H : Type) → List (DataW H) → Bool := fun _ ds => decide (uptoBulkAll ds ≤ 1048576)
def OpenSpec.upto (s : _root_.Go.ChangeSpec) : _root_.Go.OpenSpec := { _root_.Go.OpenSpec.ofChange s with cond := some uptoSmall }

/-- 'bilgelaw01.SatSums', WHERE WHAT IT READS IS OF BULK AT MOST 1048576: true; the input reads as it did. -/
def satSumsUptoRow : OpenClaim := { program := "ytfcdmfiblmnbkaa", sum := "9db5e9966f943f1de831d1820369ad309ba3ec77b072ab7e41a590231dc139cd", func := "bilge/bilgelaw01.SatSums", spec := "satSums", plainKeys := false, apart := false, narrowed := true }
def SatSumsUptoSaid : Prop := satSumsUptoRow.holds Try.pinned (OpenSpec.upto satSumsSpec)

/-- 'bilgelaw01.SatAll', WHERE WHAT IT READS IS OF BULK AT MOST 1048576: true; the input reads as it did. -/
def satAllUptoRow : OpenClaim := { program := "ytfcdmfiblmnbkaa", sum := "9db5e9966f943f1de831d1820369ad309ba3ec77b072ab7e41a590231dc139cd", func := "bilge/bilgelaw01.SatAll", spec := "satAll", plainKeys := false, apart := false, narrowed := true }
def SatAllUptoSaid : Prop := satAllUptoRow.holds Try.pinned (OpenSpec.upto satAllSpec)

/-- 'bilgelaw01.SatRules', WHERE WHAT IT READS IS OF BULK AT MOST 1048576: true; the input reads as it did. -/
def satRulesUptoRow : OpenClaim := { program := "ytfcdmfiblmnbkaa", sum := "9db5e9966f943f1de831d1820369ad309ba3ec77b072ab7e41a590231dc139cd", func := "bilge/bilgelaw01.SatRules", spec := "satRules", plainKeys := false, apart := false, narrowed := true }
def SatRulesUptoSaid : Prop := satRulesUptoRow.holds Try.pinned (OpenSpec.upto satRulesSpec)

/-- 'bilgelaw01.SatLists', WHERE WHAT IT READS IS OF BULK AT MOST 1048576: true; the input reads as it did. -/
def satListsUptoRow : OpenClaim := { program := "ytfcdmfiblmnbkaa", sum := "9db5e9966f943f1de831d1820369ad309ba3ec77b072ab7e41a590231dc139cd", func := "bilge/bilgelaw01.SatLists", spec := "satLists", plainKeys := false, apart := false, narrowed := true }
def SatListsUptoSaid : Prop := satListsUptoRow.holds Try.pinned (OpenSpec.upto satListsSpec)

/-- 'bilgelaw01.SatTimes', WHERE WHAT IT READS IS OF BULK AT MOST 1048576: true; the input reads as it did. -/
def satTimesUptoRow : OpenClaim := { program := "ytfcdmfiblmnbkaa", sum := "9db5e9966f943f1de831d1820369ad309ba3ec77b072ab7e41a590231dc139cd", func := "bilge/bilgelaw01.SatTimes", spec := "satTimes", plainKeys := false, apart := false, narrowed := true }
def SatTimesUptoSaid : Prop := satTimesUptoRow.holds Try.pinned (OpenSpec.upto satTimesSpec)

/-- 'bilgelaw14.BoxDoes', WHERE WHAT IT READS IS OF BULK AT MOST 1048576: true; the input reads as it did. -/
def boxDoesUptoRow : OpenClaim := { program := "ytfcdmfiblmnbkaa", sum := "9db5e9966f943f1de831d1820369ad309ba3ec77b072ab7e41a590231dc139cd", func := "bilge/bilgelaw14.BoxDoes", spec := "boxDoes", plainKeys := false, apart := false, narrowed := true }
def BoxDoesUptoSaid : Prop := boxDoesUptoRow.holds Try.pinned (OpenSpec.upto boxDoesSpec)

/-- 'bilgelaw14.BoxRuns', WHERE WHAT IT READS IS OF BULK AT MOST 1048576: true; the input reads as it did. -/
def boxRunsUptoRow : OpenClaim := { program := "ytfcdmfiblmnbkaa", sum := "9db5e9966f943f1de831d1820369ad309ba3ec77b072ab7e41a590231dc139cd", func := "bilge/bilgelaw14.BoxRuns", spec := "boxRuns", plainKeys := false, apart := false, narrowed := true }
def BoxRunsUptoSaid : Prop := boxRunsUptoRow.holds Try.pinned (OpenSpec.upto boxRunsSpec)

/-- 'bilgelaw14.BoxTries', WHERE WHAT IT READS IS OF BULK AT MOST 1048576: true; the input reads as it did. -/
def boxTriesUptoRow : OpenClaim := { program := "ytfcdmfiblmnbkaa", sum := "9db5e9966f943f1de831d1820369ad309ba3ec77b072ab7e41a590231dc139cd", func := "bilge/bilgelaw14.BoxTries", spec := "boxTries", plainKeys := false, apart := false, narrowed := true }
def BoxTriesUptoSaid : Prop := boxTriesUptoRow.holds Try.pinned (OpenSpec.upto boxTriesSpec)

/-- 'bilgelaw14.BoxEnds', WHERE WHAT IT READS IS OF BULK AT MOST 1048576: true; the input reads as it did. -/
def boxEndsUptoRow : OpenClaim := { program := "ytfcdmfiblmnbkaa", sum := "9db5e9966f943f1de831d1820369ad309ba3ec77b072ab7e41a590231dc139cd", func := "bilge/bilgelaw14.BoxEnds", spec := "boxEnds", plainKeys := false, apart := false, narrowed := true }
def BoxEndsUptoSaid : Prop := boxEndsUptoRow.holds Try.pinned (OpenSpec.upto boxEndsSpec)

/-- 'bilgelaw14.BoxForward', WHERE WHAT IT READS IS OF BULK AT MOST 1048576: true; the input reads as it did. -/
def boxForwardUptoRow : OpenClaim := { program := "ytfcdmfiblmnbkaa", sum := "9db5e9966f943f1de831d1820369ad309ba3ec77b072ab7e41a590231dc139cd", func := "bilge/bilgelaw14.BoxForward", spec := "boxForward", plainKeys := false, apart := false, narrowed := true }
def BoxForwardUptoSaid : Prop := boxForwardUptoRow.holds Try.pinned (OpenSpec.upto boxForwardSpec)

/-- 'bilgelaw14.BoxRetries', WHERE WHAT IT READS IS OF BULK AT MOST 1048576: true; the input reads as it did. -/
def boxRetriesUptoRow : OpenClaim := { program := "ytfcdmfiblmnbkaa", sum := "9db5e9966f943f1de831d1820369ad309ba3ec77b072ab7e41a590231dc139cd", func := "bilge/bilgelaw14.BoxRetries", spec := "boxRetries", plainKeys := false, apart := false, narrowed := true }
def BoxRetriesUptoSaid : Prop := boxRetriesUptoRow.holds Try.pinned (OpenSpec.upto boxRetriesSpec)

end Rows
end Go.Proofs.Ytfcdmfiblmnbkaa
