/-
  No cell of these rows narrows 'for every input' (looked for: loops, veiled, ifaces, maps, wideKeys, modest, calm, conditions, laid).
  DERIVED. THE GIVEN ROWS OF THIS SEAT. 8 by the template 'for every input the law returns true; each argument reads behind the call as it read before'; 0 by the template 'total and deterministic' (their statements: YthccojfflmfggaaTotals.lean).
  GIVEN WITH THE SEED: the statements are not yours to turn. If you find one false, say at which input.
  Laid BY PROGRAM, IN A SANDBOX (cutbox-rows.mjs): the forced cells as the released guide's own fill.sh prints them over the translation dfdd0edb29481142… (all of the seat's roots in one cut). By AI agents, Wed Nov 11 2026. No macro, syntax, notation, axiom, sorry.
-/
import Derived.Test.YthccojfflmfggaaChecked
import GoSem.Claim
import GoSem.ClaimJoined
import GoSem.ClaimMapViews
import Derived.JoinedTies
import Derived.KernelRfl
namespace Go.Proofs.Ythccojfflmfggaa
/- THE CELL 'sum', in the pinned program and in every row, IS THE sha256 OF THE DUMP (.gsa) THAT YthccojfflmfggaaProg.lean LOADS. Nothing in Lean hashes anything: it is a label: what it is worth is what the hold of that sum in a sandbox is worth. -/
noncomputable def Try.pinned : Pinned := { name := "ythccojfflmfggaa", sum := "dfdd0edb2948114236eb36ff23141d09b86f451cebd408cc27c7653997f19379", checked := Try.checked }
namespace Rows
def none {H : Type} : Left H := { results := [], args := [] }

/-- 'bilgelaw16.WorldOrder': WHATEVER THE INPUT: true; the input reads as it did. -/
def worldOrderSpec : ChangeSpec := { name := "worldOrder", fn := fun _ => fun
  | [d1, d2, d3] => { results := [.lit (.bool true)], args := [d1, d2, d3] }
  | _ => none }
def worldOrderRow : OpenClaim := { program := "ythccojfflmfggaa", sum := "dfdd0edb2948114236eb36ff23141d09b86f451cebd408cc27c7653997f19379", func := "bilge/bilgelaw16.WorldOrder", spec := "worldOrder", inPlace := ["internal/bytealg.abigen_runtime_cmpstring", "slices.overlaps[bilge/api.Container]", "slices.overlaps[bilge/api.Image]"], unfollowed := true, recurses := true, plainKeys := false, apart := false }
def WorldOrderSaid : Prop := worldOrderRow.holds Try.pinned (OpenSpec.ofChange worldOrderSpec)

/-- ITS FALSE NEIGHBOUR: 'it returns false'. Refute it at one input. -/
def worldOrderWrong : ChangeSpec := { name := "worldOrder", fn := fun _ => fun
  | [d1, d2, d3] => { results := [.lit (.bool false)], args := [d1, d2, d3] }
  | _ => none }
def WorldOrderWrongFalsely : Prop := worldOrderRow.holds Try.pinned (OpenSpec.ofChange worldOrderWrong)

/-- 'bilgelaw16.WorldBreaks': WHATEVER THE INPUT: true; the input reads as it did. -/
def worldBreaksSpec : ChangeSpec := { name := "worldBreaks", fn := fun _ => fun
  | [d1, d2] => { results := [.lit (.bool true)], args := [d1, d2] }
  | _ => none }
def worldBreaksRow : OpenClaim := { program := "ythccojfflmfggaa", sum := "dfdd0edb2948114236eb36ff23141d09b86f451cebd408cc27c7653997f19379", func := "bilge/bilgelaw16.WorldBreaks", spec := "worldBreaks", inPlace := ["internal/bytealg.abigen_runtime_cmpstring", "slices.overlaps[bilge/api.Container]", "slices.overlaps[bilge/api.Image]"], unfollowed := true, recurses := true, plainKeys := false, apart := false }
def WorldBreaksSaid : Prop := worldBreaksRow.holds Try.pinned (OpenSpec.ofChange worldBreaksSpec)

/-- ITS FALSE NEIGHBOUR: 'it returns false'. Refute it at one input. -/
def worldBreaksWrong : ChangeSpec := { name := "worldBreaks", fn := fun _ => fun
  | [d1, d2] => { results := [.lit (.bool false)], args := [d1, d2] }
  | _ => none }
def WorldBreaksWrongFalsely : Prop := worldBreaksRow.holds Try.pinned (OpenSpec.ofChange worldBreaksWrong)

/-- 'bilgelaw16.WorldImages': WHATEVER THE INPUT: true; the input reads as it did. -/
def worldImagesSpec : ChangeSpec := { name := "worldImages", fn := fun _ => fun
  | [d1, d2, d3] => { results := [.lit (.bool true)], args := [d1, d2, d3] }
  | _ => none }
def worldImagesRow : OpenClaim := { program := "ythccojfflmfggaa", sum := "dfdd0edb2948114236eb36ff23141d09b86f451cebd408cc27c7653997f19379", func := "bilge/bilgelaw16.WorldImages", spec := "worldImages", inPlace := ["internal/bytealg.abigen_runtime_cmpstring", "slices.overlaps[bilge/api.Container]", "slices.overlaps[bilge/api.Image]"], unfollowed := true, recurses := true, plainKeys := false, apart := false }
def WorldImagesSaid : Prop := worldImagesRow.holds Try.pinned (OpenSpec.ofChange worldImagesSpec)

/-- ITS FALSE NEIGHBOUR: 'it returns false'. Refute it at one input. -/
def worldImagesWrong : ChangeSpec := { name := "worldImages", fn := fun _ => fun
  | [d1, d2, d3] => { results := [.lit (.bool false)], args := [d1, d2, d3] }
  | _ => none }
def WorldImagesWrongFalsely : Prop := worldImagesRow.holds Try.pinned (OpenSpec.ofChange worldImagesWrong)

/-- 'bilgelaw16.WorldFull': WHATEVER THE INPUT: true; the input reads as it did. -/
def worldFullSpec : ChangeSpec := { name := "worldFull", fn := fun _ => fun
  | [d1, d2] => { results := [.lit (.bool true)], args := [d1, d2] }
  | _ => none }
def worldFullRow : OpenClaim := { program := "ythccojfflmfggaa", sum := "dfdd0edb2948114236eb36ff23141d09b86f451cebd408cc27c7653997f19379", func := "bilge/bilgelaw16.WorldFull", spec := "worldFull", inPlace := ["internal/bytealg.abigen_runtime_cmpstring", "slices.overlaps[bilge/api.Container]", "slices.overlaps[bilge/api.Image]"], unfollowed := true, recurses := true, plainKeys := false, apart := false }
def WorldFullSaid : Prop := worldFullRow.holds Try.pinned (OpenSpec.ofChange worldFullSpec)

/-- ITS FALSE NEIGHBOUR: 'it returns false'. Refute it at one input. -/
def worldFullWrong : ChangeSpec := { name := "worldFull", fn := fun _ => fun
  | [d1, d2] => { results := [.lit (.bool false)], args := [d1, d2] }
  | _ => none }
def WorldFullWrongFalsely : Prop := worldFullRow.holds Try.pinned (OpenSpec.ofChange worldFullWrong)

/-- 'bilgelaw16.WorldLife': WHATEVER THE INPUT: true; the input reads as it did. -/
def worldLifeSpec : ChangeSpec := { name := "worldLife", fn := fun _ => fun
  | [d1, d2, d3, d4] => { results := [.lit (.bool true)], args := [d1, d2, d3, d4] }
  | _ => none }
def worldLifeRow : OpenClaim := { program := "ythccojfflmfggaa", sum := "dfdd0edb2948114236eb36ff23141d09b86f451cebd408cc27c7653997f19379", func := "bilge/bilgelaw16.WorldLife", spec := "worldLife", inPlace := ["internal/bytealg.abigen_runtime_cmpstring", "slices.overlaps[bilge/api.Container]", "slices.overlaps[bilge/api.Image]"], unfollowed := true, recurses := true, plainKeys := false, apart := false }
def WorldLifeSaid : Prop := worldLifeRow.holds Try.pinned (OpenSpec.ofChange worldLifeSpec)

/-- ITS FALSE NEIGHBOUR: 'it returns false'. Refute it at one input. -/
def worldLifeWrong : ChangeSpec := { name := "worldLife", fn := fun _ => fun
  | [d1, d2, d3, d4] => { results := [.lit (.bool false)], args := [d1, d2, d3, d4] }
  | _ => none }
def WorldLifeWrongFalsely : Prop := worldLifeRow.holds Try.pinned (OpenSpec.ofChange worldLifeWrong)

/-- 'bilgelaw16.WorldModel': WHATEVER THE INPUT: true; the input reads as it did. -/
def worldModelSpec : ChangeSpec := { name := "worldModel", fn := fun _ => fun
  | [d1, d2] => { results := [.lit (.bool true)], args := [d1, d2] }
  | _ => none }
def worldModelRow : OpenClaim := { program := "ythccojfflmfggaa", sum := "dfdd0edb2948114236eb36ff23141d09b86f451cebd408cc27c7653997f19379", func := "bilge/bilgelaw16.WorldModel", spec := "worldModel", inPlace := ["internal/bytealg.abigen_runtime_cmpstring", "slices.overlaps[bilge/api.Container]", "slices.overlaps[bilge/api.Image]"], unfollowed := true, recurses := true, plainKeys := false, apart := false }
def WorldModelSaid : Prop := worldModelRow.holds Try.pinned (OpenSpec.ofChange worldModelSpec)

/-- ITS FALSE NEIGHBOUR: 'it returns false'. Refute it at one input. -/
def worldModelWrong : ChangeSpec := { name := "worldModel", fn := fun _ => fun
  | [d1, d2] => { results := [.lit (.bool false)], args := [d1, d2] }
  | _ => none }
def WorldModelWrongFalsely : Prop := worldModelRow.holds Try.pinned (OpenSpec.ofChange worldModelWrong)

/-- 'bilgelaw16.WorldApart': WHATEVER THE INPUT: true; the input reads as it did. -/
def worldApartSpec : ChangeSpec := { name := "worldApart", fn := fun _ => fun
  | [d1, d2, d3, d4] => { results := [.lit (.bool true)], args := [d1, d2, d3, d4] }
  | _ => none }
def worldApartRow : OpenClaim := { program := "ythccojfflmfggaa", sum := "dfdd0edb2948114236eb36ff23141d09b86f451cebd408cc27c7653997f19379", func := "bilge/bilgelaw16.WorldApart", spec := "worldApart", inPlace := ["internal/bytealg.abigen_runtime_cmpstring", "slices.overlaps[bilge/api.Container]", "slices.overlaps[bilge/api.Image]"], unfollowed := true, recurses := true, plainKeys := false, apart := false }
def WorldApartSaid : Prop := worldApartRow.holds Try.pinned (OpenSpec.ofChange worldApartSpec)

/-- ITS FALSE NEIGHBOUR: 'it returns false'. Refute it at one input. -/
def worldApartWrong : ChangeSpec := { name := "worldApart", fn := fun _ => fun
  | [d1, d2, d3, d4] => { results := [.lit (.bool false)], args := [d1, d2, d3, d4] }
  | _ => none }
def WorldApartWrongFalsely : Prop := worldApartRow.holds Try.pinned (OpenSpec.ofChange worldApartWrong)

/-- 'bilgelaw16.WorldKeeps': WHATEVER THE INPUT: true; the input reads as it did. -/
def worldKeepsSpec : ChangeSpec := { name := "worldKeeps", fn := fun _ => fun
  | [d] => { results := [.lit (.bool true)], args := [d] }
  | _ => none }
def worldKeepsRow : OpenClaim := { program := "ythccojfflmfggaa", sum := "dfdd0edb2948114236eb36ff23141d09b86f451cebd408cc27c7653997f19379", func := "bilge/bilgelaw16.WorldKeeps", spec := "worldKeeps", inPlace := ["internal/bytealg.abigen_runtime_cmpstring", "slices.overlaps[bilge/api.Container]", "slices.overlaps[bilge/api.Image]"], unfollowed := true, recurses := true, plainKeys := false, apart := false }
def WorldKeepsSaid : Prop := worldKeepsRow.holds Try.pinned (OpenSpec.ofChange worldKeepsSpec)

/-- ITS FALSE NEIGHBOUR: 'it returns false'. Refute it at one input. -/
def worldKeepsWrong : ChangeSpec := { name := "worldKeeps", fn := fun _ => fun
  | [d] => { results := [.lit (.bool false)], args := [d] }
  | _ => none }
def WorldKeepsWrongFalsely : Prop := worldKeepsRow.holds Try.pinned (OpenSpec.ofChange worldKeepsWrong)

/- THE SECOND FORM. 'bulk': how many values and letters a reading holds, each counted each time it is reached (what is shared counts as often as it is met; a slice's spare places count too). A statement '..UptoSaid' is the law's where the arguments, and the package variables that the reading takes, are together of bulk at most 1048576: NARROWER than '..Said'. Prove '..Said' where nothing that the law and all that it calls make is longer than what came in: it says more and counts as full. Else prove '..UptoSaid'. A law counts once. -/
mutual
def uptoBulk {H : Type} : DataW H → Nat
  | .lit (.string bytes) => bytes.length + 1
  | .lit _ => 1
  | .nil => 1
  | .ptr d => uptoBulk d + 1
  | .slice elems spare => uptoBulkAll elems + uptoBulkAll spare + 1
  | .agg parts => uptoBulkAll parts + 1
  | .iface _ d => uptoBulk d + 1
  | .map entries => uptoBulkEntries entries + 1
  | .held _ => 1
def uptoBulkAll {H : Type} : List (DataW H) → Nat
  | [] => 0
  | d :: r => uptoBulk d + uptoBulkAll r
def uptoBulkEntries {H : Type} : List (Lit × DataW H) → Nat
  | [] => 0
  | x :: r => uptoBulkEntry x + uptoBulkEntries r
def uptoBulkEntry {H : Type} : Lit × DataW H → Nat
  | (.string bytes, d) => bytes.length + uptoBulk d + 1
  | (_, d) => uptoBulk d + 1
 end
def uptoSmall : (H : Type) → List (DataW H) → Bool := fun _ ds => decide (uptoBulkAll ds ≤ 1048576)
def OpenSpec.upto (s : _root_.Go.ChangeSpec) : _root_.Go.OpenSpec := { _root_.Go.OpenSpec.ofChange s with cond := some uptoSmall }

/-- 'bilgelaw16.WorldOrder', WHERE WHAT IT READS IS OF BULK AT MOST 1048576: true; the input reads as it did. -/
def worldOrderUptoRow : OpenClaim := { program := "ythccojfflmfggaa", sum := "dfdd0edb2948114236eb36ff23141d09b86f451cebd408cc27c7653997f19379", func := "bilge/bilgelaw16.WorldOrder", spec := "worldOrder", inPlace := ["internal/bytealg.abigen_runtime_cmpstring", "slices.overlaps[bilge/api.Container]", "slices.overlaps[bilge/api.Image]"], unfollowed := true, recurses := true, plainKeys := false, apart := false, narrowed := true }
def WorldOrderUptoSaid : Prop := worldOrderUptoRow.holds Try.pinned (OpenSpec.upto worldOrderSpec)

/-- 'bilgelaw16.WorldBreaks', WHERE WHAT IT READS IS OF BULK AT MOST 1048576: true; the input reads as it did. -/
def worldBreaksUptoRow : OpenClaim := { program := "ythccojfflmfggaa", sum := "dfdd0edb2948114236eb36ff23141d09b86f451cebd408cc27c7653997f19379", func := "bilge/bilgelaw16.WorldBreaks", spec := "worldBreaks", inPlace := ["internal/bytealg.abigen_runtime_cmpstring", "slices.overlaps[bilge/api.Container]", "slices.overlaps[bilge/api.Image]"], unfollowed := true, recurses := true, plainKeys := false, apart := false, narrowed := true }
def WorldBreaksUptoSaid : Prop := worldBreaksUptoRow.holds Try.pinned (OpenSpec.upto worldBreaksSpec)

/-- 'bilgelaw16.WorldImages', WHERE WHAT IT READS IS OF BULK AT MOST 1048576: true; the input reads as it did. -/
def worldImagesUptoRow : OpenClaim := { program := "ythccojfflmfggaa", sum := "dfdd0edb2948114236eb36ff23141d09b86f451cebd408cc27c7653997f19379", func := "bilge/bilgelaw16.WorldImages", spec := "worldImages", inPlace := ["internal/bytealg.abigen_runtime_cmpstring", "slices.overlaps[bilge/api.Container]", "slices.overlaps[bilge/api.Image]"], unfollowed := true, recurses := true, plainKeys := false, apart := false, narrowed := true }
def WorldImagesUptoSaid : Prop := worldImagesUptoRow.holds Try.pinned (OpenSpec.upto worldImagesSpec)

/-- 'bilgelaw16.WorldFull', WHERE WHAT IT READS IS OF BULK AT MOST 1048576: true; the input reads as it did. -/
def worldFullUptoRow : OpenClaim := { program := "ythccojfflmfggaa", sum := "dfdd0edb2948114236eb36ff23141d09b86f451cebd408cc27c7653997f19379", func := "bilge/bilgelaw16.WorldFull", spec := "worldFull", inPlace := ["internal/bytealg.abigen_runtime_cmpstring", "slices.overlaps[bilge/api.Container]", "slices.overlaps[bilge/api.Image]"], unfollowed := true, recurses := true, plainKeys := false, apart := false, narrowed := true }
def WorldFullUptoSaid : Prop := worldFullUptoRow.holds Try.pinned (OpenSpec.upto worldFullSpec)

/-- 'bilgelaw16.WorldLife', WHERE WHAT IT READS IS OF BULK AT MOST 1048576: true; the input reads as it did. -/
def worldLifeUptoRow : OpenClaim := { program := "ythccojfflmfggaa", sum := "dfdd0edb2948114236eb36ff23141d09b86f451cebd408cc27c7653997f19379", func := "bilge/bilgelaw16.WorldLife", spec := "worldLife", inPlace := ["internal/bytealg.abigen_runtime_cmpstring", "slices.overlaps[bilge/api.Container]", "slices.overlaps[bilge/api.Image]"], unfollowed := true, recurses := true, plainKeys := false, apart := false, narrowed := true }
def WorldLifeUptoSaid : Prop := worldLifeUptoRow.holds Try.pinned (OpenSpec.upto worldLifeSpec)

/-- 'bilgelaw16.WorldModel', WHERE WHAT IT READS IS OF BULK AT MOST 1048576: true; the input reads as it did. -/
def worldModelUptoRow : OpenClaim := { program := "ythccojfflmfggaa", sum := "dfdd0edb2948114236eb36ff23141d09b86f451cebd408cc27c7653997f19379", func := "bilge/bilgelaw16.WorldModel", spec := "worldModel", inPlace := ["internal/bytealg.abigen_runtime_cmpstring", "slices.overlaps[bilge/api.Container]", "slices.overlaps[bilge/api.Image]"], unfollowed := true, recurses := true, plainKeys := false, apart := false, narrowed := true }
def WorldModelUptoSaid : Prop := worldModelUptoRow.holds Try.pinned (OpenSpec.upto worldModelSpec)

/-- 'bilgelaw16.WorldApart', WHERE WHAT IT READS IS OF BULK AT MOST 1048576: true; the input reads as it did. -/
def worldApartUptoRow : OpenClaim := { program := "ythccojfflmfggaa", sum := "dfdd0edb2948114236eb36ff23141d09b86f451cebd408cc27c7653997f19379", func := "bilge/bilgelaw16.WorldApart", spec := "worldApart", inPlace := ["internal/bytealg.abigen_runtime_cmpstring", "slices.overlaps[bilge/api.Container]", "slices.overlaps[bilge/api.Image]"], unfollowed := true, recurses := true, plainKeys := false, apart := false, narrowed := true }
def WorldApartUptoSaid : Prop := worldApartUptoRow.holds Try.pinned (OpenSpec.upto worldApartSpec)

/-- 'bilgelaw16.WorldKeeps', WHERE WHAT IT READS IS OF BULK AT MOST 1048576: true; the input reads as it did. -/
def worldKeepsUptoRow : OpenClaim := { program := "ythccojfflmfggaa", sum := "dfdd0edb2948114236eb36ff23141d09b86f451cebd408cc27c7653997f19379", func := "bilge/bilgelaw16.WorldKeeps", spec := "worldKeeps", inPlace := ["internal/bytealg.abigen_runtime_cmpstring", "slices.overlaps[bilge/api.Container]", "slices.overlaps[bilge/api.Image]"], unfollowed := true, recurses := true, plainKeys := false, apart := false, narrowed := true }
def WorldKeepsUptoSaid : Prop := worldKeepsUptoRow.holds Try.pinned (OpenSpec.upto worldKeepsSpec)

end Rows
end Go.Proofs.Ythccojfflmfggaa
