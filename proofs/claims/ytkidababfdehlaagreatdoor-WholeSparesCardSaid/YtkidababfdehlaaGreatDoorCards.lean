/-
  DERIVED. GIVEN WITH THE SEED: THE CARDS: each row of YtkidababfdehlaaGreatDoorRows.lean that lists a variable, with what it lists TIED to the program's text (the seventh form; the later family's looks); each row that meets fmt, with fmt's text TOLD by the authors' own Lean function (tested against real Go, not proved from fmt's source: count such statements apart). THE CARD IS WHAT COUNTS. Prove the row's statement (the work); the ties are given (YtkidababfdehlaaGreatDoorTie.lean); close each card by the builder's one call (the guide's Derived/Test/ToyasCard.lean, 'card_holds'). Laid BY PROGRAM, IN A SANDBOX (cutbox-door.mjs). By AI agents, Wed Nov 11 2026. No macro, syntax, notation, axiom, sorry.
-/
import Derived.Test.YtkidababfdehlaaGreatDoorRows
import GoSem.ClaimSeven
namespace Go.Proofs.YtkidababfdehlaaGreatDoor
namespace Rows

/-- THE TIED CARD OF 'bilgetop.WholeSpares'. -/
def wholeSparesCard : Claim7 := { stood := { row := wholeSparesRow, standIns := [], harness := (true, "5f94af990df03fb4a58139e1586ff3b1a5204447e7cec62d2c15cd250999b105"), looks := true }, kinds := [], alts := [], laidByText := true, laidKinds := [.data, .data, .data, .data, .sentinel, .sentinel, .pinned], laidTests := true, laidLooks := .later }
def WholeSparesCardSaid : Prop := Claim7.holds Tryz.pinned (.plain (OpenSpec.ofChange wholeSparesSpec)) wholeSparesCard

/-- THE TIED CARD OF 'bilgetop.WholeLeaves'. -/
def wholeLeavesCard : Claim7 := { stood := { row := wholeLeavesRow, standIns := [], harness := (true, "5f94af990df03fb4a58139e1586ff3b1a5204447e7cec62d2c15cd250999b105"), looks := true }, kinds := [], alts := [], laidByText := true, laidKinds := [.data, .data, .data, .data, .sentinel, .sentinel, .pinned], laidTests := true, laidLooks := .later }
def WholeLeavesCardSaid : Prop := Claim7.holds Tryz.pinned (.plain (OpenSpec.ofChange wholeLeavesSpec)) wholeLeavesCard

/-- THE SECOND FORM's CARD OF 'bilgetop.WholeSpares'. -/
def wholeSparesUptoCard : Claim7 := { stood := { row := wholeSparesUptoRow, standIns := [], harness := (true, "5f94af990df03fb4a58139e1586ff3b1a5204447e7cec62d2c15cd250999b105"), looks := true }, kinds := [], alts := [], laidByText := true, laidKinds := [.data, .data, .data, .data, .sentinel, .sentinel, .pinned], laidTests := true, laidLooks := .later }
def WholeSparesUptoCardSaid : Prop := Claim7.holds Tryz.pinned (.plain (OpenSpec.upto wholeSparesSpec)) wholeSparesUptoCard

/-- THE SECOND FORM's CARD OF 'bilgetop.WholeLeaves'. -/
def wholeLeavesUptoCard : Claim7 := { stood := { row := wholeLeavesUptoRow, standIns := [], harness := (true, "5f94af990df03fb4a58139e1586ff3b1a5204447e7cec62d2c15cd250999b105"), looks := true }, kinds := [], alts := [], laidByText := true, laidKinds := [.data, .data, .data, .data, .sentinel, .sentinel, .pinned], laidTests := true, laidLooks := .later }
def WholeLeavesUptoCardSaid : Prop := Claim7.holds Tryz.pinned (.plain (OpenSpec.upto wholeLeavesSpec)) wholeLeavesUptoCard
end Rows
end Go.Proofs.YtkidababfdehlaaGreatDoor
