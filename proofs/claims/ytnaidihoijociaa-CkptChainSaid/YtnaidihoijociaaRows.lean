/-
  No cell of these rows narrows 'for every input' (looked for: loops, veiled, ifaces, maps, wideKeys, modest, calm, conditions, laid).
  DERIVED. THE GIVEN ROWS OF THIS SEAT. 10 by the template 'for every input the law returns true; each argument reads behind the call as it read before'; 0 by the template 'total and deterministic' (their statements: YtnaidihoijociaaTotals.lean).
  GIVEN WITH THE SEED: the statements are not yours to turn. If you find one false, say at which input.
  Laid BY PROGRAM, IN A SANDBOX (cutbox-rows.mjs): the forced cells as the released guide's own fill.sh prints them over the translation 0edf85000eee91bb… (all of the seat's roots in one cut). By AI agents, Wed Nov 11 2026. No macro, syntax, notation, axiom, sorry.
-/
import Derived.Test.YtnaidihoijociaaChecked
import GoSem.Claim
import GoSem.ClaimJoined
import GoSem.ClaimMapViews
import Derived.JoinedTies
import Derived.KernelRfl
namespace Go.Proofs.Ytnaidihoijociaa
/- THE CELL 'sum', in the pinned program and in every row, IS THE sha256 OF THE DUMP (.gsa) THAT YtnaidihoijociaaProg.lean LOADS. Nothing in Lean hashes anything: it is a label: what it is worth is what the hold of that sum in a sandbox is worth. -/
noncomputable def Try.pinned : Pinned := { name := "ytnaidihoijociaa", sum := "0edf85000eee91bbed6487c8b885bf2ebe755b2e121a87690ff8b13d2836923c", checked := Try.checked }
namespace Rows
def none {H : Type} : Left H := { results := [], args := [] }

/-- 'bilgelaw10.DiskKeeps': WHATEVER THE INPUT: true; the input reads as it did. -/
def diskKeepsSpec : ChangeSpec := { name := "diskKeeps", fn := fun _ => fun
  | [d] => { results := [.lit (.bool true)], args := [d] }
  | _ => none }
def diskKeepsRow : OpenClaim := { program := "ytnaidihoijociaa", sum := "0edf85000eee91bbed6487c8b885bf2ebe755b2e121a87690ff8b13d2836923c", func := "bilge/bilgelaw10.DiskKeeps", spec := "diskKeeps", inPlace := ["maps.clone"], unfollowed := true, recurses := true, apart := false }
def DiskKeepsSaid : Prop := diskKeepsRow.holds Try.pinned (OpenSpec.ofChange diskKeepsSpec)

/-- ITS FALSE NEIGHBOUR: 'it returns false'. Refute it at one input. -/
def diskKeepsWrong : ChangeSpec := { name := "diskKeeps", fn := fun _ => fun
  | [d] => { results := [.lit (.bool false)], args := [d] }
  | _ => none }
def DiskKeepsWrongFalsely : Prop := diskKeepsRow.holds Try.pinned (OpenSpec.ofChange diskKeepsWrong)

/-- 'bilgelaw10.DiskMoves': WHATEVER THE INPUT: true; the input reads as it did. -/
def diskMovesSpec : ChangeSpec := { name := "diskMoves", fn := fun _ => fun
  | [d1, d2, d3] => { results := [.lit (.bool true)], args := [d1, d2, d3] }
  | _ => none }
def diskMovesRow : OpenClaim := { program := "ytnaidihoijociaa", sum := "0edf85000eee91bbed6487c8b885bf2ebe755b2e121a87690ff8b13d2836923c", func := "bilge/bilgelaw10.DiskMoves", spec := "diskMoves", inPlace := ["maps.clone"], unfollowed := true, recurses := true, apart := false }
def DiskMovesSaid : Prop := diskMovesRow.holds Try.pinned (OpenSpec.ofChange diskMovesSpec)

/-- ITS FALSE NEIGHBOUR: 'it returns false'. Refute it at one input. -/
def diskMovesWrong : ChangeSpec := { name := "diskMoves", fn := fun _ => fun
  | [d1, d2, d3] => { results := [.lit (.bool false)], args := [d1, d2, d3] }
  | _ => none }
def DiskMovesWrongFalsely : Prop := diskMovesRow.holds Try.pinned (OpenSpec.ofChange diskMovesWrong)

/-- 'bilgelaw10.DiskTorn': WHATEVER THE INPUT: true; the input reads as it did. -/
def diskTornSpec : ChangeSpec := { name := "diskTorn", fn := fun _ => fun
  | [d1, d2, d3] => { results := [.lit (.bool true)], args := [d1, d2, d3] }
  | _ => none }
def diskTornRow : OpenClaim := { program := "ytnaidihoijociaa", sum := "0edf85000eee91bbed6487c8b885bf2ebe755b2e121a87690ff8b13d2836923c", func := "bilge/bilgelaw10.DiskTorn", spec := "diskTorn", inPlace := ["maps.clone"], unfollowed := true, recurses := true, apart := false }
def DiskTornSaid : Prop := diskTornRow.holds Try.pinned (OpenSpec.ofChange diskTornSpec)

/-- ITS FALSE NEIGHBOUR: 'it returns false'. Refute it at one input. -/
def diskTornWrong : ChangeSpec := { name := "diskTorn", fn := fun _ => fun
  | [d1, d2, d3] => { results := [.lit (.bool false)], args := [d1, d2, d3] }
  | _ => none }
def DiskTornWrongFalsely : Prop := diskTornRow.holds Try.pinned (OpenSpec.ofChange diskTornWrong)

/-- 'bilgelaw10.DiskModel': WHATEVER THE INPUT: true; the input reads as it did. -/
def diskModelSpec : ChangeSpec := { name := "diskModel", fn := fun _ => fun
  | [d] => { results := [.lit (.bool true)], args := [d] }
  | _ => none }
def diskModelRow : OpenClaim := { program := "ytnaidihoijociaa", sum := "0edf85000eee91bbed6487c8b885bf2ebe755b2e121a87690ff8b13d2836923c", func := "bilge/bilgelaw10.DiskModel", spec := "diskModel", inPlace := ["maps.clone"], unfollowed := true, recurses := true, apart := false }
def DiskModelSaid : Prop := diskModelRow.holds Try.pinned (OpenSpec.ofChange diskModelSpec)

/-- ITS FALSE NEIGHBOUR: 'it returns false'. Refute it at one input. -/
def diskModelWrong : ChangeSpec := { name := "diskModel", fn := fun _ => fun
  | [d] => { results := [.lit (.bool false)], args := [d] }
  | _ => none }
def DiskModelWrongFalsely : Prop := diskModelRow.holds Try.pinned (OpenSpec.ofChange diskModelWrong)

/-- 'bilgelaw10.DiskCrash': WHATEVER THE INPUT: true; the input reads as it did. -/
def diskCrashSpec : ChangeSpec := { name := "diskCrash", fn := fun _ => fun
  | [d1, d2, d3] => { results := [.lit (.bool true)], args := [d1, d2, d3] }
  | _ => none }
def diskCrashRow : OpenClaim := { program := "ytnaidihoijociaa", sum := "0edf85000eee91bbed6487c8b885bf2ebe755b2e121a87690ff8b13d2836923c", func := "bilge/bilgelaw10.DiskCrash", spec := "diskCrash", inPlace := ["maps.clone"], unfollowed := true, recurses := true, apart := false }
def DiskCrashSaid : Prop := diskCrashRow.holds Try.pinned (OpenSpec.ofChange diskCrashSpec)

/-- ITS FALSE NEIGHBOUR: 'it returns false'. Refute it at one input. -/
def diskCrashWrong : ChangeSpec := { name := "diskCrash", fn := fun _ => fun
  | [d1, d2, d3] => { results := [.lit (.bool false)], args := [d1, d2, d3] }
  | _ => none }
def DiskCrashWrongFalsely : Prop := diskCrashRow.holds Try.pinned (OpenSpec.ofChange diskCrashWrong)

/-- 'bilgelaw11.CkptOpens': WHATEVER THE INPUT: true; the input reads as it did. -/
def ckptOpensSpec : ChangeSpec := { name := "ckptOpens", fn := fun _ => fun
  | [d1, d2, d3] => { results := [.lit (.bool true)], args := [d1, d2, d3] }
  | _ => none }
def ckptOpensRow : OpenClaim := { program := "ytnaidihoijociaa", sum := "0edf85000eee91bbed6487c8b885bf2ebe755b2e121a87690ff8b13d2836923c", func := "bilge/bilgelaw11.CkptOpens", spec := "ckptOpens", inPlace := ["maps.clone"], unfollowed := true, recurses := true, apart := false }
def CkptOpensSaid : Prop := ckptOpensRow.holds Try.pinned (OpenSpec.ofChange ckptOpensSpec)

/-- ITS FALSE NEIGHBOUR: 'it returns false'. Refute it at one input. -/
def ckptOpensWrong : ChangeSpec := { name := "ckptOpens", fn := fun _ => fun
  | [d1, d2, d3] => { results := [.lit (.bool false)], args := [d1, d2, d3] }
  | _ => none }
def CkptOpensWrongFalsely : Prop := ckptOpensRow.holds Try.pinned (OpenSpec.ofChange ckptOpensWrong)

/-- 'bilgelaw11.CkptKeeps': WHATEVER THE INPUT: true; the input reads as it did. -/
def ckptKeepsSpec : ChangeSpec := { name := "ckptKeeps", fn := fun _ => fun
  | [d] => { results := [.lit (.bool true)], args := [d] }
  | _ => none }
def ckptKeepsRow : OpenClaim := { program := "ytnaidihoijociaa", sum := "0edf85000eee91bbed6487c8b885bf2ebe755b2e121a87690ff8b13d2836923c", func := "bilge/bilgelaw11.CkptKeeps", spec := "ckptKeeps", inPlace := ["maps.clone"], unfollowed := true, recurses := true, apart := false }
def CkptKeepsSaid : Prop := ckptKeepsRow.holds Try.pinned (OpenSpec.ofChange ckptKeepsSpec)

/-- ITS FALSE NEIGHBOUR: 'it returns false'. Refute it at one input. -/
def ckptKeepsWrong : ChangeSpec := { name := "ckptKeeps", fn := fun _ => fun
  | [d] => { results := [.lit (.bool false)], args := [d] }
  | _ => none }
def CkptKeepsWrongFalsely : Prop := ckptKeepsRow.holds Try.pinned (OpenSpec.ofChange ckptKeepsWrong)

/-- 'bilgelaw11.CkptSaves': WHATEVER THE INPUT: true; the input reads as it did. -/
def ckptSavesSpec : ChangeSpec := { name := "ckptSaves", fn := fun _ => fun
  | [d1, d2] => { results := [.lit (.bool true)], args := [d1, d2] }
  | _ => none }
def ckptSavesRow : OpenClaim := { program := "ytnaidihoijociaa", sum := "0edf85000eee91bbed6487c8b885bf2ebe755b2e121a87690ff8b13d2836923c", func := "bilge/bilgelaw11.CkptSaves", spec := "ckptSaves", inPlace := ["maps.clone"], unfollowed := true, recurses := true, apart := false }
def CkptSavesSaid : Prop := ckptSavesRow.holds Try.pinned (OpenSpec.ofChange ckptSavesSpec)

/-- ITS FALSE NEIGHBOUR: 'it returns false'. Refute it at one input. -/
def ckptSavesWrong : ChangeSpec := { name := "ckptSaves", fn := fun _ => fun
  | [d1, d2] => { results := [.lit (.bool false)], args := [d1, d2] }
  | _ => none }
def CkptSavesWrongFalsely : Prop := ckptSavesRow.holds Try.pinned (OpenSpec.ofChange ckptSavesWrong)

/-- 'bilgelaw11.CkptCrash': WHATEVER THE INPUT: true; the input reads as it did. -/
def ckptCrashSpec : ChangeSpec := { name := "ckptCrash", fn := fun _ => fun
  | [d1, d2, d3, d4] => { results := [.lit (.bool true)], args := [d1, d2, d3, d4] }
  | _ => none }
def ckptCrashRow : OpenClaim := { program := "ytnaidihoijociaa", sum := "0edf85000eee91bbed6487c8b885bf2ebe755b2e121a87690ff8b13d2836923c", func := "bilge/bilgelaw11.CkptCrash", spec := "ckptCrash", inPlace := ["maps.clone"], unfollowed := true, recurses := true, apart := false }
def CkptCrashSaid : Prop := ckptCrashRow.holds Try.pinned (OpenSpec.ofChange ckptCrashSpec)

/-- ITS FALSE NEIGHBOUR: 'it returns false'. Refute it at one input. -/
def ckptCrashWrong : ChangeSpec := { name := "ckptCrash", fn := fun _ => fun
  | [d1, d2, d3, d4] => { results := [.lit (.bool false)], args := [d1, d2, d3, d4] }
  | _ => none }
def CkptCrashWrongFalsely : Prop := ckptCrashRow.holds Try.pinned (OpenSpec.ofChange ckptCrashWrong)

/-- 'bilgelaw11.CkptChain': WHATEVER THE INPUT: true; the input reads as it did. -/
def ckptChainSpec : ChangeSpec := { name := "ckptChain", fn := fun _ => fun
  | [d] => { results := [.lit (.bool true)], args := [d] }
  | _ => none }
def ckptChainRow : OpenClaim := { program := "ytnaidihoijociaa", sum := "0edf85000eee91bbed6487c8b885bf2ebe755b2e121a87690ff8b13d2836923c", func := "bilge/bilgelaw11.CkptChain", spec := "ckptChain", inPlace := ["maps.clone"], unfollowed := true, recurses := true, apart := false }
def CkptChainSaid : Prop := ckptChainRow.holds Try.pinned (OpenSpec.ofChange ckptChainSpec)

/-- ITS FALSE NEIGHBOUR: 'it returns false'. Refute it at one input. -/
def ckptChainWrong : ChangeSpec := { name := "ckptChain", fn := fun _ => fun
  | [d] => { results := [.lit (.bool false)], args := [d] }
  | _ => none }
def CkptChainWrongFalsely : Prop := ckptChainRow.holds Try.pinned (OpenSpec.ofChange ckptChainWrong)

/- THE SECOND FORM. 'bulk': how many values and letters a reading holds, each counted each time it is reached (what is shared counts as often as it is met; a slice's spare places count too). A statement '..UptoSaid' is the law's where the arguments, and the package variables that the reading takes, are together of bulk at most 1048576: NARROWER than '..Said'. Prove '..Said' where nothing that the law and all that it calls make is longer than what came in: it says more and counts as full. Else prove '..UptoSaid'. A law counts once. -/
mutual
def uptoBulk {H : Type} : DataW H → Nat
  | .lit (.string bytes) => bytes.length + 1
  | .lit _ => 1
  | .nil => 1
  | .ptr d => uptoBulk d + 1
  | .slice elems spare => uptoBulkAll elems + uptoBulkAll spare + 1
  | .agg parts => uptoBulkAll parts + 1
  | .iface _ d => uptoBulk d + 1
  | .map entries => uptoBulkEntries entries + 1
  | .held _ => 1
def uptoBulkAll {H : Type} : List (DataW H) → Nat
  | [] => 0
  | d :: r => uptoBulk d + uptoBulkAll r
def uptoBulkEntries {H : Type} : List (Lit × DataW H) → Nat
  | [] => 0
  | x :: r => uptoBulkEntry x + uptoBulkEntries r
def uptoBulkEntry {H : Type} : Lit × DataW H → Nat
  | (.string bytes, d) => bytes.length + uptoBulk d + 1
  | (_, d) => uptoBulk d + 1
 end
def uptoSmall : (H : Type) → List (DataW H) → Bool := fun _ ds => decide (uptoBulkAll ds ≤ 1048576)
def OpenSpec.upto (s : _root_.Go.ChangeSpec) : _root_.Go.OpenSpec := { _root_.Go.OpenSpec.ofChange s with cond := some uptoSmall }

/-- 'bilgelaw10.DiskKeeps', WHERE WHAT IT READS IS OF BULK AT MOST 1048576: true; the input reads as it did. -/
def diskKeepsUptoRow : OpenClaim := { program := "ytnaidihoijociaa", sum := "0edf85000eee91bbed6487c8b885bf2ebe755b2e121a87690ff8b13d2836923c", func := "bilge/bilgelaw10.DiskKeeps", spec := "diskKeeps", inPlace := ["maps.clone"], unfollowed := true, recurses := true, apart := false, narrowed := true }
def DiskKeepsUptoSaid : Prop := diskKeepsUptoRow.holds Try.pinned (OpenSpec.upto diskKeepsSpec)

/-- 'bilgelaw10.DiskMoves', WHERE WHAT IT READS IS OF BULK AT MOST 1048576: true; the input reads as it did. -/
def diskMovesUptoRow : OpenClaim := { program := "ytnaidihoijociaa", sum := "0edf85000eee91bbed6487c8b885bf2ebe755b2e121a87690ff8b13d2836923c", func := "bilge/bilgelaw10.DiskMoves", spec := "diskMoves", inPlace := ["maps.clone"], unfollowed := true, recurses := true, apart := false, narrowed := true }
def DiskMovesUptoSaid : Prop := diskMovesUptoRow.holds Try.pinned (OpenSpec.upto diskMovesSpec)

/-- 'bilgelaw10.DiskTorn', WHERE WHAT IT READS IS OF BULK AT MOST 1048576: true; the input reads as it did. -/
def diskTornUptoRow : OpenClaim := { program := "ytnaidihoijociaa", sum := "0edf85000eee91bbed6487c8b885bf2ebe755b2e121a87690ff8b13d2836923c", func := "bilge/bilgelaw10.DiskTorn", spec := "diskTorn", inPlace := ["maps.clone"], unfollowed := true, recurses := true, apart := false, narrowed := true }
def DiskTornUptoSaid : Prop := diskTornUptoRow.holds Try.pinned (OpenSpec.upto diskTornSpec)

/-- 'bilgelaw10.DiskModel', WHERE WHAT IT READS IS OF BULK AT MOST 1048576: true; the input reads as it did. -/
def diskModelUptoRow : OpenClaim := { program := "ytnaidihoijociaa", sum := "0edf85000eee91bbed6487c8b885bf2ebe755b2e121a87690ff8b13d2836923c", func := "bilge/bilgelaw10.DiskModel", spec := "diskModel", inPlace := ["maps.clone"], unfollowed := true, recurses := true, apart := false, narrowed := true }
def DiskModelUptoSaid : Prop := diskModelUptoRow.holds Try.pinned (OpenSpec.upto diskModelSpec)

/-- 'bilgelaw10.DiskCrash', WHERE WHAT IT READS IS OF BULK AT MOST 1048576: true; the input reads as it did. -/
def diskCrashUptoRow : OpenClaim := { program := "ytnaidihoijociaa", sum := "0edf85000eee91bbed6487c8b885bf2ebe755b2e121a87690ff8b13d2836923c", func := "bilge/bilgelaw10.DiskCrash", spec := "diskCrash", inPlace := ["maps.clone"], unfollowed := true, recurses := true, apart := false, narrowed := true }
def DiskCrashUptoSaid : Prop := diskCrashUptoRow.holds Try.pinned (OpenSpec.upto diskCrashSpec)

/-- 'bilgelaw11.CkptOpens', WHERE WHAT IT READS IS OF BULK AT MOST 1048576: true; the input reads as it did. -/
def ckptOpensUptoRow : OpenClaim := { program := "ytnaidihoijociaa", sum := "0edf85000eee91bbed6487c8b885bf2ebe755b2e121a87690ff8b13d2836923c", func := "bilge/bilgelaw11.CkptOpens", spec := "ckptOpens", inPlace := ["maps.clone"], unfollowed := true, recurses := true, apart := false, narrowed := true }
def CkptOpensUptoSaid : Prop := ckptOpensUptoRow.holds Try.pinned (OpenSpec.upto ckptOpensSpec)

/-- 'bilgelaw11.CkptKeeps', WHERE WHAT IT READS IS OF BULK AT MOST 1048576: true; the input reads as it did. -/
def ckptKeepsUptoRow : OpenClaim := { program := "ytnaidihoijociaa", sum := "0edf85000eee91bbed6487c8b885bf2ebe755b2e121a87690ff8b13d2836923c", func := "bilge/bilgelaw11.CkptKeeps", spec := "ckptKeeps", inPlace := ["maps.clone"], unfollowed := true, recurses := true, apart := false, narrowed := true }
def CkptKeepsUptoSaid : Prop := ckptKeepsUptoRow.holds Try.pinned (OpenSpec.upto ckptKeepsSpec)

/-- 'bilgelaw11.CkptSaves', WHERE WHAT IT READS IS OF BULK AT MOST 1048576: true; the input reads as it did. -/
def ckptSavesUptoRow : OpenClaim := { program := "ytnaidihoijociaa", sum := "0edf85000eee91bbed6487c8b885bf2ebe755b2e121a87690ff8b13d2836923c", func := "bilge/bilgelaw11.CkptSaves", spec := "ckptSaves", inPlace := ["maps.clone"], unfollowed := true, recurses := true, apart := false, narrowed := true }
def CkptSavesUptoSaid : Prop := ckptSavesUptoRow.holds Try.pinned (OpenSpec.upto ckptSavesSpec)

/-- 'bilgelaw11.CkptCrash', WHERE WHAT IT READS IS OF BULK AT MOST 1048576: true; the input reads as it did. -/
def ckptCrashUptoRow : OpenClaim := { program := "ytnaidihoijociaa", sum := "0edf85000eee91bbed6487c8b885bf2ebe755b2e121a87690ff8b13d2836923c", func := "bilge/bilgelaw11.CkptCrash", spec := "ckptCrash", inPlace := ["maps.clone"], unfollowed := true, recurses := true, apart := false, narrowed := true }
def CkptCrashUptoSaid : Prop := ckptCrashUptoRow.holds Try.pinned (OpenSpec.upto ckptCrashSpec)

/-- 'bilgelaw11.CkptChain', WHERE WHAT IT READS IS OF BULK AT MOST 1048576: true; the input reads as it did. -/
def ckptChainUptoRow : OpenClaim := { program := "ytnaidihoijociaa", sum := "0edf85000eee91bbed6487c8b885bf2ebe755b2e121a87690ff8b13d2836923c", func := "bilge/bilgelaw11.CkptChain", spec := "ckptChain", inPlace := ["maps.clone"], unfollowed := true, recurses := true, apart := false, narrowed := true }
def CkptChainUptoSaid : Prop := ckptChainUptoRow.holds Try.pinned (OpenSpec.upto ckptChainSpec)

end Rows
end Go.Proofs.Ytnaidihoijociaa
