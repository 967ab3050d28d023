/- bilgelaw11.CkptChain: for every input the call returns true, and what came in reads as it did. No condition. -/
import Derived.Test.YtnaidihoijociaaCkptChain
import Derived.Test.YtnaidihoijociaaFrame
namespace Go.Proofs.Ytnaidihoijociaa.ckptChain
open Go.ChangeShapes Go.WideShapes Go.ChangeAt Go.RowKit
theorem own : ownKnob Try.prog.godebug = none := by kernel_rfl
theorem laidOut : laidOutB Try.prog = true := by kernel_rfl
theorem spec_ok (H : Type) (ds : List (DataW H)) (h : ds.length = 1) : (Rows.ckptChainSpec.fn H ds).results = [.lit (.bool true)] ∧ (Rows.ckptChainSpec.fn H ds).args = ds ∧ (Rows.ckptChainSpec.fn H ds).vars = [] := by
  match ds, h with
  | [d1], _ => exact ⟨rfl, rfl, rfl⟩
theorem walk_list (W : World) (vs : List Value) (hn : vs.length = 1) (h : Frame.Args Try.prog W Try.f12.params.toList vs) :
    Calls Try.prog 12 vs.toArray W fun e w' => e = .returned (.bool true) ∧ Below W.heap.size W w' := by
  rw [Try.params12] at h
  match vs, hn, h with
  | [v1], _, ⟨h1, _⟩ => exact walk v1 W h1
theorem walk_all (W : World) (args : Array Value) (hn : args.size = 1) (h : Frame.Args Try.prog W Try.f12.params.toList args.toList) :
    Calls Try.prog 12 args W fun e w' => e = .returned (.bool true) ∧ Below W.heap.size W w' := by
  obtain ⟨l⟩ := args
  exact walk_list W l hn h
set_option maxRecDepth 100000 in
theorem lifted (os : Os) (started : os.Started) (H : Type) (enc : TypeId × Value → H) :
    ReturnsInHanded {} Try.checked os 12 .any (Rows.ckptChainSpec.pre6 enc Try.prog Try.f12 Rows.ckptChainRow.domain false) (Rows.ckptChainSpec.post enc Try.prog Try.f12 false true false false) := by
  refine returnsInHanded_of_change (C := Try.checked) own started (by kernel_rfl) Try.func12
    (ChangeSpec.witness6 (enc := enc) (C := Try.checked) false ⟨#[], #[.slice none 0 0], []⟩ 8 (by kernel_rfl) (by kernel_rfl) (by kernel_rfl) (by kernel_rfl)) ?_
  intro W base args ds gs before hval hW _ _
  exact Frame.close rfl laidOut (by kernel_rfl) (tb := 4) rfl Try.underlying4 (fun ds h => spec_ok H ds h) hval hW (fun h hsz => walk_all W args hsz h)
theorem over : Rows.ckptChainRow.holds Try.pinned (OpenSpec.ofChange Rows.ckptChainSpec) :=
  OpenClaim.holds_of_wide 12 Try.f12 rfl rfl rfl rfl rfl rfl rfl ⟨rfl, rfl, rfl, rfl, rfl⟩ rfl rfl rfl rfl rfl (by kernel_rfl) Try.func12 (by kernel_rfl)
    (of_decide_eq_true (by kernel_rfl)) (by unfold Func.isWrapper; first | (rw [if_pos (by decide +kernel)]; kernel_rfl) | (rw [if_neg (by decide +kernel)]; exact ⟨rfl, rfl⟩))
    (fun os started H enc _ => lifted os started H enc)
theorem proved : Rows.CkptChainSaid := over
#print axioms proved
end Go.Proofs.Ytnaidihoijociaa.ckptChain
