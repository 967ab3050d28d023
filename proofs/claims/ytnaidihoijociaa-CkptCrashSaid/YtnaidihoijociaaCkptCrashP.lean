/- bilgelaw11.CkptCrash: for every input the call returns true, and what came in reads as it did. No condition. -/
import Derived.Test.YtnaidihoijociaaCkptCrash
import Derived.Test.YtnaidihoijociaaFrame
namespace Go.Proofs.Ytnaidihoijociaa.ckptCrash
open Go.ChangeShapes Go.WideShapes Go.ChangeAt Go.RowKit
theorem own : ownKnob Try.prog.godebug = none := by kernel_rfl
theorem laidOut : laidOutB Try.prog = true := by kernel_rfl
theorem spec_ok (H : Type) (ds : List (DataW H)) (h : ds.length = 4) : (Rows.ckptCrashSpec.fn H ds).results = [.lit (.bool true)] ∧ (Rows.ckptCrashSpec.fn H ds).args = ds ∧ (Rows.ckptCrashSpec.fn H ds).vars = [] := by
  match ds, h with
  | [d1, d2, d3, d4], _ => exact ⟨rfl, rfl, rfl⟩
theorem walk_list (W : World) (vs : List Value) (hn : vs.length = 4) (h : Frame.Args Try.prog W Try.f11.params.toList vs) :
    Calls Try.prog 11 vs.toArray W fun e w' => e = .returned (.bool true) ∧ Below W.heap.size W w' := by
  rw [Try.params11] at h
  match vs, hn, h with
  | [v1, v2, v3, v4], _, ⟨h1, h2, h3, h4, _⟩ => exact walk v1 v2 v3 v4 W h1 h2 h3 h4
theorem walk_all (W : World) (args : Array Value) (hn : args.size = 4) (h : Frame.Args Try.prog W Try.f11.params.toList args.toList) :
    Calls Try.prog 11 args W fun e w' => e = .returned (.bool true) ∧ Below W.heap.size W w' := by
  obtain ⟨l⟩ := args
  exact walk_list W l hn h
set_option maxRecDepth 100000 in
theorem lifted (os : Os) (started : os.Started) (H : Type) (enc : TypeId × Value → H) :
    ReturnsInHanded {} Try.checked os 11 .any (Rows.ckptCrashSpec.pre6 enc Try.prog Try.f11 Rows.ckptCrashRow.domain false) (Rows.ckptCrashSpec.post enc Try.prog Try.f11 false true false false) := by
  refine returnsInHanded_of_change (C := Try.checked) own started (by kernel_rfl) Try.func11
    (ChangeSpec.witness6 (enc := enc) (C := Try.checked) false ⟨#[], #[.slice none 0 0, .slice none 0 0, .int .i64 0, .slice none 0 0], []⟩ 8 (by kernel_rfl) (by kernel_rfl) (by kernel_rfl) (by kernel_rfl)) ?_
  intro W base args ds gs before hval hW _ _
  exact Frame.close rfl laidOut (by kernel_rfl) (tb := 4) rfl Try.underlying4 (fun ds h => spec_ok H ds h) hval hW (fun h hsz => walk_all W args hsz h)
theorem over : Rows.ckptCrashRow.holds Try.pinned (OpenSpec.ofChange Rows.ckptCrashSpec) :=
  OpenClaim.holds_of_wide 11 Try.f11 rfl rfl rfl rfl rfl rfl rfl ⟨rfl, rfl, rfl, rfl, rfl⟩ rfl rfl rfl rfl rfl (by kernel_rfl) Try.func11 (by kernel_rfl)
    (of_decide_eq_true (by kernel_rfl)) (by unfold Func.isWrapper; first | (rw [if_pos (by decide +kernel)]; kernel_rfl) | (rw [if_neg (by decide +kernel)]; exact ⟨rfl, rfl⟩))
    (fun os started H enc _ => lifted os started H enc)
theorem proved : Rows.CkptCrashSaid := over
#print axioms proved
end Go.Proofs.Ytnaidihoijociaa.ckptCrash
