/- Regions whose order is open, by hand: all that yields its value in every world of a class is taken first, in one go (what a guard leaves out, too); the rest step by step. -/
import Derived.Test.YtnaidihoijociaaMem
import Derived.Deep.RegionHeld3
import Derived.Deep.Quiet
namespace Go.Proofs.Ytnaidihoijociaa
open Go.RowKit
namespace Reg
section
variable {P : Program} {ops : Array Oper} {Q : Exit → Act → World → Prop} {S : World → Prop}
/-- operations that yield their values in every world of the class, one behind the other -/
def det (P : Program) (ops : Array Oper) (S : World → Prop) (K : Act → Prop) : List Nat → Act → Prop
  | [], a => K a
  | i :: rest, a => match ops[i]? with
    | none => False
    | some o => if Region.wanted o (yielded ops a.tmps) then ∃ v, (∀ w, S w → (execOp a.eval o).run P w = .ok (.value v) w) ∧ det P ops S K rest (a.put o.dst v) else det P ops S K rest (a.put o.dst undef)
/-- each of them may come up, and nobody minds -/
def takeB (ops : Array Oper) : List Nat → Array Bool → Bool
  | [], _ => true
  | i :: rest, L => Region.free .any ops L i && (Region.ready .any ops L).contains i && takeB ops rest (L.setIfInBounds i true)
def setAll : List Nat → Array Bool → Array Bool
  | [], L => L
  | i :: rest, L => setAll rest (L.setIfInBounds i true)
theorem takes_det (hs : Region.noSelect ops = true) (hQ : ∀ c a d v w, Q (.panic c) (a.put d v) w → Q (.panic c) a w) {w : World} (hS : S w) {n : Nat} :
    ∀ (l : List Nat) (L : Array Bool) (a : Act), takeB ops l L = true → det P ops S (fun a' => wpAnyH P .any ops Q S n (setAll l L) a' w) l a → wpAnyH P .any ops Q S (n + l.length) L a w
  | [], L, a, _, h => h
  | i :: rest, L, a, hB, h => by
    simp only [takeB, Bool.and_eq_true] at hB
    obtain ⟨⟨hf, hr⟩, hB'⟩ := hB
    unfold det at h
    split at h
    · exact h.elim
    · rename_i o ho
      rw [List.length_cons, ← Nat.add_assoc]
      split at h
      · rename_i hw
        obtain ⟨v, hv, h'⟩ := h
        exact wpAnyH_take ho hs hf hr (fun c a w h => hQ c a _ _ w h) (.inl ⟨hw, hv⟩) hS (takes_det hs hQ hS rest _ _ hB' h')
      · rename_i hw
        exact wpAnyH_take ho hs hf hr (fun c a w h => hQ c a _ _ w h) (.inr ⟨by simpa using hw, rfl⟩) hS (takes_det hs hQ hS rest _ _ hB' h)
/-- the same, behind a name that nothing opens -/
structure Det (P : Program) (ops : Array Oper) (S : World → Prop) (K : Act → Prop) (l : List Nat) (a : Act) : Prop where
  out : det P ops S K l a
theorem takes (hs : Region.noSelect ops = true) (hQ : ∀ c a d v w, Q (.panic c) (a.put d v) w → Q (.panic c) a w) {w : World} (hS : S w) {n : Nat}
    (l : List Nat) (L : Array Bool) (a : Act) (hB : takeB ops l L = true) (h : Det P ops S (fun a' => wpAnyH P .any ops Q S n (setAll l L) a' w) l a) : wpAnyH P .any ops Q S (n + l.length) L a w :=
  takes_det hs hQ hS l L a hB h.out
theorem det_step {K : Act → Prop} {i : Nat} {rest : List Nat} {a : Act} {o : Oper} (ho : ops[i]? = some o)
    (h : ∀ K' : Act → Prop, (∀ a, Det P ops S K rest a → K' a) → if Region.wanted o (yielded ops a.tmps) then ∃ v, (∀ w, S w → (execOp a.eval o).run P w = .ok (.value v) w) ∧ K' (a.put o.dst v) else K' (a.put o.dst undef)) : Det P ops S K (i :: rest) a := by
  have := h (det P ops S K rest) (fun _ h => h.out)
  refine ⟨?_⟩
  unfold det
  rw [ho]
  exact this
theorem det_nil {K : Act → Prop} {a : Act} (h : K a) : Det P ops S K [] a := ⟨h⟩
theorem one {n i : Nat} {L : Array Bool} {a : Act} {w : World} (hr : Region.ready .any ops L = [i]) (h : wpOp P ops Q i (fun a' w' => S w' ∧ wpAnyH P .any ops Q S n (L.setIfInBounds i true) a' w') a w) :
    wpAnyH P .any ops Q S (n + 1) L a w := wpAnyH_all hr (by simp) (fun j hj => by rw [List.mem_singleton] at hj; subst hj; exact h)
theorem two {n i j : Nat} {L : Array Bool} {a : Act} {w : World} (hr : Region.ready .any ops L = [i, j]) (h : wpOp P ops Q i (fun a' w' => S w' ∧ wpAnyH P .any ops Q S n (L.setIfInBounds i true) a' w') a w)
    (h2 : wpOp P ops Q j (fun a' w' => S w' ∧ wpAnyH P .any ops Q S n (L.setIfInBounds j true) a' w') a w) :
    wpAnyH P .any ops Q S (n + 1) L a w := wpAnyH_all hr (by simp) (fun k hk => by
      rcases List.mem_cons.1 hk with rfl | hk
      · exact h
      · rw [List.mem_singleton] at hk; subst hk; exact h2)
theorem val {i : Nat} {o : Oper} {a : Act} {w w' : World} {v : Value} {K : Act → World → Prop} (ho : ops[i]? = some o) (hw : Region.wanted o (yielded ops a.tmps) = true)
    (hr : (execOp a.eval o).run P w = .ok (.value v) w') (hS : S w') (h : K (a.put o.dst v) w') : wpOp P ops Q i (fun a' w' => S w' ∧ K a' w') a w := by
  unfold wpOp
  simp only [ho, hw, if_true]
  refine .inl ?_
  unfold Oper.wp
  rw [hr]
  exact ⟨hS, h⟩
theorem skip {i : Nat} {o : Oper} {a : Act} {w w' : World} {K : Act → World → Prop} (ho : ops[i]? = some o) (hw : Region.wanted o (yielded ops a.tmps) = true)
    (hr : (execOp a.eval o).run P w = .ok .skip w') (hS : S w') (h : K (a.put o.dst undef) w') : wpOp P ops Q i (fun a' w' => S w' ∧ K a' w') a w := by
  unfold wpOp
  simp only [ho, hw, if_true]
  refine .inl ?_
  unfold Oper.wp
  rw [hr]
  exact ⟨hS, h⟩
theorem call {i : Nat} {o : Oper} {a : Act} {w : World} {f : FuncId} {args : Array Value} {K : Act → World → Prop} (ho : ops[i]? = some o) (hw : Region.wanted o (yielded ops a.tmps) = true)
    (hr : (execOp a.eval o).run P w = .ok (.enter f args) w) (h : Calls P f args w fun e w' => ∃ v, e = .returned v ∧ S w' ∧ K (a.put o.dst v) w') : wpOp P ops Q i (fun a' w' => S w' ∧ K a' w') a w := by
  unfold wpOp
  simp only [ho, hw, if_true]
  refine .inl ?_
  unfold Oper.wp
  rw [hr]
  show Calls P f args w _
  exact h.mono fun e w' ⟨v, he, hS, hK⟩ => by subst he; exact ⟨hS, hK⟩
theorem start {id : Nat} {a : Act} {w : World} (S : World → Prop) (hm : P.follows .mixedOrders = true)
    (h : wpAnyH P .any ops Q S ops.size (Array.replicate ops.size false) a w.drew) : (Code.region id ops true).wp P Q a w := wp_region_held hm h
end
end Reg
end Go.Proofs.Ytnaidihoijociaa
