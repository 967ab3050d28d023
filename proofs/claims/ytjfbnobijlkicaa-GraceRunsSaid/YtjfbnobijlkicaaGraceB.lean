/- Words for arguments that are arrays; the plain law of layer 18 (grace): less of all. -/
import Derived.Test.YtjfbnobijlkicaaGraceA
namespace Go.Proofs.Ytjfbnobijlkicaa
open Go.RowKit
namespace Frame
theorem Arg.aggA {P : Program} {W : World} {t e : TypeId} {m : Nat} {v : Value} (h : Arg P W t v) (ht : P.underlying t = some (.array m e)) : ∃ cs : Array Value, v = .agg cs := by
  obtain ⟨H, enc, base, d, p, hv, hd, _⟩ := h
  simp only [Value.okWide, ht] at hv
  obtain ⟨cs, rfl, _⟩ := hv
  exact ⟨cs, rfl⟩
theorem Arg.three {P : Program} {W : World} {t e : TypeId} {k : IntKind} {v : Value} (h : Arg P W t v) (ht : P.underlying t = some (.array 3 e)) (he : P.underlying e = some (.int k)) (hc : P.cellsOf e = 1) (hc3 : P.cellsOf t = 3) :
    ∃ x0 x1 x2 : Int, v = .agg #[.int k x0, .int k x1, .int k x2] ∧ (Lit.int k x0).wf = true ∧ (Lit.int k x1).wf = true ∧ (Lit.int k x2).wf = true := by
  obtain ⟨cs, rfl⟩ := h.aggA ht
  obtain ⟨hl, hf⟩ := h.dat.array ht
  rw [hc3] at hl
  rw [hc] at hf
  have hvs : (Value.agg cs).cells.toList = cs.toList := rfl
  rw [hvs] at hl hf
  obtain ⟨vs, hvs2⟩ : ∃ vs, vs = cs.toList := ⟨_, rfl⟩
  rw [← hvs2] at hl hf
  match vs, hl with
  | [y0, y1, y2], _ =>
    obtain ⟨x0, e0, b0⟩ := (hf 0 (by decide)).int he
    obtain ⟨x1, e1, b1⟩ := (hf 1 (by decide)).int he
    obtain ⟨x2, e2, b2⟩ := (hf 2 (by decide)).int he
    simp only [List.drop_zero, List.drop_succ_cons, List.take_succ_cons, List.take_zero, List.cons.injEq, and_true, Nat.zero_mul, Nat.one_mul] at e0 e1 e2
    subst e0 e1 e2
    refine ⟨x0, x1, x2, ?_, b0, b1, b2⟩
    congr 1
    exact Array.toList_inj.1 hvs2.symm
end Frame
namespace Grc
theorem num_mono {a b : Int} (h : a ≤ b) : Sat.num a ≤ Sat.num b := by unfold Sat.num; (repeat' split) <;> omega
/-- less available: what was met is met -/
theorem metT_less {t : ThrV} {cap a b : Int} (h : b ≤ a) (hm : metT t cap a = true) : metT t cap b = true := by
  unfold metT at hm ⊢
  split at hm
  · rw [if_pos (by assumption)]
    rw [Wide.below_iff] at hm ⊢
    simp only [decide_eq_true_eq] at hm ⊢
    have := num_mono h
    omega
  · rw [if_neg (by assumption)]
    simp only [decide_eq_true_eq] at hm ⊢
    omega
theorem pick_less {x0 x1 x2 y0 y1 y2 s : Int} (h0 : y0 ≤ x0) (h1 : y1 ≤ x1) (h2 : y2 ≤ x2) : pick3 y0 y1 y2 s ≤ pick3 x0 x1 x2 s := by
  unfold pick3; (repeat' split) <;> assumption
theorem metC_less {k0 k1 k2 x0 x1 x2 y0 y1 y2 : Int} {t : ThrV} (h0 : y0 ≤ x0) (h1 : y1 ≤ x1) (h2 : y2 ≤ x2) (hm : metC k0 k1 k2 x0 x1 x2 t = true) : metC k0 k1 k2 y0 y1 y2 t = true :=
  metT_less (pick_less h0 h1 h2) hm
theorem stepZ_fit {m : Bool} {z round : Int} (h0 : 0 ≤ round) (hz : -1 ≤ z ∧ z ≤ round) : -1 ≤ stepZ m z round ∧ stepZ m z round ≤ round := by
  unfold stepZ; (repeat' split) <;> omega
theorem stepL_fit {ms : List Bool} {zs : List Int} {round : Int} (h0 : 0 ≤ round) (hz : FitZ zs round) : FitZ (stepL ms zs round) round := by
  intro y hy
  unfold stepL at hy
  obtain ⟨i, hi, rfl⟩ := List.mem_iff_getElem.1 hy
  simp only [List.getElem_zipWith]
  exact stepZ_fit h0 (hz _ (List.getElem_mem _))
theorem stepL_len {ms : List Bool} {zs : List Int} {round : Int} (h : ms.length = zs.length) : (stepL ms zs round).length = zs.length := by simp [stepL, h]
/-- what holds was met -/
theorem hold_met {t : ThrV} {m : Bool} {z round : Int} (h : holdZ t (stepZ m z round) round = true) : m = true := by
  cases m with
  | true => rfl
  | false => simp [holdZ, stepZ] at h
/-- of three rows of bools, place by place: x is y, m is n, x is m -/
structure LessAt (X Y M N : List Bool) (k : Nat) : Prop where
  xy : X.getD k false = true → Y.getD k false = true
  mn : M.getD k false = true → N.getD k false = true
  xm : X.getD k false = true → M.getD k false = true
theorem holdL_at (p : CfgV) (ths : List ThrV) (zs : List Int) (round x0 x1 x2 : Int) (k : Nat) (hk : k < ths.length) (hz : k < zs.length) :
    (holdL ths (stepL (metL p x0 x1 x2 ths) zs round) round).getD k false = holdZ ths[k] (stepZ (metC p.c0 p.c1 p.c2 x0 x1 x2 ths[k]) zs[k] round) round := by
  have hk2 : k < (holdL ths (stepL (metL p x0 x1 x2 ths) zs round) round).length := by simp [holdL, stepL, metL]; omega
  rw [List.getD_eq_getElem?_getD, List.getElem?_eq_getElem hk2]
  simp [holdL, stepL, metL]
theorem less_at (p : CfgV) (ths : List ThrV) (zs : List Int) (round x0 x1 x2 y0 y1 y2 : Int) (hl : ths.length = zs.length) (h0 : y0 ≤ x0) (h1 : y1 ≤ x1) (h2 : y2 ≤ x2) (k : Nat) (hk : k < ths.length) :
    LessAt (holdL ths (stepL (metL p x0 x1 x2 ths) zs round) round) (holdL ths (stepL (metL p y0 y1 y2 ths) zs round) round) (metL p x0 x1 x2 ths) (metL p y0 y1 y2 ths) k := by
  have hz : k < zs.length := by omega
  have e1 : (metL p x0 x1 x2 ths).getD k false = metC p.c0 p.c1 p.c2 x0 x1 x2 ths[k] := by simp [metL, List.getD_eq_getElem?_getD, hk]
  have e2 : (metL p y0 y1 y2 ths).getD k false = metC p.c0 p.c1 p.c2 y0 y1 y2 ths[k] := by simp [metL, List.getD_eq_getElem?_getD, hk]
  have e3 : (holdL ths (stepL (metL p x0 x1 x2 ths) zs round) round).getD k false = holdZ ths[k] (stepZ (metC p.c0 p.c1 p.c2 x0 x1 x2 ths[k]) zs[k] round) round := by
    exact holdL_at p ths zs round x0 x1 x2 k hk hz
  have e4 : (holdL ths (stepL (metL p y0 y1 y2 ths) zs round) round).getD k false = holdZ ths[k] (stepZ (metC p.c0 p.c1 p.c2 y0 y1 y2 ths[k]) zs[k] round) round := by
    exact holdL_at p ths zs round y0 y1 y2 k hk hz
  refine ⟨?_, ?_, ?_⟩
  · rw [e3, e4]
    intro h
    have hm := hold_met h
    rw [hm] at h
    rw [metC_less h0 h1 h2 hm]; exact h
  · rw [e1, e2]
    exact metC_less h0 h1 h2
  · rw [e3, e1]
    exact hold_met
theorem sl_bool {w : World} {B n k : Nat} {A : Option Addr} {bs : List Bool} (h : Mem.Sl w B 1 A n (bs.map Value.bool)) (hk : k < n) :
    ∃ ad : Addr, A = some ad ∧ w.cell? (ad.add k) = some (.bool (bs.getD k false)) := by
  obtain ⟨ad, hl, e, _, hc⟩ := bool_at h hk
  exact ⟨ad, e, by rw [hc]; simp [List.getD_eq_getElem?_getD, hl]⟩
end Grc
end Go.Proofs.Ytjfbnobijlkicaa
