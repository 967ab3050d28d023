/- Words for bytes of the call's own: a byte read, a byte written. -/
import Derived.Test.YtnaidihoijociaaSumA
import Derived.Deep.DeepCutAuto
namespace Go.Proofs.Ytnaidihoijociaa
open Go.RowKit Bs
namespace Crc
theorem Own.at_ {w : World} {B : Nat} {A : Option Addr} {n c k : Nat} {bs : List Byte} (h : Own w B A n c bs) (hk : k < n) :
    ∃ (g : Nat) (b : Byte) (hl : k < bs.length), A = some ⟨g, 0, none⟩ ∧ B ≤ g ∧ g < w.heap.size ∧ bs[k] = b ∧ w.cell? ⟨g, k, none⟩ = some (.int .u8 (n8 b)) ∧ w.frozen? ⟨g, k, none⟩ = false ∧
      ∀ y : Byte, Own (w.setCell ⟨g, k, none⟩ (.int .u8 (n8 y))) B A n c (bs.set k y) := by
  have hl : k < bs.length := by have := h.1; simp at this; omega
  rcases h.2 with ⟨_, h0⟩ | ⟨g, cap, cur, hv, hg, hh, _⟩
  · omega
  · simp only [Value.slice.injEq, true_and] at hv
    obtain ⟨rfl, rfl⟩ := hv
    refine ⟨g, bs[k], hl, rfl, hg, (Array.getElem?_eq_some_iff.1 hh).1, rfl, ?_, World.ownsRow.frozenAt h k, fun y => ?_⟩
    · rw [World.ownsRow.cellAt h k (by omega)]
      simp [bv, n8, hl]
    · have := (World.ownsRow.stored h k (.int .u8 (n8 y))).1
      rw [show (bs.map bv).set k (.int .u8 (n8 y)) = (bs.set k y).map bv from by rw [List.map_set]; rfl] at this
      exact this
theorem Own.far {w : World} {B : Nat} {A : Option Addr} {n c : Nat} {bs : List Byte} (h : Own w B A n c bs) {p : Addr} (hp : ∀ g, A = some ⟨g, 0, none⟩ → g ≠ p.block) (u : Value) : Own (w.setCell p u) B A n c bs := by
  obtain ⟨h1, h2⟩ := h
  refine ⟨h1, ?_⟩
  rcases h2 with h2 | ⟨g, cap, cur, hv, hg, hh, r⟩
  · exact .inl h2
  · refine .inr ⟨g, cap, cur, hv, hg, ?_, r⟩
    simp only [Value.slice.injEq, true_and] at hv
    rw [Below.heap_setCell _ _ _ _ (hp g hv.1)]
    exact hh
theorem Own.lt {w : World} {B : Nat} {A : Option Addr} {n c : Nat} {bs : List Byte} (h : Own w B A n c bs) : ∀ g, A = some ⟨g, 0, none⟩ → B ≤ g ∧ g < w.heap.size := by
  intro g hg
  subst hg
  exact World.ownsRow.lt h g rfl
/-- two slices that lie in blocks of their own -/
def Sep (A A' : Option Addr) : Prop := ∀ a a', A = some a → A' = some a' → a.block ≠ a'.block
theorem Sep.symm {A A' : Option Addr} (h : Sep A A') : Sep A' A := fun a a' e e' => Ne.symm (h a' a e' e)
theorem Sep.none_left (A : Option Addr) : Sep none A := fun _ _ e => by cases e
theorem Own.blk {w : World} {B : Nat} {A : Option Addr} {n c : Nat} {bs : List Byte} (h : Own w B A n c bs) : ∀ a, A = some a → B ≤ a.block ∧ a.block < w.heap.size := by
  intro a ha
  subst ha
  exact World.ownsRow.lt h a.block rfl
theorem Own.keep {w w' : World} {B n c n' c' : Nat} {A A' : Option Addr} {bs : List Byte} (h : Own w B A n c bs) (hg : w.grownBy w' (Value.slice A' n' c').ownBlock) (hs : Sep A A') : Own w' B A n c bs := by
  refine World.ownsRow.kept h hg ?_
  rcases A with _ | a
  · exact .inl rfl
  · refine .inr ?_
    rcases A' with _ | a'
    · simp [Value.ownBlock]
    · simp only [Value.ownBlock, ne_eq, Option.some.injEq]
      exact hs a a' rfl rfl
theorem Sep.step {w : World} {B n c n' c' m d : Nat} {A A' A2 : Option Addr} {bs : List Byte} (hs : Sep A A2) (h2 : Own w B A2 m d bs)
    (hat : (Value.slice A' n' c').ownBlock = (Value.slice A n c).ownBlock ∨ (Value.slice A' n' c').ownBlock = some w.heap.size) : Sep A' A2 := by
  intro a a2 e e2
  subst e
  have hlt := (h2.blk a2 e2).2
  rcases hat with hat | hat
  · rcases A with _ | a0
    · simp [Value.ownBlock] at hat
    · simp only [Value.ownBlock, Option.some.injEq] at hat
      rw [hat]; exact hs a0 a2 rfl e2
  · simp only [Value.ownBlock, Option.some.injEq] at hat
    omega
end Crc
end Go.Proofs.Ytnaidihoijociaa
