/- Words for rows of the call's own: read and written place by place. -/
import Derived.Test.YtjfbnobijlkicaaMem
import Derived.Laws.OwnMore
import Derived.Laws.MakeOwn
namespace Go.Proofs.Ytjfbnobijlkicaa
open Go.RowKit
namespace Rw
/-- the first k of l, then z -/
def part (l : List Value) (z : Value) (k : Nat) : List Value := l.take k ++ List.replicate (l.length - k) z
theorem part_zero (l : List Value) (z : Value) : part l z 0 = List.replicate l.length z := by simp [part]
theorem part_all (l : List Value) (z : Value) : part l z l.length = l := by simp [part]
theorem part_len (l : List Value) (z : Value) (k : Nat) (h : k ≤ l.length) : (part l z k).length = l.length := by simp [part]; omega
theorem part_set (l : List Value) (z : Value) (k : Nat) (h : k < l.length) : (part l z k).set k l[k] = part l z (k + 1) := by
  apply List.ext_getElem
  · simp [part]; omega
  · intro i h1 h2
    simp only [part, List.getElem_set, List.getElem_append, List.length_take]
    by_cases hk : k = i
    · subst hk
      have : k < min (k + 1) l.length := by omega
      simp [this]
    · rw [if_neg hk]
      by_cases hi : i < k
      · have e1 : i < min k l.length := by omega
        have e2 : i < min (k + 1) l.length := by omega
        simp [e1, e2]
      · have e1 : ¬ i < min k l.length := by omega
        have e2 : ¬ i < min (k + 1) l.length := by omega
        simp [e1, e2]
section
variable {w : World} {B n c k : Nat} {e : TypeId} {A : Option Addr} {xs : List Value}
theorem own_at (h : w.ownsRow B e 1 (.slice A n c) n xs) (hk : k < n) :
    ∃ (g : Nat) (hl : k < xs.length), A = some ⟨g, 0, none⟩ ∧ B ≤ g ∧ g < w.heap.size ∧ w.cell? ⟨g, k, none⟩ = some xs[k] ∧ w.frozen? ⟨g, k, none⟩ = false ∧
      ∀ y : Value, (w.setCell ⟨g, k, none⟩ y).ownsRow B e 1 (.slice A n c) n (xs.set k y) := by
  have hl : k < xs.length := by have := h.1; simp at this; omega
  rcases h.2 with ⟨_, h0⟩ | ⟨g, cap, cur, hv, hg, hh, _⟩
  · omega
  · simp only [Value.slice.injEq, true_and] at hv
    obtain ⟨rfl, rfl⟩ := hv
    refine ⟨g, hl, rfl, hg, (Array.getElem?_eq_some_iff.1 hh).1, ?_, World.ownsRow.frozenAt h k, fun y => ?_⟩
    · rw [World.ownsRow.cellAt h k (by omega)]
      simp [hl]
    · exact (World.ownsRow.stored h k y).1
theorem own_le (h : w.ownsRow B e 1 (.slice A n c) n xs) : n ≤ c ∧ c ≤ maxLen := by
  obtain ⟨A', c', e, _, _, h1, h2⟩ := Mem.own_form h
  obtain ⟨rfl, _, rfl⟩ : A = A' ∧ n = n ∧ c = c' := by simpa using e
  exact ⟨h1, h2⟩
theorem own_sl (h : w.ownsRow B e 1 (.slice A n c) n xs) : Mem.Sl w w.heap.size 1 A n xs := by
  obtain ⟨A', c', e, hs, _⟩ := Mem.own_form h
  obtain ⟨rfl, _, rfl⟩ : A = A' ∧ n = n ∧ c = c' := by simpa using e
  exact hs
theorem own_below {w' : World} {B' : Nat} (h : w.ownsRow B e 1 (.slice A n c) n xs) (hb : Below B' w w') (hB : w.heap.size ≤ B') : w'.ownsRow B e 1 (.slice A n c) n xs := by
  obtain ⟨h1, h2⟩ := h
  refine ⟨h1, ?_⟩
  rcases h2 with h2 | ⟨g, cap, cur, hv, hg, hh, r⟩
  · exact .inl h2
  · have hlt := (Array.getElem?_eq_some_iff.1 hh).1
    exact .inr ⟨g, cap, cur, hv, hg, (hb.block g (by omega)).trans hh, r⟩
theorem own_far (h : w.ownsRow B e 1 (.slice A n c) n xs) {p : Addr} (hp : ∀ g, A = some ⟨g, 0, none⟩ → g ≠ p.block) (u : Value) : (w.setCell p u).ownsRow B e 1 (.slice A n c) n xs := by
  obtain ⟨h1, h2⟩ := h
  refine ⟨h1, ?_⟩
  rcases h2 with h2 | ⟨g, cap, cur, hv, hg, hh, r⟩
  · exact .inl h2
  · refine .inr ⟨g, cap, cur, hv, hg, ?_, r⟩
    simp only [Value.slice.injEq, true_and] at hv
    rw [Below.heap_setCell _ _ _ _ (hp g hv.1)]
    exact hh
theorem own_low {B' : Nat} (h : w.ownsRow B' e 1 (.slice A n c) n xs) (hb : B ≤ B') : w.ownsRow B e 1 (.slice A n c) n xs := by
  obtain ⟨h1, h2⟩ := h
  refine ⟨h1, ?_⟩
  rcases h2 with h2 | ⟨g, cap, cur, hv, hg, r⟩
  · exact .inl h2
  · exact .inr ⟨g, cap, cur, hv, by omega, r⟩
end
end Rw
end Go.Proofs.Ytjfbnobijlkicaa
