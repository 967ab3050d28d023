/- Words for cells that read as slices of plain things: bools, texts, numbers. -/
import Derived.Test.YtnaidihoijociaaFrame
namespace Go.Proofs.Ytnaidihoijociaa
open Go.RowKit
namespace Frame
section
variable {P : Program} {W : World} {t e : TypeId} {cs : List Value}
/-- cells of a slice whose elements are one cell each, each of a kind -/
theorem Dat.ones {α : Type} {f : α → Value} {ok : α → Prop} (h : Dat P W t cs) (ht : P.underlying t = some (.slice e)) (hc : P.cellsOf e = 1) (hf : ∀ xs, Dat P W e xs → ∃ a, xs = [f a] ∧ ok a) :
    ∃ (A : Option Addr) (n c : Nat) (ls : List α), cs = [.slice A n c] ∧ n ≤ c ∧ c ≤ maxLen ∧ ls.length = n ∧ (∀ a ∈ ls, ok a) ∧ Mem.Sl W W.heap.size 1 A n (ls.map f) := by
  obtain ⟨A, n, c, xss, hcs, h1, h2, h3, h4, h5, _⟩ := h.slice ht hc (by omega)
  have key : ∀ xss : List (List Value), (∀ xs ∈ xss, xs.length = 1 ∧ Dat P W e xs) → ∃ ls : List α, ls.length = xss.length ∧ (∀ a ∈ ls, ok a) ∧ xss.flatten = ls.map f := by
    intro xss
    induction xss with
    | nil => intro _; exact ⟨[], rfl, by simp, rfl⟩
    | cons xs xss ih =>
      intro hx
      obtain ⟨ls, hb1, hb2, hb3⟩ := ih (fun y hy => hx y (by simp [hy]))
      obtain ⟨a, rfl, ha⟩ := hf _ (hx xs (by simp)).2
      exact ⟨a :: ls, by simp [hb1], by simpa using ⟨ha, hb2⟩, by simp [hb3]⟩
  obtain ⟨ls, hb1, hb2, hb3⟩ := key xss h4
  exact ⟨A, n, c, ls, hcs, h1, h2, by omega, hb2, by rw [← hb3]; exact h5⟩
theorem Dat.bools (h : Dat P W t cs) (ht : P.underlying t = some (.slice e)) (he : P.underlying e = some .bool) (hc : P.cellsOf e = 1) :
    ∃ (A : Option Addr) (n c : Nat) (ls : List Bool), cs = [.slice A n c] ∧ n ≤ c ∧ c ≤ maxLen ∧ ls.length = n ∧ (∀ a ∈ ls, True) ∧ Mem.Sl W W.heap.size 1 A n (ls.map Value.bool) :=
  h.ones ht hc (fun _ hx => by obtain ⟨b, rfl⟩ := hx.bool he; exact ⟨b, rfl, trivial⟩)
theorem Dat.strs (h : Dat P W t cs) (ht : P.underlying t = some (.slice e)) (he : P.underlying e = some .string) (hc : P.cellsOf e = 1) :
    ∃ (A : Option Addr) (n c : Nat) (ls : List ByteArray), cs = [.slice A n c] ∧ n ≤ c ∧ c ≤ maxLen ∧ ls.length = n ∧ (∀ a ∈ ls, a.size ≤ maxLen) ∧ Mem.Sl W W.heap.size 1 A n (ls.map Value.string) :=
  h.ones ht hc (fun _ hx => by obtain ⟨b, rfl, hb⟩ := hx.string he; exact ⟨b, rfl, hb⟩)
theorem Dat.ints {k : IntKind} (h : Dat P W t cs) (ht : P.underlying t = some (.slice e)) (he : P.underlying e = some (.int k)) (hc : P.cellsOf e = 1) :
    ∃ (A : Option Addr) (n c : Nat) (ls : List Int), cs = [.slice A n c] ∧ n ≤ c ∧ c ≤ maxLen ∧ ls.length = n ∧ (∀ a ∈ ls, (Lit.int k a).wf = true) ∧ Mem.Sl W W.heap.size 1 A n (ls.map (Value.int k)) :=
  h.ones ht hc (fun _ hx => by obtain ⟨b, rfl, hb⟩ := hx.int he; exact ⟨b, rfl, hb⟩)
end
end Frame
end Go.Proofs.Ytnaidihoijociaa
