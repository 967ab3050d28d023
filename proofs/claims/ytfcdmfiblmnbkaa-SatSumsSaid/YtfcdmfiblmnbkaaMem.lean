/- Words for memory: a slice that came in, read as a list of cells. -/
import Derived.WalkKit
import Derived.Below
import Derived.Laws.OwnMore
import Derived.Deep.Draws
import Derived.Lib.Hide
namespace Go.Proofs.Ytfcdmfiblmnbkaa
open Go.RowKit
namespace Mem
theorem add_block (a : Addr) (n : Nat) : (a.add n).block = a.block := by unfold Addr.add; split <;> rfl
theorem add_add (a : Addr) (i j : Nat) : (a.add i).add j = a.add (i + j) := by
  unfold Addr.add
  by_cases hi : i = 0 <;> by_cases hj : j = 0 <;> simp [hi, hj, Nat.add_assoc]
/-- from an address on lie just these cells -/
def Cells (w : World) (ad : Addr) (xs : List Value) : Prop := ∀ (j : Nat) (h : j < xs.length), w.cell? (ad.add j) = some xs[j]
/-- a slice's address, length and capacity: it holds these cells, of 'size' cells an element, below block B -/
def Sl (w : World) (B size : Nat) (A : Option Addr) (n : Nat) (xs : List Value) : Prop :=
  xs.length = n * size ∧ (0 < n → ∃ ad, A = some ad ∧ ad.block < B ∧ Cells w ad xs)
section
variable {w w' : World} {B B' size n : Nat} {A : Option Addr} {ad : Addr} {xs ys : List Value}
theorem Cells.keep (h : Cells w ad xs) (hk : ∀ p : Addr, p.block = ad.block → w'.cell? p = w.cell? p) : Cells w' ad xs :=
  fun j hj => (hk _ (add_block ad j)).trans (h j hj)
theorem add_zero_off (b i : Nat) : (Addr.add ⟨b, 0, none⟩ i) = ⟨b, i, none⟩ := by
  unfold Addr.add
  split
  · subst_vars; rfl
  · simp
theorem Cells.of_block {g : Nat} {cs : Array Value} {t : TypeId} {fz : Nat × Nat} (h : w.heap[g]? = some (.cells cs t fz)) : Cells w ⟨g, 0, none⟩ cs.toList := by
  intro j hj
  have hj' : j < cs.size := by simpa using hj
  rw [add_zero_off]
  simp [World.cell?, h, Array.getElem?_eq_getElem hj']
theorem Cells.new (w : World) (cs : Array Value) (t : TypeId) (fz : Nat × Nat) : Cells (w.alloc (.cells cs t fz)) ⟨w.heap.size, 0, none⟩ cs.toList :=
  Cells.of_block (heap_alloc_new w _)
theorem Sl.nil : Sl w B size A 0 [] := ⟨by simp, fun h => absurd h (by omega)⟩
theorem Sl.keep (h : Sl w B size A n xs) (hk : ∀ p : Addr, p.block < B → w'.cell? p = w.cell? p) : Sl w' B size A n xs :=
  ⟨h.1, fun hn => by
    obtain ⟨ad, e, hb, hc⟩ := h.2 hn
    exact ⟨ad, e, hb, hc.keep fun p hp => hk p (by omega)⟩⟩
theorem Sl.more (h : Sl w B size A n xs) (hB : B ≤ B') : Sl w B' size A n xs :=
  ⟨h.1, fun hn => by
    obtain ⟨ad, e, hb, hc⟩ := h.2 hn
    exact ⟨ad, e, by omega, hc⟩⟩
theorem Sl.below (h : Sl w B size A n xs) (hb : Below B w w') : Sl w' B size A n xs := h.keep fun _ hp => hb.cell hp
theorem Sl.drew (h : Sl w B size A n xs) : Sl w.drew B size A n xs := h
theorem Sl.drewN (h : Sl w B size A n xs) (k : Nat) : Sl (w.drewN k) B size A n xs := h
theorem Sl.alloc (h : Sl w B size A n xs) (hB : B ≤ w.heap.size) (o : Obj) : Sl (w.alloc o) B size A n xs := h.keep fun p hp => World.cell?_alloc_lt w o p (by omega)
theorem Sl.setCell (h : Sl w B size A n xs) {p : Addr} (hB : B ≤ p.block) (u : Value) : Sl (w.setCell p u) B size A n xs :=
  h.keep fun q hq => World.cell?_setCell_other w p q u (fun e => by subst e; omega)
theorem Sl.at_ {k : Nat} (h : Sl w B 1 A n xs) (hk : k < n) : ∃ (ad : Addr) (hl : k < xs.length), A = some ad ∧ ad.block < B ∧ w.cell? (ad.add k) = some xs[k] := by
  obtain ⟨ad, e, hb, hc⟩ := h.2 (by omega)
  have hl : k < xs.length := by have := h.1; omega
  exact ⟨ad, hl, e, hb, hc k hl⟩
end
/-- a slice of numbers that came in -/
def Ints (w : World) (B : Nat) (k : IntKind) (A : Option Addr) (n : Nat) (zs : List Int) : Prop := Sl w B 1 A n (zs.map (Value.int k))
section
variable {w w' : World} {B B' n : Nat} {A : Option Addr} {kd : IntKind} {zs : List Int}
theorem Ints.len (h : Ints w B kd A n zs) : zs.length = n := by have := h.1; simpa using this
theorem Ints.at_ {k : Nat} (h : Ints w B kd A n zs) (hk : k < n) : ∃ (ad : Addr) (z : Int) (hl : k < zs.length), A = some ad ∧ ad.block < B ∧ zs[k] = z ∧ w.cell? (ad.add k) = some (.int kd z) := by
  obtain ⟨ad, hl, e, hb, hc⟩ := Sl.at_ h hk
  exact ⟨ad, _, by simpa using hl, e, hb, rfl, by simpa using hc⟩
theorem Ints.keep (h : Ints w B kd A n zs) (hk : ∀ p : Addr, p.block < B → w'.cell? p = w.cell? p) : Ints w' B kd A n zs := Sl.keep h hk
theorem Ints.more (h : Ints w B kd A n zs) (hB : B ≤ B') : Ints w B' kd A n zs := Sl.more h hB
theorem Ints.below (h : Ints w B kd A n zs) (hb : Below B w w') : Ints w' B kd A n zs := Sl.below h hb
theorem Ints.alloc (h : Ints w B kd A n zs) (hB : B ≤ w.heap.size) (o : Obj) : Ints (w.alloc o) B kd A n zs := Sl.alloc h hB o
theorem Ints.nil : Ints w B kd A 0 [] := Sl.nil
end
theorem take_snoc {α : Type} (l : List α) (k : Nat) (h : k < l.length) : l.take (k + 1) = l.take k ++ [l[k]] := by
  rw [List.take_succ_eq_append_getElem h]
end Mem
end Go.Proofs.Ytfcdmfiblmnbkaa
