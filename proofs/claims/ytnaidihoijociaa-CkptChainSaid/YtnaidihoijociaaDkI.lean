/- Layer 10 (disk): some disks side by side, each with blocks of its own. -/
import Derived.Test.YtnaidihoijociaaDkH
namespace Go.Proofs.Ytnaidihoijociaa
open Go.RowKit Go.Maps
namespace Dk
open Bs
open Crc (Byte)
open Classical
/-- the disks: by a number each; where it lies, what it is -/
abbrev Dks := Nat → Option (Nat × Ds)
def upd (D : Dks) (i : Nat) (x : Nat × Ds) : Dks := fun k => if k = i then some x else D k
theorem upd_same (D : Dks) (i : Nat) (x : Nat × Ds) : upd D i x i = some x := if_pos rfl
theorem upd_other (D : Dks) {i j : Nat} (x : Nat × Ds) (h : j ≠ i) : upd D i x j = D j := if_neg h
/-- in w lie these disks; col says of each block whose it is (0: nobody changes it) -/
structure Fm (W w : World) (col : Nat → Nat) (D : Dks) : Prop where
  base : Below W.heap.size W w
  old : ∀ k, k < W.heap.size → col k = 0
  zero : D 0 = none
  at_ : ∀ i g s, D i = some (g, s) → At w g s (fun k => col k = i) (fun k => col k = 0)
section
variable {W w w' : World} {col : Nat → Nat} {D : Dks} {i j g : Nat} {s s' : Ds}
theorem Fm.ne (h : Fm W w col D) (hD : D i = some (g, s)) : i ≠ 0 := by
  rintro rfl
  rw [h.zero] at hD
  cases hD
theorem Fm.start (hb : Below W.heap.size W w) : Fm W w (fun _ => 0) (fun _ => none) := ⟨hb, fun _ _ => rfl, rfl, fun _ _ _ h => by cases h⟩
/-- new blocks are nobody's, or whosever f says -/
theorem Fm.below (h : Fm W w col D) (hb : Below w.heap.size w w') (f : Nat → Nat) : Fm W w' (fun k => if k < w.heap.size then col k else f k) D := by
  refine ⟨h.base.trans (hb.mono h.base.size), fun k hk => ?_, h.zero, fun i g s hD => ?_⟩
  · show (if k < w.heap.size then col k else f k) = 0
    rw [if_pos (by have := h.base.size; omega)]
    exact h.old k hk
  · have h1 := h.at_ i g s hD
    have hi := h.ne hD
    refine (h1.mono (M' := fun k => (if k < w.heap.size then col k else f k) = i) (C' := fun k => (if k < w.heap.size then col k else f k) = 0) (fun k hk c => ?_) (fun k hk c => ?_) (fun k c d => hi ?_)).below hb
    · show (if k < w.heap.size then col k else f k) = i
      rw [if_pos hk]; exact c
    · show (if k < w.heap.size then col k else f k) = 0
      rw [if_pos hk]; exact c
    · have c' : (if k < w.heap.size then col k else f k) = 0 := c
      have d' : (if k < w.heap.size then col k else f k) = i := d
      rw [← d', c']
/-- the law's own blocks, of number j, are turned -/
theorem Fm.put {Z : Nat → Prop} (h : Fm W w col D) (ho : Ro.Only Z w w') (hZ : ∀ k, Z k → col k = j) (hj : D j = none) (hj0 : j ≠ 0) : Fm W w' col D := by
  refine ⟨h.base.trans (ho.below h.base.size fun k hk c => hj0 (by rw [← hZ k c]; exact h.old k hk)), h.old, h.zero, fun i g s hD => (h.at_ i g s hD).keep ho.size fun k hk c => ho.block k hk fun z => ?_⟩
  have hz := hZ k z
  rcases c with c | c
  · have c' : col k = i := c
    rw [hz] at c'
    subst c'
    rw [hj] at hD
    cases hD
  · exact hj0 (by rw [← hz]; exact c)
/-- one of them is worked on -/
theorem Fm.op (h : Fm W w col D) (hD : D i = some (g, s)) (hp : Post (fun k => col k = i) (fun k => col k = 0) w w' g s') :
    ∃ col', (∀ k, k < w.heap.size → col' k = col k) ∧ Fm W w' col' (upd D i (g, s')) ∧ Ro.Only (fun k => col k = i) w w' := by
  obtain ⟨M', C', h1, hM, hC, ho⟩ := hp
  have hi := h.ne hD
  have hcm : ∀ k, C' k → ¬ M' k := by obtain ⟨_, _, _, _, _, h1⟩ := h1; exact h1.cm
  refine ⟨fun k => if k < w.heap.size then col k else if M' k then i else 0, fun k hk => if_pos hk, ⟨h.base.trans (ho.below h.base.size fun k hk c => hi (by rw [← show col k = i from c]; exact h.old k hk)), fun k hk => ?_, ?_, fun j g2 s2 hj => ?_⟩, ho⟩
  · show (if k < w.heap.size then col k else _) = 0
    rw [if_pos (by have := h.base.size; omega)]
    exact h.old k hk
  · rw [upd_other D (g, s') (Ne.symm hi)]
    exact h.zero
  · by_cases e : j = i
    · subst e
      rw [upd_same] at hj
      cases hj
      refine h1.mono (fun k hk c => ?_) (fun k hk c => ?_) (fun k c d => hi ?_)
      · show (if k < w.heap.size then col k else if M' k then j else 0) = j
        by_cases hk2 : k < w.heap.size
        · rw [if_pos hk2]
          rcases hM k c with c | c
          · exact c
          · omega
        · rw [if_neg hk2, if_pos c]
      · show (if k < w.heap.size then col k else if M' k then j else 0) = 0
        by_cases hk2 : k < w.heap.size
        · rw [if_pos hk2]
          rcases hC k c with c | c
          · exact c
          · omega
        · rw [if_neg hk2, if_neg (hcm k c)]
      · have c' : (if k < w.heap.size then col k else if M' k then j else 0) = 0 := c
        have d' : (if k < w.heap.size then col k else if M' k then j else 0) = j := d
        rw [← d', c']
    · rw [upd_other D (g, s') e] at hj
      have hj0 := h.ne hj
      have h2 := (h.at_ j g2 s2 hj).keep ho.size (fun k hk c => ho.block k hk fun z => by
        have z' : col k = i := z
        rcases c with c | c
        · have c' : col k = j := c
          exact e (by rw [← c', z'])
        · have c' : col k = 0 := c
          exact hi (by rw [← z', c']))
      have h2b : At w' g2 s2 (fun k => col k = j ∧ k < w.heap.size) (fun k => col k = 0 ∧ k < w.heap.size) := by
        have h3 := (h.at_ j g2 s2 hj).mono (M' := fun k => col k = j ∧ k < w.heap.size) (C' := fun k => col k = 0 ∧ k < w.heap.size) (fun k hk c => ⟨c, hk⟩) (fun k hk c => ⟨c, hk⟩) (fun k c d => hj0 (by rw [← d.1]; exact c.1))
        exact h3.keep ho.size (fun k hk c => ho.block k hk fun z => by
          have z' : col k = i := z
          rcases c with c | c
          · exact e (by rw [← c.1, z'])
          · exact hi (by rw [← z', c.1]))
      refine h2b.mono (fun k hk c => ?_) (fun k hk c => ?_) (fun k c d => hj0 ?_)
      · show (if k < w.heap.size then col k else if M' k then i else 0) = j
        rw [if_pos c.2]; exact c.1
      · show (if k < w.heap.size then col k else if M' k then i else 0) = 0
        rw [if_pos c.2]; exact c.1
      · have c' : (if k < w.heap.size then col k else if M' k then i else 0) = 0 := c
        have d' : (if k < w.heap.size then col k else if M' k then i else 0) = j := d
        rw [← d', c']
/-- a new one -/
theorem Fm.new {C2 : Nat → Prop} (h : Fm W w col D) (hb : Below w.heap.size w w') (ha : At w' g s (fun k => w.heap.size ≤ k) C2) (hC : ∀ k, C2 k → k < w.heap.size ∧ col k = 0) (hj : D j = none) (hj0 : j ≠ 0) : Fm W w' (fun k => if k < w.heap.size then col k else j) (upd D j (g, s)) := by
  have h1 := h.below hb (fun _ => j)
  refine ⟨h1.base, h1.old, ?_, fun i g2 s2 hi => ?_⟩
  · rw [upd_other D (g, s) (Ne.symm hj0)]
    exact h.zero
  · by_cases e : i = j
    · subst e
      rw [upd_same] at hi
      cases hi
      refine ha.mono (fun k hk c => ?_) (fun k hk c => ?_) (fun k c d => hj0 ?_)
      · show (if k < w.heap.size then col k else i) = i
        have c' : w.heap.size ≤ k := c
        rw [if_neg (by omega)]
      · show (if k < w.heap.size then col k else i) = 0
        rw [if_pos (hC k c).1]
        exact (hC k c).2
      · have c' : (if k < w.heap.size then col k else i) = 0 := c
        have d' : (if k < w.heap.size then col k else i) = i := d
        rw [← d', c']
    · rw [upd_other D (g, s) e] at hi
      exact h1.at_ i g2 s2 hi
end
end Dk
end Go.Proofs.Ytnaidihoijociaa
