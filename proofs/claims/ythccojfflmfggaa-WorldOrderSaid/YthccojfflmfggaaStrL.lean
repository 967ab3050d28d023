/- The plain law of texts in order, byte by byte: places in a rising list. No Go in sight. -/
import Derived.Test.YthccojfflmfggaaMem
import Derived.Lib.Bytealg
namespace Go.Proofs.Ythccojfflmfggaa
open Go.RowKit
namespace Str
open Go.Lib (compareBytes)
theorem cb_val : ∀ (a b : List UInt8), compareBytes a b = -1 ∨ compareBytes a b = 0 ∨ compareBytes a b = 1
  | [], [] => .inr (.inl rfl)
  | [], _ :: _ => .inl rfl
  | _ :: _, [] => .inr (.inr rfl)
  | a :: as, b :: bs => by
    unfold compareBytes
    split
    · exact .inl rfl
    · split
      · exact .inr (.inr rfl)
      · exact cb_val as bs
theorem cb_neg : ∀ (a b : List UInt8), compareBytes b a = -compareBytes a b
  | [], [] => rfl
  | [], _ :: _ => rfl
  | _ :: _, [] => rfl
  | a :: as, b :: bs => by
    unfold compareBytes
    by_cases h1 : a < b
    · have h2 : ¬ b < a := by rw [UInt8.lt_iff_toNat_lt] at *; omega
      rw [if_pos h1, if_neg h2, if_pos h1]; rfl
    · by_cases h2 : b < a
      · rw [if_pos h2, if_neg h1, if_pos h2]
      · rw [if_neg h2, if_neg h1, if_neg h1, if_neg h2]
        exact cb_neg as bs
theorem cb_eq : ∀ (a b : List UInt8), compareBytes a b = 0 ↔ a = b
  | [], [] => by simp [compareBytes]
  | [], _ :: _ => by simp [compareBytes]
  | _ :: _, [] => by simp [compareBytes]
  | a :: as, b :: bs => by
    have ih := cb_eq as bs
    unfold compareBytes
    by_cases h1 : a < b
    · rw [if_pos h1]
      constructor
      · intro h; omega
      · intro h; obtain ⟨rfl, _⟩ := List.cons.inj h; exact absurd h1 (UInt8.lt_irrefl a)
    · by_cases h2 : b < a
      · rw [if_neg h1, if_pos h2]
        constructor
        · intro h; omega
        · intro h; obtain ⟨rfl, _⟩ := List.cons.inj h; exact absurd h2 (UInt8.lt_irrefl a)
      · rw [if_neg h1, if_neg h2, ih]
        have : a = b := by
          rw [UInt8.lt_iff_toNat_lt] at h1 h2
          exact UInt8.toNat_inj.1 (by omega)
        subst this
        constructor
        · intro h; rw [h]
        · intro h; exact (List.cons.inj h).2
theorem cb_trans : ∀ (a b c : List UInt8), compareBytes a b < 0 → compareBytes b c ≤ 0 → compareBytes a c < 0
  | [], [], _, h, _ => by simp [compareBytes] at h
  | _ :: _, [], _, h, _ => by simp [compareBytes] at h
  | [], _ :: _, [], _, h2 => by simp [compareBytes] at h2
  | [], _ :: _, _ :: _, _, _ => by simp [compareBytes]
  | _ :: _, _ :: _, [], _, h2 => by simp [compareBytes] at h2
  | a :: as, b :: bs, c :: cs, h1, h2 => by
    have ih := cb_trans as bs cs
    unfold compareBytes at h1 h2 ⊢
    simp only [UInt8.lt_iff_toNat_lt] at *
    by_cases p1 : a.toNat < b.toNat
    · by_cases p2 : b.toNat < c.toNat
      · rw [if_pos (by omega)]; omega
      · rw [if_neg p2] at h2
        by_cases p3 : c.toNat < b.toNat
        · rw [if_pos p3] at h2; omega
        · rw [if_pos (by omega)]; omega
    · rw [if_neg p1] at h1
      by_cases p3 : b.toNat < a.toNat
      · rw [if_pos p3] at h1; omega
      · rw [if_neg p3] at h1
        by_cases p2 : b.toNat < c.toNat
        · rw [if_pos (by omega)]; omega
        · rw [if_neg p2] at h2
          by_cases p4 : c.toNat < b.toNat
          · rw [if_pos p4] at h2; omega
          · rw [if_neg p4] at h2
            rw [if_neg (by omega), if_neg (by omega)]
            exact ih h1 h2
/-- how two texts stand -/
def cmp (a b : ByteArray) : Int := compareBytes a.data.toList b.data.toList
theorem cmp_val (a b : ByteArray) : cmp a b = -1 ∨ cmp a b = 0 ∨ cmp a b = 1 := cb_val _ _
theorem cmp_neg (a b : ByteArray) : cmp b a = -cmp a b := cb_neg _ _
theorem cmp_eq (a b : ByteArray) : cmp a b = 0 ↔ a = b := by
  unfold cmp
  rw [cb_eq]
  constructor
  · intro h
    obtain ⟨a⟩ := a
    obtain ⟨b⟩ := b
    exact congrArg _ (Array.toList_inj.1 h)
  · intro h; rw [h]
theorem cmp_self (a : ByteArray) : cmp a a = 0 := (cmp_eq a a).2 rfl
theorem cmp_trans {a b c : ByteArray} (h : cmp a b < 0) (h2 : cmp b c ≤ 0) : cmp a c < 0 := cb_trans _ _ _ h h2
theorem cmp_trans2 {a b c : ByteArray} (h : cmp a b ≤ 0) (h2 : cmp b c < 0) : cmp a c < 0 := by
  have n1 := cmp_val a b
  by_cases hz : cmp a b = 0
  · obtain rfl := (cmp_eq a b).1 hz; exact h2
  · exact cmp_trans (b := b) (by omega) (by omega)
/-- names rise -/
def Rises (l : List ByteArray) : Prop := l.Pairwise fun a b => cmp a b < 0
/-- where a name stands, or would -/
def pos (l : List ByteArray) (s : ByteArray) : Nat := (l.takeWhile fun x => decide (cmp x s < 0)).length
theorem pos_le (l : List ByteArray) (s : ByteArray) : pos l s ≤ l.length := by
  unfold pos
  exact (List.takeWhile_prefix _).length_le
theorem pos_cons (x : ByteArray) (l : List ByteArray) (s : ByteArray) : pos (x :: l) s = if cmp x s < 0 then pos l s + 1 else 0 := by
  unfold pos
  rw [List.takeWhile_cons]
  by_cases h : cmp x s < 0
  · rw [if_pos h, decide_eq_true h]; simp
  · rw [if_neg h, decide_eq_false h]; simp
theorem pos_below {l : List ByteArray} {s : ByteArray} : ∀ (j : Nat) (hj : j < l.length), j < pos l s → cmp l[j] s < 0 := by
  induction l with
  | nil => intro j hj; simp at hj
  | cons x l ih =>
    intro j hj h
    rw [pos_cons] at h
    by_cases hx : cmp x s < 0
    · rw [if_pos hx] at h
      cases j with
      | zero => exact hx
      | succ j => exact ih j (by simpa using hj) (by omega)
    · rw [if_neg hx] at h; omega
theorem pos_above {l : List ByteArray} {s : ByteArray} (hr : Rises l) : ∀ (j : Nat) (hj : j < l.length), pos l s ≤ j → ¬ cmp l[j] s < 0 := by
  induction l with
  | nil => intro j hj; simp at hj
  | cons x l ih =>
    intro j hj h
    rw [pos_cons] at h
    obtain ⟨h1, h2⟩ := List.pairwise_cons.1 hr
    by_cases hx : cmp x s < 0
    · rw [if_pos hx] at h
      cases j with
      | zero => omega
      | succ j => exact ih h2 j (by simpa using hj) (by omega)
    · cases j with
      | zero => exact hx
      | succ j =>
        intro hc
        have hj2 : j < l.length := by simpa using hj
        have := h1 l[j] (List.getElem_mem hj2)
        exact hx (cmp_trans this (by have : cmp l[j] s < 0 := hc; omega))
/-- a place below which all are less, from which on none is: the name's place -/
theorem pos_at {l : List ByteArray} {s : ByteArray} (hr : Rises l) (i : Nat) (hi : i ≤ l.length) (h1 : ∀ (j : Nat) (hj : j < l.length), j < i → cmp l[j] s < 0) (h2 : ∀ (j : Nat) (hj : j < l.length), i ≤ j → ¬ cmp l[j] s < 0) : pos l s = i := by
  have hp := pos_le l s
  rcases Nat.lt_trichotomy (pos l s) i with h | h | h
  · exact absurd (h1 (pos l s) (by omega) h) (pos_above hr _ (by omega) (Nat.le_refl _))
  · exact h
  · exact absurd (pos_below i (by omega) h) (h2 i (by omega) (Nat.le_refl _))
/-- is a name there? -/
def has (l : List ByteArray) (s : ByteArray) : Bool := l.any fun x => cmp x s == 0
theorem has_iff {l : List ByteArray} {s : ByteArray} : has l s = true ↔ s ∈ l := by
  unfold has
  rw [List.any_eq_true]
  constructor
  · rintro ⟨x, hx, h⟩
    obtain rfl := (cmp_eq x s).1 (by simpa using h)
    exact hx
  · intro h
    exact ⟨s, h, by rw [cmp_self]; rfl⟩
theorem has_pos {l : List ByteArray} {s : ByteArray} (hr : Rises l) (h : pos l s < l.length) : has l s = (cmp l[pos l s] s == 0) := by
  cases hc : cmp l[pos l s] s == 0
  · cases hh : has l s
    · rfl
    · exfalso
      obtain ⟨j, hj, e⟩ := List.mem_iff_getElem.1 (has_iff.1 hh)
      have hz : cmp l[j] s = 0 := (cmp_eq _ _).2 e
      have a1 : ¬ j < pos l s := fun c => by have := pos_below j hj c; omega
      have a2 : j ≠ pos l s := by rintro rfl; rw [hz] at hc; simp at hc
      have := (List.pairwise_iff_getElem.1 hr) (pos l s) j h hj (by omega)
      rw [e] at this
      have := pos_above hr (pos l s) h (Nat.le_refl _)
      contradiction
  · have e : l[pos l s] = s := (cmp_eq _ _).1 (by simpa using hc)
    have hm : l[pos l s] ∈ l := List.getElem_mem h
    exact has_iff.2 (by rw [e] at hm; exact hm)
theorem has_end {l : List ByteArray} {s : ByteArray} (h : pos l s = l.length) : has l s = false := by
  cases hh : has l s
  · rfl
  · exfalso
    obtain ⟨j, hj, e⟩ := List.mem_iff_getElem.1 (has_iff.1 hh)
    have := pos_below (s := s) j hj (by omega)
    rw [e, cmp_self] at this
    omega
theorem has_at {l : List ByteArray} {s : ByteArray} (hr : Rises l) (h : has l s = true) : ∃ (hp : pos l s < l.length), l[pos l s] = s := by
  by_cases hp : pos l s < l.length
  · refine ⟨hp, ?_⟩
    rw [has_pos hr hp] at h
    exact (cmp_eq _ _).1 (by simpa using h)
  · have := pos_le l s
    rw [has_end (by omega)] at h
    cases h
end Str
end Go.Proofs.Ythccojfflmfggaa
