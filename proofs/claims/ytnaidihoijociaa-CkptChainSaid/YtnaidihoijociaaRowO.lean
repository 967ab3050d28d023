/- Words for rows with an offset: slices of elements of k cells, somewhere in a block; what an operation leaves alone. -/
import Derived.Test.YtnaidihoijociaaMem
import Derived.Laws.OwnMore
import Derived.Laws.CopyRow
import Derived.Deep.AppendSrc
import Derived.Lib.AppendZerosOnto
namespace Go.Proofs.Ytnaidihoijociaa
open Go.RowKit
namespace Ro
/-! ### what an operation leaves alone -/
structure Only (S : Nat → Prop) (w w' : World) : Prop where
  os : w'.os = w.os
  tape : w'.tape = w.tape
  output : w'.output = w.output
  size : w.heap.size ≤ w'.heap.size
  block : ∀ k, k < w.heap.size → ¬ S k → w'.heap[k]? = w.heap[k]?
section
variable {S T : Nat → Prop} {w w1 w' : World}
theorem Only.refl (S : Nat → Prop) (w : World) : Only S w w := ⟨rfl, rfl, rfl, Nat.le_refl _, fun _ _ _ => rfl⟩
theorem Only.trans (h : Only S w w1) (h2 : Only T w1 w') (hT : ∀ k, k < w.heap.size → T k → S k) : Only S w w' :=
  ⟨h2.os.trans h.os, h2.tape.trans h.tape, h2.output.trans h.output, Nat.le_trans h.size h2.size, fun k hk hS => (h2.block k (Nat.lt_of_lt_of_le hk h.size) (fun c => hS (hT k hk c))).trans (h.block k hk hS)⟩
theorem Only.mono (h : Only S w w') (hS : ∀ k, k < w.heap.size → S k → T k) : Only T w w' := ⟨h.os, h.tape, h.output, h.size, fun k hk hT => h.block k hk (fun c => hT (hS k hk c))⟩
theorem Only.of_below (h : Below w.heap.size w w') : Only S w w' := ⟨h.os, h.tape, h.output, h.size, fun k hk _ => h.block k hk⟩
theorem Only.below {B : Nat} (h : Only S w w') (hB : B ≤ w.heap.size) (hS : ∀ k, k < B → ¬ S k) : Below B w w' := ⟨h.os, h.tape, h.output, h.size, fun k hk => h.block k (Nat.lt_of_lt_of_le hk hB) (hS k hk)⟩
theorem Only.setCell (w : World) (p : Addr) (u : Value) : Only (fun k => k = p.block) w (w.setCell p u) := ⟨rfl, rfl, rfl, by simp, fun k _ hS => Below.heap_setCell w p u k hS⟩
theorem Only.undrew (h : Only S w.drew w') : Only S w w' := ⟨h.os, h.tape, h.output, h.size, h.block⟩
theorem Only.drew (h : Only S w w') : Only S w w'.drew := ⟨h.os, h.tape, h.output, h.size, h.block⟩
theorem Only.alloc (h : Only S w w') (o : Obj) : Only S w (w'.alloc o) := h.trans (T := fun _ => False) ⟨rfl, rfl, rfl, by simp, fun k hk _ => Below.heap_alloc w' o k hk⟩ (fun _ _ c => c.elim)
end
/-! ### rows -/
def blk (A : Option Addr) : Option Nat := A.map (·.block)
def Row (w : World) (e : TypeId) (k : Nat) (A : Option Addr) (n c : Nat) (xs : List Value) : Prop :=
  xs.length = n * k ∧ n ≤ c ∧ c ≤ maxLen ∧ ((A = none ∧ c = 0) ∨ ∃ g off cur, A = some ⟨g, off, none⟩ ∧ w.heap[g]? = some (.cells cur e (0, 0)) ∧ off + c * k ≤ cur.size ∧ (cur.toList.drop off).take (n * k) = xs)
/-- a list with another laid over it from a place on -/
def over (xs : List Value) (o : Nat) (vs : List Value) : List Value := xs.take o ++ vs ++ xs.drop (o + vs.length)
section
variable {w w' : World} {e : TypeId} {k n c g off : Nat} {A : Option Addr} {xs vs : List Value}
theorem over_len {o : Nat} (h : o + vs.length ≤ xs.length) : (over xs o vs).length = xs.length := by unfold over; simp; omega
theorem Row.nil : Row w e k none 0 0 [] := ⟨by simp, Nat.le_refl _, by decide, .inl ⟨rfl, rfl⟩⟩
theorem Row.new {cs : Array Value} (hn : cs.size = n * k) (hm : n ≤ maxLen) : Row (w.alloc (.cells cs e)) e k (some ⟨w.heap.size, 0, none⟩) n n cs.toList :=
  ⟨by simpa using hn, Nat.le_refl _, hm, .inr ⟨_, 0, cs, rfl, heap_alloc_new w _, by omega, by rw [List.drop_zero, List.take_of_length_le (by simp; omega)]⟩⟩
theorem Row.len (h : Row w e k A n c xs) : xs.length = n * k := h.1
theorem Row.le (h : Row w e k A n c xs) : n ≤ c ∧ c ≤ maxLen := ⟨h.2.1, h.2.2.1⟩
theorem Row.some_of (h : Row w e k A n c xs) (hn : 0 < c) : ∃ g off, A = some ⟨g, off, none⟩ := by
  rcases h.2.2.2 with ⟨_, h0⟩ | ⟨g, off, _, hA, _⟩
  · omega
  · exact ⟨g, off, hA⟩
theorem Row.lt (h : Row w e k A n c xs) (hg : blk A = some g) : g < w.heap.size := by
  rcases h.2.2.2 with ⟨rfl, _⟩ | ⟨g', off, cur, rfl, hh, _⟩
  · cases hg
  · obtain rfl : g' = g := by simpa [blk] using hg
    exact (Array.getElem?_eq_some_iff.1 hh).1
theorem Row.type (h : Row w e k A n c xs) (hg : blk A = some g) : ∃ cur, w.heap[g]? = some (.cells cur e (0, 0)) := by
  rcases h.2.2.2 with ⟨rfl, _⟩ | ⟨g', off, cur, rfl, hh, _⟩
  · cases hg
  · obtain rfl : g' = g := by simpa [blk] using hg
    exact ⟨cur, hh⟩
theorem Row.keep (h : Row w e k A n c xs) (hk : ∀ g, blk A = some g → w'.heap[g]? = w.heap[g]?) : Row w' e k A n c xs := by
  obtain ⟨h1, h2, h3, h4⟩ := h
  refine ⟨h1, h2, h3, ?_⟩
  rcases h4 with h4 | ⟨g, off, cur, rfl, hh, r⟩
  · exact .inl h4
  · exact .inr ⟨g, off, cur, rfl, (hk g rfl).trans hh, r⟩
theorem Row.only {S : Nat → Prop} (h : Row w e k A n c xs) (ho : Only S w w') (hS : ∀ g, blk A = some g → ¬ S g) : Row w' e k A n c xs :=
  h.keep fun g hg => ho.block g (h.lt hg) (hS g hg)
/-- rows of unlike elements lie apart; so does a block of another type -/
theorem Row.apart {e2 : TypeId} {k2 n2 c2 : Nat} {A2 : Option Addr} {xs2 : List Value} (h : Row w e k A n c xs) (h2 : Row w e2 k2 A2 n2 c2 xs2) (he : e ≠ e2) : ∀ g, blk A = some g → ¬ blk A2 = some g := by
  intro g hg hg2
  obtain ⟨c1, hc1⟩ := h.type hg
  obtain ⟨c2, hc2⟩ := h2.type hg2
  rw [hc1] at hc2
  exact he (by simpa using congrArg (fun o => match o with | some (Obj.cells _ t _) => t | _ => 0) hc2)
theorem Row.apartB {t : TypeId} {cs : Array Value} {g2 : Nat} (h : Row w e k A n c xs) (h2 : Mem.Blk w g2 t cs) (he : e ≠ t) : ∀ g, blk A = some g → ¬ g = g2 := by
  rintro g hg rfl
  obtain ⟨c1, hc1⟩ := h.type hg
  unfold Mem.Blk at h2
  rw [hc1] at h2
  exact he (by simpa using congrArg (fun o => match o with | some (Obj.cells _ t _) => t | _ => 0) h2)
theorem Row.cell (h : Row w e k (some ⟨g, off, none⟩) n c xs) (j : Nat) (hj : j < xs.length) : w.cell? ⟨g, off + j, none⟩ = some xs[j] := by
  obtain ⟨h1, h2, h3, ⟨h4, _⟩ | ⟨g', off', cur, hA, hg, hfit, htk⟩⟩ := h
  · cases h4
  · simp only [Option.some.injEq, Addr.mk.injEq, and_true] at hA
    obtain ⟨rfl, rfl⟩ := hA
    subst htk
    have hc : n * k ≤ c * k := Nat.mul_le_mul_right _ h2
    have hs : off + j < cur.size := by simp at hj; omega
    rw [cell_of_row w g (off + j) cur e (0, 0) hg, Array.getElem?_eq_getElem hs]
    simp
theorem Row.frozen (h : Row w e k (some ⟨g, off, none⟩) n c xs) (j : Nat) : w.frozen? ⟨g, j, none⟩ = false := by
  obtain ⟨cur, hc⟩ := h.type (g := g) rfl
  simp [World.frozen?, hc]
theorem Row.sl (h : Row w e k A n c xs) : Mem.Sl w w.heap.size k A n xs := by
  refine ⟨h.1, fun hn => ?_⟩
  obtain ⟨g, off, rfl⟩ := h.some_of (by have := h.2.1; omega)
  exact ⟨_, rfl, h.lt rfl, fun j hj => by rw [Addr.add_lit]; exact h.cell j hj⟩
/-- the first i -/
theorem Row.cut (h : Row w e k A n c xs) (i : Nat) (hi : i ≤ n) : Row w e k A i c (xs.take (i * k)) := by
  obtain ⟨h1, h2, h3, h4⟩ := h
  have hm : i * k ≤ n * k := Nat.mul_le_mul_right _ hi
  refine ⟨by simp; omega, by omega, h3, ?_⟩
  rcases h4 with h4 | ⟨g, off, cur, rfl, hh, hf, ht⟩
  · exact .inl h4
  · refine .inr ⟨g, off, cur, rfl, hh, hf, ?_⟩
    rw [← ht, List.take_take, Nat.min_eq_left hm]
/-- from i on -/
theorem Row.from_ (h : Row w e k (some ⟨g, off, none⟩) n c xs) (i : Nat) (hi : i ≤ n) : Row w e k (if c = i then some ⟨g, off, none⟩ else some ⟨g, off + i * k, none⟩) (n - i) (c - i) (xs.drop (i * k)) := by
  obtain ⟨h1, h2, h3, ⟨h4, _⟩ | ⟨g', off', cur, hA, hg, hfit, htk⟩⟩ := h
  · cases h4
  · simp only [Option.some.injEq, Addr.mk.injEq, and_true] at hA
    obtain ⟨rfl, rfl⟩ := hA
    have e1 : (n - i) * k = n * k - i * k := Nat.sub_mul _ _ _
    have e2 : (c - i) * k = c * k - i * k := Nat.sub_mul _ _ _
    have hm : i * k ≤ n * k := Nat.mul_le_mul_right _ hi
    have hc : n * k ≤ c * k := Nat.mul_le_mul_right _ h2
    refine ⟨by rw [List.length_drop, h1, e1], by omega, by omega, .inr ?_⟩
    by_cases hci : c = i
    · rw [if_pos hci]
      obtain rfl : n = i := by omega
      refine ⟨g, off, cur, rfl, hg, by rw [e2]; omega, ?_⟩
      rw [Nat.sub_self, Nat.zero_mul, List.take_zero, List.drop_of_length_le (by omega)]
    · rw [if_neg hci]
      refine ⟨g, off + i * k, cur, rfl, hg, by rw [e2]; omega, ?_⟩
      rw [← htk, List.drop_take, List.drop_drop, e1]
/-- all that there is room for -/
theorem Row.full (h : Row w e k A n c xs) : ∃ ys, Row w e k A c c ys ∧ ys.take (n * k) = xs := by
  obtain ⟨h1, h2, h3, h4⟩ := h
  have hc : n * k ≤ c * k := Nat.mul_le_mul_right _ h2
  rcases h4 with ⟨rfl, rfl⟩ | ⟨g, off, cur, rfl, hh, hf, ht⟩
  · obtain rfl : n = 0 := by omega
    have hx : xs = [] := List.eq_nil_of_length_eq_zero (by simpa using h1)
    subst hx
    exact ⟨[], Row.nil, by simp⟩
  · refine ⟨(cur.toList.drop off).take (c * k), ⟨by simp; omega, Nat.le_refl _, h3, .inr ⟨g, off, cur, rfl, hh, hf, rfl⟩⟩, ?_⟩
    rw [List.take_take, Nat.min_eq_left hc, ht]
/-- cells are stored -/
theorem Row.put {P : Program} (h : Row w e k (some ⟨g, off, none⟩) n c xs) (o : Nat) (vs : List Value) (ho : o + vs.length ≤ n * k) (h1 : ∀ v ∈ vs, v.oneCell' = true) :
    ∃ w', (storeCells ⟨g, off + o, none⟩ vs 0).run P w = .ok () w' ∧ Row w' e k (some ⟨g, off, none⟩) n c (over xs o vs) ∧ Only (fun b => b = g) w w' := by
  have hxl := h.1
  obtain ⟨hl, h2, h3, ⟨h4, _⟩ | ⟨g', off', cur, hA, hg, hfit, htk⟩⟩ := h
  · cases h4
  · simp only [Option.some.injEq, Addr.mk.injEq, and_true] at hA
    obtain ⟨rfl, rfl⟩ := hA
    have hc : n * k ≤ c * k := Nat.mul_le_mul_right _ h2
    have hr := run_storeCells_at P g (off + o) e vs 0 cur w hg (by omega) h1
    simp only [Nat.add_zero] at hr
    refine ⟨_, hr, ⟨by rw [over_len (by omega)]; exact hl, h2, h3, .inr ⟨g, off, _, rfl, setRow_heap w g cur _ e _ hg, ?_, ?_⟩⟩, ⟨rfl, rfl, rfl, by simp [World.setRow], fun b _ hb => setRow_other w g b _ hb⟩⟩
    · simp; omega
    · subst htk
      unfold over
      apply List.ext_getElem?
      intro j
      simp only [List.getElem?_take, List.getElem?_drop, List.getElem?_append, List.length_append, List.length_take, List.length_drop, Array.length_toList]
      have m1 : min (off + o) cur.size = off + o := by omega
      have m2 : min o (min (n * k) (cur.size - off)) = o := by omega
      rw [m1, m2]
      by_cases j1 : j < o
      · have a1 : j < n * k := by omega
        have a2 : off + j < off + o + vs.length := by omega
        have a3 : off + j < off + o := by omega
        have a4 : j < o + vs.length := by omega
        simp [a1, a2, a3, a4, j1]
      · by_cases j2 : j < o + vs.length
        · have a1 : j < n * k := by omega
          have a2 : off + j < off + o + vs.length := by omega
          have a3 : ¬ off + j < off + o := by omega
          simp [a1, a2, a3, j1, j2]
          congr 1
          omega
        · have a2 : ¬ off + j < off + o + vs.length := by omega
          by_cases j3 : j < n * k
          · have b1 : o + vs.length + (j - (o + vs.length)) < n * k := by omega
            simp [a2, j2, j3, b1]
            congr 1
            omega
          · have b1 : ¬ o + vs.length + (j - (o + vs.length)) < n * k := by omega
            simp [j2, j3, b1]
theorem Row.set1 (h : Row w e k (some ⟨g, off, none⟩) n c xs) (j : Nat) (hj : j < xs.length) (u : Value) : Row (w.setCell ⟨g, off + j, none⟩ u) e k (some ⟨g, off, none⟩) n c (xs.set j u) := by
  obtain ⟨hl, h2, h3, ⟨h4, _⟩ | ⟨g', off', cur, hA, hg, hfit, htk⟩⟩ := h
  · cases h4
  · simp only [Option.some.injEq, Addr.mk.injEq, and_true] at hA
    obtain ⟨rfl, rfl⟩ := hA
    have hc : n * k ≤ c * k := Nat.mul_le_mul_right _ h2
    refine ⟨by simpa using hl, h2, h3, .inr ⟨g, off, cur.setIfInBounds (off + j) u, rfl, ?_, by simpa using hfit, ?_⟩⟩
    · rw [setCell_eq_setRow w g (off + j) cur e (0, 0) u hg]
      exact setRow_heap w g cur _ e _ hg
    · subst htk
      apply List.ext_getElem?
      intro t
      simp only [Array.toList_setIfInBounds, List.getElem?_take, List.getElem?_drop, List.getElem?_set, List.length_take, List.length_drop, List.length_set, Array.length_toList]
      have hj' := hj
      simp only [List.length_take, List.length_drop, Array.length_toList] at hj'
      by_cases ht : t < n * k
      · by_cases e1 : j = t
        · subst e1
          have a1 : off + j < cur.size := by omega
          have a2 : j < cur.size - off := by omega
          simp [ht, a1, a2]
          exact hj'
        · have e2 : ¬ off + j = off + t := by omega
          simp [ht, e1, e2]
      · have e1 : ¬ j = t := by omega
        simp [ht, e1]
theorem over_end {ys news : List Value} {a b : Nat} (hn : news.length = b) (h : a + b ≤ ys.length) : (over ys a news).take (a + b) = ys.take a ++ news := by
  unfold over
  rw [List.take_append_of_le_length (by simp; omega), List.take_of_length_le (by simp; omega)]
/-! ### append, copy, clear -/
variable {P : Program} {t : TypeId} {z : Value} {bytes B m c2 : Nat} {A2 : Option Addr} {news : List Value} {ty : TypeId}
theorem app_room (E : Mem.El P t e z k bytes) (h : Row w e k A n c xs) (hs : Mem.Sl w B k A2 m news) (h1 : ∀ u ∈ news, u.oneCell' = true) (hm : 0 < m) (hroom : n + m ≤ c) :
    ∃ w', (Builtin.append_ #[t, t] ty #[.slice A n c, .slice A2 m c2]).run P w = .ok (.slice A (n + m) c) w' ∧ Row w' e k A (n + m) c (xs ++ news) ∧ Only (fun b => blk A = some b) w w' := by
  obtain ⟨i, hi, hz, hz1, hz2⟩ := info_parts E.info
  obtain ⟨ad, rfl, _, hc⟩ := hs.2 hm
  obtain ⟨g, off, rfl⟩ := h.some_of (by omega)
  obtain ⟨ys, hy, ht⟩ := h.full
  have hxl := h.1
  have hle : (n + m) * k ≤ c * k := Nat.mul_le_mul_right _ hroom
  rw [Nat.add_mul] at hle
  obtain ⟨w', hr, hR, hO⟩ := hy.put (P := P) (n * k) news (by rw [hs.1]; omega) h1
  have hsrc : Src P i.size t (.slice (some ad) m c2) m news w := by
    rw [hz1]
    exact Src.ofSlice w E.ty ad m c2 news hs.1 (fun j u hu => by obtain ⟨hj, e⟩ := List.getElem?_eq_some_iff.1 hu; rw [← e]; exact hc j hj) h1
  refine ⟨w', ?_, ?_, ?_⟩
  · have hcl := hsrc.cells
    rw [hz1] at hcl
    simp [Builtin.append_, run_underlying E.ty, sizeOf, typeInfo, hi, hsrc.len, hroom, hcl, Addr.add_lit, hz1, hr]
  · have := hR.cut (n + m) hroom
    rw [Nat.add_mul, over_end hs.1 (by rw [hy.1]; omega), ht] at this
    exact this
  · exact hO.mono (fun b _ hb => by subst hb; rfl)
theorem size_zeros (z : Array Value) (n : Nat) : (Builtin.zeroCells z n).size = n * z.size := by simp [Builtin.zeroCells]
theorem app_grow (E : Mem.El P t e z k bytes) (h : Row w e k A n c xs) (hs : Mem.Sl w B k A2 m news) (h1 : ∀ u ∈ news, u.oneCell' = true) (hm : 0 < m) (hroom : c < n + m) (h63 : n + m ≤ maxLen) (hbytes : (n + m) * bytes ≤ 140737488355328) :
    ∃ c' w', (Builtin.append_ #[t, t] ty #[.slice A n c, .slice A2 m c2]).run P w = .ok (.slice (some ⟨w.heap.size, 0, none⟩) (n + m) c') w' ∧ Row w' e k (some ⟨w.heap.size, 0, none⟩) (n + m) c' (xs ++ news) ∧ Only (fun _ => False) w w' := by
  obtain ⟨i, hi, hz, hz1, hz2⟩ := info_parts E.info
  obtain ⟨ad, rfl, _, hc⟩ := hs.2 hm
  have hxl := h.1
  have hold : (Builtin.firstCells i.size n (.slice A n c)).run P w.drew = .ok xs.toArray w.drew := by
    rw [hz1]
    rcases h.2.2.2 with ⟨rfl, h0⟩ | ⟨g, off, cur, rfl, _⟩
    · have hn := h.2.1
      obtain rfl : n = 0 := by omega
      have hx : xs = [] := List.eq_nil_of_length_eq_zero (by simpa using hxl)
      subst hx
      exact run_firstCells_none w.drew k 0 0 c
    · exact run_firstCells_some w.drew k n ⟨g, off, none⟩ n c xs hxl (fun j v hj => by
        obtain ⟨hj, e⟩ := List.getElem?_eq_some_iff.1 hj
        rw [← e, Addr.add_lit]
        exact h.cell j hj)
  have hsrc : Src P i.size t (.slice (some ad) m c2) m news w := by
    rw [hz1]
    exact Src.ofSlice w E.ty ad m c2 news hs.1 (fun j u hu => by obtain ⟨hj, e⟩ := List.getElem?_eq_some_iff.1 hu; rw [← e]; exact hc j hj) h1
  have hr := run_append_grow_src (P := P) w t t ty e i z E.ty hi hz A n c xs hold _ m news hsrc hroom (by unfold maxLen at h63; omega) (by rw [hz2]; exact growslice_fits hroom hbytes)
  have hge := grownCap_ge w (n + m) c e
  refine ⟨_, _, hr, ⟨by rw [List.length_append, hxl, hs.1, Nat.add_mul], hge, grownCap_le_maxLen w (n + m) c e h63, .inr ⟨_, 0, _, rfl, heap_alloc_new w.drew _, ?_, ?_⟩⟩, ⟨rfl, rfl, rfl, by simp, fun b hb _ => Below.heap_alloc w.drew _ b hb⟩⟩
  · have hsub : (grownCap w (n + m) c e - (n + m)) * k = grownCap w (n + m) c e * k - (n + m) * k := Nat.sub_mul _ _ _
    have hmul : (n + m) * k ≤ grownCap w (n + m) c e * k := Nat.mul_le_mul_right _ hge
    rw [Array.size_append, size_zeros, E.zs, hsub]
    simp only [List.size_toArray, List.length_append, hxl, hs.1]
    rw [Nat.add_mul] at *
    omega
  · have hl : (n + m) * k = (xs ++ news).length := by rw [List.length_append, hxl, hs.1, Nat.add_mul]
    simp only [List.drop_zero, Array.toList_append]
    rw [hl]
    exact List.take_left
/-- append, with room or without -/
theorem app (E : Mem.El P t e z k bytes) (h : Row w e k A n c xs) (hs : Mem.Sl w B k A2 m news) (h1 : ∀ u ∈ news, u.oneCell' = true) (h63 : n + m ≤ maxLen) (hbytes : (n + m) * bytes ≤ 140737488355328) :
    ∃ A' c' w', (Builtin.append_ #[t, t] ty #[.slice A n c, .slice A2 m c2]).run P w = .ok (.slice A' (n + m) c') w' ∧ Row w' e k A' (n + m) c' (xs ++ news) ∧ Only (fun b => blk A = some b) w w' ∧ (blk A' = blk A ∨ blk A' = some w.heap.size) := by
  rcases Nat.eq_zero_or_pos m with rfl | hm
  · obtain ⟨i, hi, hz, hz1, hz2⟩ := info_parts E.info
    have hn : news = [] := List.eq_nil_of_length_eq_zero (by simpa using hs.1)
    subst hn
    refine ⟨A, c, w, ?_, by simpa using h, Only.refl _ _, .inl rfl⟩
    have hnc := h.2.1
    rcases A with _ | a <;> rcases A2 with _ | a2 <;> simp [Builtin.append_, run_underlying E.ty, sizeOf, typeInfo, hi, Builtin.lenOf, Builtin.firstCells, hnc, storeCells, loadCells, loadCellsFrom]
  · by_cases hroom : n + m ≤ c
    · obtain ⟨w', hr, hR, hO⟩ := app_room (P := P) (ty := ty) (c2 := c2) E h hs h1 hm hroom
      exact ⟨A, c, w', hr, hR, hO, .inl rfl⟩
    · obtain ⟨c', w', hr, hR, hO⟩ := app_grow (P := P) (ty := ty) (c2 := c2) E h hs h1 hm (by omega) h63 hbytes
      exact ⟨_, c', w', hr, hR, hO.mono (fun _ _ c => c.elim), .inr rfl⟩
/-- copy into a row, from its o-th element on -/
theorem copy_row (E : Mem.El P t e z k bytes) (h : Row w e k (some ⟨g, off, none⟩) n c xs) (o dLen dCap m sLen sCap : Nat) (cs : List Value) (hm : m = Nat.min sLen dLen) (ho : o + m ≤ n) (hs : Mem.Sl w B k A2 m cs) (hp : 0 < m) (h1 : ∀ u ∈ cs, u.oneCell' = true) :
    ∃ w', (Builtin.copy_ #[t, t] ty #[.slice (some ⟨g, off + o * k, none⟩) dLen dCap, .slice A2 sLen sCap]).run P w = .ok (goInt m) w' ∧ Row w' e k (some ⟨g, off, none⟩) n c (over xs (o * k) cs) ∧ Only (fun b => b = g) w w' := by
  obtain ⟨i, hi, hz, hz1, hz2⟩ := info_parts E.info
  obtain ⟨ad, rfl, _, hc⟩ := hs.2 hp
  have hfit : o * k + cs.length ≤ n * k := by rw [hs.1, ← Nat.add_mul]; exact Nat.mul_le_mul_right _ ho
  obtain ⟨w', hr, hR, hO⟩ := h.put (P := P) (o * k) cs hfit h1
  have hl := run_firstCells_some (P := P) w k m ad sLen sCap cs hs.1 (fun j v hj => by obtain ⟨hj, e⟩ := List.getElem?_eq_some_iff.1 hj; rw [← e]; exact hc j hj)
  refine ⟨w', ?_, hR, hO⟩
  simp [Builtin.copy_, run_underlying E.ty, Builtin.lenOf, sizeOf, typeInfo, hi, hz1, ← hm, hl, hr]
end
end Ro
end Go.Proofs.Ytnaidihoijociaa
