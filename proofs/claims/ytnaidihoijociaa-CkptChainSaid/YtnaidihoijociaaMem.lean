/- Words for memory: a slice that came in, read as a list of cells. -/
import Derived.WalkKit
import Derived.Below
import Derived.Laws.OwnMore
import Derived.Deep.Draws
import Derived.Lib.Hide
import Derived.Maps.AppendAt
import Derived.Deep.AppendLies
import Derived.RegionTactic
import Derived.OwnWalk
namespace Go.Proofs.Ytnaidihoijociaa
open Go.RowKit
namespace Mem
theorem add_block (a : Addr) (n : Nat) : (a.add n).block = a.block := by unfold Addr.add; split <;> rfl
theorem add_add (a : Addr) (i j : Nat) : (a.add i).add j = a.add (i + j) := by
  unfold Addr.add
  by_cases hi : i = 0 <;> by_cases hj : j = 0 <;> simp [hi, hj, Nat.add_assoc]
/-- from an address on lie just these cells -/
def Cells (w : World) (ad : Addr) (xs : List Value) : Prop := ∀ (j : Nat) (h : j < xs.length), w.cell? (ad.add j) = some xs[j]
/-- a slice's address, length and capacity: it holds these cells, of 'size' cells an element, below block B -/
def Sl (w : World) (B size : Nat) (A : Option Addr) (n : Nat) (xs : List Value) : Prop :=
  xs.length = n * size ∧ (0 < n → ∃ ad, A = some ad ∧ ad.block < B ∧ Cells w ad xs)
section
variable {w w' : World} {B B' size n : Nat} {A : Option Addr} {ad : Addr} {xs ys : List Value}
theorem Cells.keep (h : Cells w ad xs) (hk : ∀ p : Addr, p.block = ad.block → w'.cell? p = w.cell? p) : Cells w' ad xs :=
  fun j hj => (hk _ (add_block ad j)).trans (h j hj)
theorem add_zero_off (b i : Nat) : (Addr.add ⟨b, 0, none⟩ i) = ⟨b, i, none⟩ := by
  unfold Addr.add
  split
  · subst_vars; rfl
  · simp
theorem Cells.of_block {g : Nat} {cs : Array Value} {t : TypeId} {fz : Nat × Nat} (h : w.heap[g]? = some (.cells cs t fz)) : Cells w ⟨g, 0, none⟩ cs.toList := by
  intro j hj
  have hj' : j < cs.size := by simpa using hj
  rw [add_zero_off]
  simp [World.cell?, h, Array.getElem?_eq_getElem hj']
theorem Cells.new (w : World) (cs : Array Value) (t : TypeId) (fz : Nat × Nat) : Cells (w.alloc (.cells cs t fz)) ⟨w.heap.size, 0, none⟩ cs.toList :=
  Cells.of_block (heap_alloc_new w _)
theorem Sl.nil : Sl w B size A 0 [] := ⟨by simp, fun h => absurd h (by omega)⟩
theorem Sl.keep (h : Sl w B size A n xs) (hk : ∀ p : Addr, p.block < B → w'.cell? p = w.cell? p) : Sl w' B size A n xs :=
  ⟨h.1, fun hn => by
    obtain ⟨ad, e, hb, hc⟩ := h.2 hn
    exact ⟨ad, e, hb, hc.keep fun p hp => hk p (by omega)⟩⟩
theorem Sl.more (h : Sl w B size A n xs) (hB : B ≤ B') : Sl w B' size A n xs :=
  ⟨h.1, fun hn => by
    obtain ⟨ad, e, hb, hc⟩ := h.2 hn
    exact ⟨ad, e, by omega, hc⟩⟩
theorem Sl.below (h : Sl w B size A n xs) (hb : Below B w w') : Sl w' B size A n xs := h.keep fun _ hp => hb.cell hp
theorem Sl.drew (h : Sl w B size A n xs) : Sl w.drew B size A n xs := h
theorem Sl.drewN (h : Sl w B size A n xs) (k : Nat) : Sl (w.drewN k) B size A n xs := h
theorem Sl.alloc (h : Sl w B size A n xs) (hB : B ≤ w.heap.size) (o : Obj) : Sl (w.alloc o) B size A n xs := h.keep fun p hp => World.cell?_alloc_lt w o p (by omega)
theorem Sl.setCell (h : Sl w B size A n xs) {p : Addr} (hB : B ≤ p.block) (u : Value) : Sl (w.setCell p u) B size A n xs :=
  h.keep fun q hq => World.cell?_setCell_other w p q u (fun e => by subst e; omega)
theorem Sl.at_ {k : Nat} (h : Sl w B 1 A n xs) (hk : k < n) : ∃ (ad : Addr) (hl : k < xs.length), A = some ad ∧ ad.block < B ∧ w.cell? (ad.add k) = some xs[k] := by
  obtain ⟨ad, e, hb, hc⟩ := h.2 (by omega)
  have hl : k < xs.length := by have := h.1; omega
  exact ⟨ad, hl, e, hb, hc k hl⟩
end
/-- a slice of numbers that came in -/
def Ints (w : World) (B : Nat) (k : IntKind) (A : Option Addr) (n : Nat) (zs : List Int) : Prop := Sl w B 1 A n (zs.map (Value.int k))
section
variable {w w' : World} {B B' n : Nat} {A : Option Addr} {kd : IntKind} {zs : List Int}
theorem Ints.len (h : Ints w B kd A n zs) : zs.length = n := by have := h.1; simpa using this
theorem Ints.at_ {k : Nat} (h : Ints w B kd A n zs) (hk : k < n) : ∃ (ad : Addr) (z : Int) (hl : k < zs.length), A = some ad ∧ ad.block < B ∧ zs[k] = z ∧ w.cell? (ad.add k) = some (.int kd z) := by
  obtain ⟨ad, hl, e, hb, hc⟩ := Sl.at_ h hk
  exact ⟨ad, _, by simpa using hl, e, hb, rfl, by simpa using hc⟩
theorem Ints.keep (h : Ints w B kd A n zs) (hk : ∀ p : Addr, p.block < B → w'.cell? p = w.cell? p) : Ints w' B kd A n zs := Sl.keep h hk
theorem Ints.more (h : Ints w B kd A n zs) (hB : B ≤ B') : Ints w B' kd A n zs := Sl.more h hB
theorem Ints.below (h : Ints w B kd A n zs) (hb : Below B w w') : Ints w' B kd A n zs := Sl.below h hb
theorem Ints.alloc (h : Ints w B kd A n zs) (hB : B ≤ w.heap.size) (o : Obj) : Ints (w.alloc o) B kd A n zs := Sl.alloc h hB o
theorem Ints.nil : Ints w B kd A 0 [] := Sl.nil
end
/-! ### append onto a row of the call's own -/
/-- what an append asks of the slice's type and its element's -/
structure El (P : Program) (t e : TypeId) (z : Value) (size bytes : Nat) : Prop where
  ty : P.underlying t = some (.slice e)
  info : (P.info? e).map (fun i => (i.zero, i.size, i.bytes)) = some (some z, size, bytes)
  zs : z.cells.size = size
  pos : 0 < size
section
variable {P : Program} {w w' : World} {B base size bytes n m c : Nat} {t e ty : TypeId} {A : Option Addr} {xs news : List Value} {v z : Value}
theorem own_form (h : w.ownsRow base e size v n xs) : ∃ A' c', v = .slice A' n c' ∧ Sl w w.heap.size size A' n xs ∧ (∀ a, A' = some a → base ≤ a.block) ∧ n ≤ c' ∧ c' ≤ maxLen := by
  rcases h.2 with ⟨rfl, rfl⟩ | ⟨g, cap, cur, rfl, hb, hg, hn, hm, _, _⟩
  · have hx : xs = [] := List.eq_nil_of_length_eq_zero (by simpa using h.1)
    subst hx
    exact ⟨none, 0, rfl, Sl.nil, by simp, by simp, by simp⟩
  · refine ⟨_, _, rfl, ⟨h.1, fun _ => ⟨_, rfl, (Array.getElem?_eq_some_iff.1 hg).1, fun j hj => h.cells (g := g) rfl j _ (List.getElem?_eq_getElem hj)⟩⟩, ?_, hn, hm⟩
    intro a ha; injection ha with ha; subst ha; exact hb
theorem own_lit {cs : Array Value} {g : Nat} (hg : w.heap.size = g) (hb : base ≤ g) (hm : n ≤ maxLen) (hs : cs.size = n * size) (hx : cs.toList = xs) :
    (w.alloc (.cells cs e)).ownsRow base e size (.slice (some ⟨g, 0, none⟩) n n) n xs := by
  subst hg; subst hx; exact World.ownsRow_lit w cs n hb hm hs
theorem own_nil : w.ownsRow base e size (.slice none 0 0) 0 [] := World.ownsRow_nil w base e size
theorem run_app (E : El P t e z size bytes) (hown : w.ownsRow base e size v n xs) (hs : Sl w B size A m news) (h1 : ∀ u ∈ news, u.oneCell' = true)
    (h63 : n + m ≤ maxLen) (hbytes : (n + m) * bytes ≤ 140737488355328) (hbase : base ≤ w.heap.size) :
    ∃ v' w', (Builtin.append_ #[t, t] ty #[v, .slice A m c]).run P w = .ok v' w' ∧ w'.ownsRow base e size v' (n + m) (xs ++ news) ∧ w.grownBy w' v.ownBlock ∧
      (v'.ownBlock = v.ownBlock ∨ v'.ownBlock = some w.heap.size) := by
  obtain ⟨i, hi, hz, hz1, hz2⟩ := info_parts E.info
  rcases Nat.eq_zero_or_pos m with h0 | h0
  · subst h0
    have hn : news = [] := List.eq_nil_of_length_eq_zero (by simpa using hs.1)
    subst hn
    have hnil : ∀ (A : Option Addr), (Builtin.append_ #[t, t] ty #[v, .slice A 0 c]).run P w = .ok v w := by
      intro A
      rcases hown.2 with ⟨rfl, rfl⟩ | ⟨g, cap, cur, rfl, _, _, hnc, _⟩
      · cases A <;> simp [Builtin.append_, run_underlying E.ty, sizeOf, typeInfo, hi, Builtin.lenOf, Builtin.firstCells, loadCells, loadCellsFrom]
      · cases A <;> simp [Builtin.append_, run_underlying E.ty, sizeOf, typeInfo, hi, Builtin.lenOf, Builtin.firstCells, hnc, storeCells, loadCells, loadCellsFrom]
    exact ⟨v, w, hnil A, by simpa using hown, World.grownBy.refl w _, .inl rfl⟩
  · obtain ⟨ad, rfl, _, hc⟩ := hs.2 h0
    obtain ⟨v', w', hr, h2, h3, _, h5⟩ := run_append_own_at (P := P) w base t ty e i z size bytes E.ty hi hz hz1 hz2 E.zs E.pos v n xs hown ad m c news hs.1
      (fun j u hu => by obtain ⟨hj, e⟩ := List.getElem?_eq_some_iff.1 hu; rw [← e]; exact hc j hj) h1 h63 hbytes hbase
    exact ⟨v', w', hr, h2, h3, h5⟩
theorem new_sl {cs : Array Value} {g : Nat} {fz : Nat × Nat} (hg : w.heap.size = g) (hs : cs.size = n * size) (hx : cs.toList = xs) :
    Sl (w.alloc (.cells cs e fz)) (g + 1) size (some ⟨g, 0, none⟩) n xs := by
  subst hg; subst hx
  exact ⟨by simpa using hs, fun _ => ⟨_, rfl, Nat.lt_succ_self _, Cells.new w cs e fz⟩⟩
theorem wp_app {o : Oper} {a : Act} {K : Act → World → Prop} {Q : Exit → Act → World → Prop} {s x : Operand} {N : Nat} {ys : List Value}
    (ho : o.op = .call { callee := .builtin .append, args := #[s, x], argTypes := #[t, t] })
    (E : El P t e z size bytes) (hown : w.ownsRow base e size v n xs) (hv : a.eval s = v) (hx : a.eval x = .slice A m c) (hs : Sl w B size A m news) (h1 : ∀ u ∈ news, u.oneCell' = true)
    (hN : n + m = N) (hys : xs ++ news = ys) (h63 : N ≤ maxLen) (hbytes : N * bytes ≤ 140737488355328) (hbase : base ≤ w.heap.size)
    (h : ∀ A' c' w', w'.ownsRow base e size (.slice A' N c') N ys → w.grownBy w' v.ownBlock → ((Value.slice A' N c').ownBlock = v.ownBlock ∨ (Value.slice A' N c').ownBlock = some w.heap.size) →
      K (a.put o.dst (.slice A' N c')) w') : o.wp P a w K Q := by
  subst hN; subst hys
  obtain ⟨v', w', hr, h2, h3, h4⟩ := run_app (P := P) (ty := o.type) (c := c) E hown hs h1 h63 hbytes hbase
  obtain ⟨A', c', rfl, _⟩ := own_form h2
  unfold Oper.wp execOp
  simp only [ho, resolve, invoke, builtin, Sem.run_bind, Sem.run_pure, Result.andThen_ok, List.map_toArray, List.map_cons, List.map_nil, hv, hx, hr]
  exact h A' c' w' h2 h3 h4
theorem wpList_app {ops : Array Oper} {rest : List Oper} {o : Oper} {a : Act} {Q : Exit → Act → World → Prop} {s x : Operand} {N : Nat} {ys : List Value} (hgd : o.guard = none)
    (ho : o.op = .call { callee := .builtin .append, args := #[s, x], argTypes := #[t, t] })
    (E : El P t e z size bytes) (hown : w.ownsRow base e size v n xs) (hv : a.eval s = v) (hx : a.eval x = .slice A m c) (hs : Sl w B size A m news) (h1 : ∀ u ∈ news, u.oneCell' = true)
    (hN : n + m = N) (hys : xs ++ news = ys) (h63 : N ≤ maxLen) (hbytes : N * bytes ≤ 140737488355328) (hbase : base ≤ w.heap.size)
    (h : ∀ A' c' w', w'.ownsRow base e size (.slice A' N c') N ys → w.grownBy w' v.ownBlock → ((Value.slice A' N c').ownBlock = v.ownBlock ∨ (Value.slice A' N c').ownBlock = some w.heap.size) →
      wpList P ops Q rest (a.put o.dst (.slice A' N c')) w') : wpList P ops Q (o :: rest) a w :=
  wpList_plain hgd fun _ hK => wp_app ho E hown hv hx hs h1 hN hys h63 hbytes hbase fun A' c' w' h2 h3 h4 => hK _ _ (h A' c' w' h2 h3 h4)
end
theorem one_ints (k : IntKind) (zs : List Int) : ∀ u ∈ zs.map (Value.int k), u.oneCell' = true := ints_oneCell k zs
theorem below_drewN {B : Nat} {a w : World} (h : Below B a w) (n : Nat) : Below B a (w.drewN n) := ⟨h.os, h.tape, h.output, h.size, h.block⟩
theorem bcell {W w1 : World} (hb : Below W.heap.size W w1) : (∀ b o, b < W.heap.size → w1.cell? ⟨b, o, none⟩ = W.cell? ⟨b, o, none⟩) ∧ (∀ b o, b < W.heap.size → w1.frozen? ⟨b, o, none⟩ = W.frozen? ⟨b, o, none⟩) :=
  ⟨fun b o h => hb.cell (p := ⟨b, o, none⟩) h, fun b o h => hb.frozen (p := ⟨b, o, none⟩) h⟩
/-! ### a block that is known whole -/
/-- block g is just these cells, of an element type, none of them a string's -/
def Blk (w : World) (g : Nat) (t : TypeId) (cs : Array Value) : Prop := w.heap[g]? = some (.cells cs t (0, 0))
section
variable {w w' : World} {g B : Nat} {t : TypeId} {cs : Array Value} {o : Obj}
theorem Blk.lt (h : Blk w g t cs) : g < w.heap.size := (Array.getElem?_eq_some_iff.1 h).1
theorem Blk.cell (h : Blk w g t cs) (i : Nat) : w.cell? ⟨g, i, none⟩ = cs[i]? := cell_of_row w g i cs t (0, 0) h
theorem Blk.frozen (h : Blk w g t cs) (i : Nat) : w.frozen? ⟨g, i, none⟩ = false := by
  unfold Blk at h
  simp [World.frozen?, h]
theorem Blk.new : Blk (w.alloc (.cells cs t)) w.heap.size t cs := heap_alloc_new w _
theorem Blk.drew (h : Blk w g t cs) : Blk w.drew g t cs := h
theorem Blk.drewN (h : Blk w g t cs) (n : Nat) : Blk (w.drewN n) g t cs := h
theorem Blk.alloc (h : Blk w g t cs) : Blk (w.alloc o) g t cs := (Below.heap_alloc w o g h.lt).trans h
theorem Blk.set_ (h : Blk w g t cs) (i : Nat) (u : Value) : Blk (w.setCell ⟨g, i, none⟩ u) g t (cs.setIfInBounds i u) := by
  unfold Blk at h ⊢
  simp [World.setCell, Array.getElem?_modify, h]
theorem Blk.far (h : Blk w g t cs) {p : Addr} (hp : g ≠ p.block) {u : Value} : Blk (w.setCell p u) g t cs := (Below.heap_setCell w p u g hp).trans h
theorem Blk.below (h : Blk w g t cs) (hb : Below B w w') (hg : g < B) : Blk w' g t cs := (hb.block g hg).trans h
theorem Blk.belowS (h : Blk w g t cs) (hb : Below w.heap.size w w') : Blk w' g t cs := h.below hb h.lt
theorem Blk.grown {row : Option Nat} (h : Blk w g t cs) (hb : w.grownBy w' row) (hg : some g ≠ row) : Blk w' g t cs := (hb.block g h.lt hg).trans h
end
/-! ### a cell is kept -/
section
variable {w : World} {p q : Addr} {u v : Value} {o : Obj} {b : Bool}
theorem lt_of_cell (h : w.cell? q = some v) : q.block < w.heap.size := World.block_lt_of_cell? w q h
theorem keep_alloc (h : w.cell? q = some v) : (w.alloc o).cell? q = some v := (World.cell?_alloc_lt w o q (lt_of_cell h)).trans h
theorem keep_set (hb : p.block ≠ q.block) (h : w.cell? q = some v) : (w.setCell p u).cell? q = some v := (World.cell?_setCell_other w p q u (fun e => hb (by rw [e]))).trans h
theorem keep_drew (h : w.cell? q = some v) : w.drew.cell? q = some v := h
theorem keep_drewN {n : Nat} (h : w.cell? q = some v) : (w.drewN n).cell? q = some v := h
end
theorem take_snoc {α : Type} (l : List α) (k : Nat) (h : k < l.length) : l.take (k + 1) = l.take k ++ [l[k]] := by
  rw [List.take_succ_eq_append_getElem h]
end Mem
end Go.Proofs.Ytnaidihoijociaa
