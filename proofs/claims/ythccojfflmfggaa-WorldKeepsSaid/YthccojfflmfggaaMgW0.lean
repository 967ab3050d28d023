/- Words for memory: a slice that came in, read as a list of cells. -/
import Derived.WalkKit
import Derived.Below
import Derived.Laws.OwnMore
import Derived.Deep.Draws
import Derived.Lib.Hide
import Derived.Maps.AppendAt
import Derived.Deep.AppendLies
import Derived.RegionTactic
import Derived.OwnWalk
import Derived.Laws.CopyRow
import Derived.Deep.AppendSrc
import Derived.Lib.AppendZerosOnto
import Derived.Lib.Overlaps
import Derived.Deep.RegionLaw
import Derived.Lib.Bytealg
namespace Go.Proofs.Ythccojfflmfggaa
open Go.RowKit
namespace Mem
theorem add_block (a : Addr) (n : Nat) : (a.add n).block = a.block := by unfold Addr.add; split <;> rfl
theorem add_add (a : Addr) (i j : Nat) : (a.add i).add j = a.add (i + j) := by
  unfold Addr.add
  by_cases hi : i = 0 <;> by_cases hj : j = 0 <;> simp [hi, hj, Nat.add_assoc]
/-- from an address on lie just these cells -/
def Cells (w : World) (ad : Addr) (xs : List Value) : Prop := ∀ (j : Nat) (h : j < xs.length), w.cell? (ad.add j) = some xs[j]
/-- a slice's address, length and capacity: it holds these cells, of 'size' cells an element, below block B -/
def Sl (w : World) (B size : Nat) (A : Option Addr) (n : Nat) (xs : List Value) : Prop :=
  xs.length = n * size ∧ (0 < n → ∃ ad, A = some ad ∧ ad.block < B ∧ Cells w ad xs)
section
variable {w w' : World} {B B' size n : Nat} {A : Option Addr} {ad : Addr} {xs ys : List Value}
theorem Cells.keep (h : Cells w ad xs) (hk : ∀ p : Addr, p.block = ad.block → w'.cell? p = w.cell? p) : Cells w' ad xs :=
  fun j hj => (hk _ (add_block ad j)).trans (h j hj)
theorem add_zero_off (b i : Nat) : (Addr.add ⟨b, 0, none⟩ i) = ⟨b, i, none⟩ := by
  unfold Addr.add
  split
  · subst_vars; rfl
  · simp
theorem Cells.of_block {g : Nat} {cs : Array Value} {t : TypeId} {fz : Nat × Nat} (h : w.heap[g]? = some (.cells cs t fz)) : Cells w ⟨g, 0, none⟩ cs.toList := by
  intro j hj
  have hj' : j < cs.size := by simpa using hj
  rw [add_zero_off]
  simp [World.cell?, h, Array.getElem?_eq_getElem hj']
theorem Cells.new (w : World) (cs : Array Value) (t : TypeId) (fz : Nat × Nat) : Cells (w.alloc (.cells cs t fz)) ⟨w.heap.size, 0, none⟩ cs.toList :=
  Cells.of_block (heap_alloc_new w _)
theorem Sl.nil : Sl w B size A 0 [] := ⟨by simp, fun h => absurd h (by omega)⟩
theorem Sl.keep (h : Sl w B size A n xs) (hk : ∀ p : Addr, p.block < B → w'.cell? p = w.cell? p) : Sl w' B size A n xs :=
  ⟨h.1, fun hn => by
    obtain ⟨ad, e, hb, hc⟩ := h.2 hn
    exact ⟨ad, e, hb, hc.keep fun p hp => hk p (by omega)⟩⟩
theorem Sl.more (h : Sl w B size A n xs) (hB : B ≤ B') : Sl w B' size A n xs :=
  ⟨h.1, fun hn => by
    obtain ⟨ad, e, hb, hc⟩ := h.2 hn
    exact ⟨ad, e, by omega, hc⟩⟩
theorem Sl.below (h : Sl w B size A n xs) (hb : Below B w w') : Sl w' B size A n xs := h.keep fun _ hp => hb.cell hp
theorem Sl.drew (h : Sl w B size A n xs) : Sl w.drew B size A n xs := h
theorem Sl.drewN (h : Sl w B size A n xs) (k : Nat) : Sl (w.drewN k) B size A n xs := h
theorem Sl.alloc (h : Sl w B size A n xs) (hB : B ≤ w.heap.size) (o : Obj) : Sl (w.alloc o) B size A n xs := h.keep fun p hp => World.cell?_alloc_lt w o p (by omega)
theorem Sl.setCell (h : Sl w B size A n xs) {p : Addr} (hB : B ≤ p.block) (u : Value) : Sl (w.setCell p u) B size A n xs :=
  h.keep fun q hq => World.cell?_setCell_other w p q u (fun e => by subst e; omega)
theorem Sl.at_ {k : Nat} (h : Sl w B 1 A n xs) (hk : k < n) : ∃ (ad : Addr) (hl : k < xs.length), A = some ad ∧ ad.block < B ∧ w.cell? (ad.add k) = some xs[k] := by
  obtain ⟨ad, e, hb, hc⟩ := h.2 (by omega)
  have hl : k < xs.length := by have := h.1; omega
  exact ⟨ad, hl, e, hb, hc k hl⟩
end
/-- a slice of numbers that came in -/
def Ints (w : World) (B : Nat) (k : IntKind) (A : Option Addr) (n : Nat) (zs : List Int) : Prop := Sl w B 1 A n (zs.map (Value.int k))
section
variable {w w' : World} {B B' n : Nat} {A : Option Addr} {kd : IntKind} {zs : List Int}
theorem Ints.len (h : Ints w B kd A n zs) : zs.length = n := by have := h.1; simpa using this
theorem Ints.at_ {k : Nat} (h : Ints w B kd A n zs) (hk : k < n) : ∃ (ad : Addr) (z : Int) (hl : k < zs.length), A = some ad ∧ ad.block < B ∧ zs[k] = z ∧ w.cell? (ad.add k) = some (.int kd z) := by
  obtain ⟨ad, hl, e, hb, hc⟩ := Sl.at_ h hk
  exact ⟨ad, _, by simpa using hl, e, hb, rfl, by simpa using hc⟩
theorem Ints.keep (h : Ints w B kd A n zs) (hk : ∀ p : Addr, p.block < B → w'.cell? p = w.cell? p) : Ints w' B kd A n zs := Sl.keep h hk
theorem Ints.more (h : Ints w B kd A n zs) (hB : B ≤ B') : Ints w B' kd A n zs := Sl.more h hB
theorem Ints.below (h : Ints w B kd A n zs) (hb : Below B w w') : Ints w' B kd A n zs := Sl.below h hb
theorem Ints.alloc (h : Ints w B kd A n zs) (hB : B ≤ w.heap.size) (o : Obj) : Ints (w.alloc o) B kd A n zs := Sl.alloc h hB o
theorem Ints.nil : Ints w B kd A 0 [] := Sl.nil
end
/-! ### append onto a row of the call's own -/
/-- what an append asks of the slice's type and its element's -/
structure El (P : Program) (t e : TypeId) (z : Value) (size bytes : Nat) : Prop where
  ty : P.underlying t = some (.slice e)
  info : (P.info? e).map (fun i => (i.zero, i.size, i.bytes)) = some (some z, size, bytes)
  zs : z.cells.size = size
  pos : 0 < size
section
variable {P : Program} {w w' : World} {B base size bytes n m c : Nat} {t e ty : TypeId} {A : Option Addr} {xs news : List Value} {v z : Value}
theorem own_form (h : w.ownsRow base e size v n xs) : ∃ A' c', v = .slice A' n c' ∧ Sl w w.heap.size size A' n xs ∧ (∀ a, A' = some a → base ≤ a.block) ∧ n ≤ c' ∧ c' ≤ maxLen := by
  rcases h.2 with ⟨rfl, rfl⟩ | ⟨g, cap, cur, rfl, hb, hg, hn, hm, _, _⟩
  · have hx : xs = [] := List.eq_nil_of_length_eq_zero (by simpa using h.1)
    subst hx
    exact ⟨none, 0, rfl, Sl.nil, by simp, by simp, by simp⟩
  · refine ⟨_, _, rfl, ⟨h.1, fun _ => ⟨_, rfl, (Array.getElem?_eq_some_iff.1 hg).1, fun j hj => h.cells (g := g) rfl j _ (List.getElem?_eq_getElem hj)⟩⟩, ?_, hn, hm⟩
    intro a ha; injection ha with ha; subst ha; exact hb
theorem own_lit {cs : Array Value} {g : Nat} (hg : w.heap.size = g) (hb : base ≤ g) (hm : n ≤ maxLen) (hs : cs.size = n * size) (hx : cs.toList = xs) :
    (w.alloc (.cells cs e)).ownsRow base e size (.slice (some ⟨g, 0, none⟩) n n) n xs := by
  subst hg; subst hx; exact World.ownsRow_lit w cs n hb hm hs
theorem own_nil : w.ownsRow base e size (.slice none 0 0) 0 [] := World.ownsRow_nil w base e size
theorem run_app (E : El P t e z size bytes) (hown : w.ownsRow base e size v n xs) (hs : Sl w B size A m news) (h1 : ∀ u ∈ news, u.oneCell' = true)
    (h63 : n + m ≤ maxLen) (hbytes : (n + m) * bytes ≤ 140737488355328) (hbase : base ≤ w.heap.size) :
    ∃ v' w', (Builtin.append_ #[t, t] ty #[v, .slice A m c]).run P w = .ok v' w' ∧ w'.ownsRow base e size v' (n + m) (xs ++ news) ∧ w.grownBy w' v.ownBlock ∧
      (v'.ownBlock = v.ownBlock ∨ v'.ownBlock = some w.heap.size) := by
  obtain ⟨i, hi, hz, hz1, hz2⟩ := info_parts E.info
  rcases Nat.eq_zero_or_pos m with h0 | h0
  · subst h0
    have hn : news = [] := List.eq_nil_of_length_eq_zero (by simpa using hs.1)
    subst hn
    have hnil : ∀ (A : Option Addr), (Builtin.append_ #[t, t] ty #[v, .slice A 0 c]).run P w = .ok v w := by
      intro A
      rcases hown.2 with ⟨rfl, rfl⟩ | ⟨g, cap, cur, rfl, _, _, hnc, _⟩
      · cases A <;> simp [Builtin.append_, run_underlying E.ty, sizeOf, typeInfo, hi, Builtin.lenOf, Builtin.firstCells, loadCells, loadCellsFrom]
      · cases A <;> simp [Builtin.append_, run_underlying E.ty, sizeOf, typeInfo, hi, Builtin.lenOf, Builtin.firstCells, hnc, storeCells, loadCells, loadCellsFrom]
    exact ⟨v, w, hnil A, by simpa using hown, World.grownBy.refl w _, .inl rfl⟩
  · obtain ⟨ad, rfl, _, hc⟩ := hs.2 h0
    obtain ⟨v', w', hr, h2, h3, _, h5⟩ := run_append_own_at (P := P) w base t ty e i z size bytes E.ty hi hz hz1 hz2 E.zs E.pos v n xs hown ad m c news hs.1
      (fun j u hu => by obtain ⟨hj, e⟩ := List.getElem?_eq_some_iff.1 hu; rw [← e]; exact hc j hj) h1 h63 hbytes hbase
    exact ⟨v', w', hr, h2, h3, h5⟩
theorem new_sl {cs : Array Value} {g : Nat} {fz : Nat × Nat} (hg : w.heap.size = g) (hs : cs.size = n * size) (hx : cs.toList = xs) :
    Sl (w.alloc (.cells cs e fz)) (g + 1) size (some ⟨g, 0, none⟩) n xs := by
  subst hg; subst hx
  exact ⟨by simpa using hs, fun _ => ⟨_, rfl, Nat.lt_succ_self _, Cells.new w cs e fz⟩⟩
theorem wp_app {o : Oper} {a : Act} {K : Act → World → Prop} {Q : Exit → Act → World → Prop} {s x : Operand} {N : Nat} {ys : List Value}
    (ho : o.op = .call { callee := .builtin .append, args := #[s, x], argTypes := #[t, t] })
    (E : El P t e z size bytes) (hown : w.ownsRow base e size v n xs) (hv : a.eval s = v) (hx : a.eval x = .slice A m c) (hs : Sl w B size A m news) (h1 : ∀ u ∈ news, u.oneCell' = true)
    (hN : n + m = N) (hys : xs ++ news = ys) (h63 : N ≤ maxLen) (hbytes : N * bytes ≤ 140737488355328) (hbase : base ≤ w.heap.size)
    (h : ∀ A' c' w', w'.ownsRow base e size (.slice A' N c') N ys → w.grownBy w' v.ownBlock → ((Value.slice A' N c').ownBlock = v.ownBlock ∨ (Value.slice A' N c').ownBlock = some w.heap.size) →
      K (a.put o.dst (.slice A' N c')) w') : o.wp P a w K Q := by
  subst hN; subst hys
  obtain ⟨v', w', hr, h2, h3, h4⟩ := run_app (P := P) (ty := o.type) (c := c) E hown hs h1 h63 hbytes hbase
  obtain ⟨A', c', rfl, _⟩ := own_form h2
  unfold Oper.wp execOp
  simp only [ho, resolve, invoke, builtin, Sem.run_bind, Sem.run_pure, Result.andThen_ok, List.map_toArray, List.map_cons, List.map_nil, hv, hx, hr]
  exact h A' c' w' h2 h3 h4
theorem wpList_app {ops : Array Oper} {rest : List Oper} {o : Oper} {a : Act} {Q : Exit → Act → World → Prop} {s x : Operand} {N : Nat} {ys : List Value} (hgd : o.guard = none)
    (ho : o.op = .call { callee := .builtin .append, args := #[s, x], argTypes := #[t, t] })
    (E : El P t e z size bytes) (hown : w.ownsRow base e size v n xs) (hv : a.eval s = v) (hx : a.eval x = .slice A m c) (hs : Sl w B size A m news) (h1 : ∀ u ∈ news, u.oneCell' = true)
    (hN : n + m = N) (hys : xs ++ news = ys) (h63 : N ≤ maxLen) (hbytes : N * bytes ≤ 140737488355328) (hbase : base ≤ w.heap.size)
    (h : ∀ A' c' w', w'.ownsRow base e size (.slice A' N c') N ys → w.grownBy w' v.ownBlock → ((Value.slice A' N c').ownBlock = v.ownBlock ∨ (Value.slice A' N c').ownBlock = some w.heap.size) →
      wpList P ops Q rest (a.put o.dst (.slice A' N c')) w') : wpList P ops Q (o :: rest) a w :=
  wpList_plain hgd fun _ hK => wp_app ho E hown hv hx hs h1 hN hys h63 hbytes hbase fun A' c' w' h2 h3 h4 => hK _ _ (h A' c' w' h2 h3 h4)
end
theorem one_ints (k : IntKind) (zs : List Int) : ∀ u ∈ zs.map (Value.int k), u.oneCell' = true := ints_oneCell k zs
theorem below_drewN {B : Nat} {a w : World} (h : Below B a w) (n : Nat) : Below B a (w.drewN n) := ⟨h.os, h.tape, h.output, h.size, h.block⟩
theorem bcell {W w1 : World} (hb : Below W.heap.size W w1) : (∀ b o, b < W.heap.size → w1.cell? ⟨b, o, none⟩ = W.cell? ⟨b, o, none⟩) ∧ (∀ b o, b < W.heap.size → w1.frozen? ⟨b, o, none⟩ = W.frozen? ⟨b, o, none⟩) :=
  ⟨fun b o h => hb.cell (p := ⟨b, o, none⟩) h, fun b o h => hb.frozen (p := ⟨b, o, none⟩) h⟩
/-! ### a block that is known whole -/
/-- block g is just these cells, of an element type, none of them a string's -/
def Blk (w : World) (g : Nat) (t : TypeId) (cs : Array Value) : Prop := w.heap[g]? = some (.cells cs t (0, 0))
section
variable {w w' : World} {g B : Nat} {t : TypeId} {cs : Array Value} {o : Obj}
theorem Blk.lt (h : Blk w g t cs) : g < w.heap.size := (Array.getElem?_eq_some_iff.1 h).1
theorem Blk.cell (h : Blk w g t cs) (i : Nat) : w.cell? ⟨g, i, none⟩ = cs[i]? := cell_of_row w g i cs t (0, 0) h
theorem Blk.frozen (h : Blk w g t cs) (i : Nat) : w.frozen? ⟨g, i, none⟩ = false := by
  unfold Blk at h
  simp [World.frozen?, h]
theorem Blk.new : Blk (w.alloc (.cells cs t)) w.heap.size t cs := heap_alloc_new w _
theorem Blk.drew (h : Blk w g t cs) : Blk w.drew g t cs := h
theorem Blk.drewN (h : Blk w g t cs) (n : Nat) : Blk (w.drewN n) g t cs := h
theorem Blk.alloc (h : Blk w g t cs) : Blk (w.alloc o) g t cs := (Below.heap_alloc w o g h.lt).trans h
theorem Blk.set_ (h : Blk w g t cs) (i : Nat) (u : Value) : Blk (w.setCell ⟨g, i, none⟩ u) g t (cs.setIfInBounds i u) := by
  unfold Blk at h ⊢
  simp [World.setCell, Array.getElem?_modify, h]
theorem Blk.far (h : Blk w g t cs) {p : Addr} (hp : g ≠ p.block) {u : Value} : Blk (w.setCell p u) g t cs := (Below.heap_setCell w p u g hp).trans h
theorem Blk.below (h : Blk w g t cs) (hb : Below B w w') (hg : g < B) : Blk w' g t cs := (hb.block g hg).trans h
theorem Blk.belowS (h : Blk w g t cs) (hb : Below w.heap.size w w') : Blk w' g t cs := h.below hb h.lt
theorem Blk.grown {row : Option Nat} (h : Blk w g t cs) (hb : w.grownBy w' row) (hg : some g ≠ row) : Blk w' g t cs := (hb.block g h.lt hg).trans h
end
/-! ### a cell is kept -/
section
variable {w : World} {p q : Addr} {u v : Value} {o : Obj} {b : Bool}
theorem lt_of_cell (h : w.cell? q = some v) : q.block < w.heap.size := World.block_lt_of_cell? w q h
theorem keep_alloc (h : w.cell? q = some v) : (w.alloc o).cell? q = some v := (World.cell?_alloc_lt w o q (lt_of_cell h)).trans h
theorem keep_set (hb : p.block ≠ q.block) (h : w.cell? q = some v) : (w.setCell p u).cell? q = some v := (World.cell?_setCell_other w p q u (fun e => hb (by rw [e]))).trans h
theorem keep_drew (h : w.cell? q = some v) : w.drew.cell? q = some v := h
theorem keep_drewN {n : Nat} (h : w.cell? q = some v) : (w.drewN n).cell? q = some v := h
end
theorem take_snoc {α : Type} (l : List α) (k : Nat) (h : k < l.length) : l.take (k + 1) = l.take k ++ [l[k]] := by
  rw [List.take_succ_eq_append_getElem h]
end Mem
end Go.Proofs.Ythccojfflmfggaa
/- Words for rows with an offset: slices of elements of k cells, somewhere in a block; what an operation leaves alone. -/
namespace Go.Proofs.Ythccojfflmfggaa
open Go.RowKit
namespace Ro
/-! ### what an operation leaves alone -/
structure Only (S : Nat → Prop) (w w' : World) : Prop where
  os : w'.os = w.os
  tape : w'.tape = w.tape
  output : w'.output = w.output
  size : w.heap.size ≤ w'.heap.size
  block : ∀ k, k < w.heap.size → ¬ S k → w'.heap[k]? = w.heap[k]?
section
variable {S T : Nat → Prop} {w w1 w' : World}
theorem Only.refl (S : Nat → Prop) (w : World) : Only S w w := ⟨rfl, rfl, rfl, Nat.le_refl _, fun _ _ _ => rfl⟩
theorem Only.trans (h : Only S w w1) (h2 : Only T w1 w') (hT : ∀ k, k < w.heap.size → T k → S k) : Only S w w' :=
  ⟨h2.os.trans h.os, h2.tape.trans h.tape, h2.output.trans h.output, Nat.le_trans h.size h2.size, fun k hk hS => (h2.block k (Nat.lt_of_lt_of_le hk h.size) (fun c => hS (hT k hk c))).trans (h.block k hk hS)⟩
theorem Only.mono (h : Only S w w') (hS : ∀ k, k < w.heap.size → S k → T k) : Only T w w' := ⟨h.os, h.tape, h.output, h.size, fun k hk hT => h.block k hk (fun c => hT (hS k hk c))⟩
theorem Only.of_below (h : Below w.heap.size w w') : Only S w w' := ⟨h.os, h.tape, h.output, h.size, fun k hk _ => h.block k hk⟩
theorem Only.below {B : Nat} (h : Only S w w') (hB : B ≤ w.heap.size) (hS : ∀ k, k < B → ¬ S k) : Below B w w' := ⟨h.os, h.tape, h.output, h.size, fun k hk => h.block k (Nat.lt_of_lt_of_le hk hB) (hS k hk)⟩
theorem Only.setCell (w : World) (p : Addr) (u : Value) : Only (fun k => k = p.block) w (w.setCell p u) := ⟨rfl, rfl, rfl, by simp, fun k _ hS => Below.heap_setCell w p u k hS⟩
theorem Only.undrew (h : Only S w.drew w') : Only S w w' := ⟨h.os, h.tape, h.output, h.size, h.block⟩
theorem Only.drew (h : Only S w w') : Only S w w'.drew := ⟨h.os, h.tape, h.output, h.size, h.block⟩
theorem Only.alloc (h : Only S w w') (o : Obj) : Only S w (w'.alloc o) := h.trans (T := fun _ => False) ⟨rfl, rfl, rfl, by simp, fun k hk _ => Below.heap_alloc w' o k hk⟩ (fun _ _ c => c.elim)
end
/-! ### rows -/
def blk (A : Option Addr) : Option Nat := A.map (·.block)
def Row (w : World) (e : TypeId) (k : Nat) (A : Option Addr) (n c : Nat) (xs : List Value) : Prop :=
  xs.length = n * k ∧ n ≤ c ∧ c ≤ maxLen ∧ ((A = none ∧ c = 0) ∨ ∃ g off cur, A = some ⟨g, off, none⟩ ∧ w.heap[g]? = some (.cells cur e (0, 0)) ∧ off + c * k ≤ cur.size ∧ (cur.toList.drop off).take (n * k) = xs)
/-- a list with another laid over it from a place on -/
def over (xs : List Value) (o : Nat) (vs : List Value) : List Value := xs.take o ++ vs ++ xs.drop (o + vs.length)
section
variable {w w' : World} {e : TypeId} {k n c g off : Nat} {A : Option Addr} {xs vs : List Value}
theorem over_len {o : Nat} (h : o + vs.length ≤ xs.length) : (over xs o vs).length = xs.length := by unfold over; simp; omega
theorem Row.nil : Row w e k none 0 0 [] := ⟨by simp, Nat.le_refl _, by decide, .inl ⟨rfl, rfl⟩⟩
theorem Row.new {cs : Array Value} (hn : cs.size = n * k) (hm : n ≤ maxLen) : Row (w.alloc (.cells cs e)) e k (some ⟨w.heap.size, 0, none⟩) n n cs.toList :=
  ⟨by simpa using hn, Nat.le_refl _, hm, .inr ⟨_, 0, cs, rfl, heap_alloc_new w _, by omega, by rw [List.drop_zero, List.take_of_length_le (by simp; omega)]⟩⟩
theorem Row.len (h : Row w e k A n c xs) : xs.length = n * k := h.1
theorem Row.le (h : Row w e k A n c xs) : n ≤ c ∧ c ≤ maxLen := ⟨h.2.1, h.2.2.1⟩
theorem Row.some_of (h : Row w e k A n c xs) (hn : 0 < c) : ∃ g off, A = some ⟨g, off, none⟩ := by
  rcases h.2.2.2 with ⟨_, h0⟩ | ⟨g, off, _, hA, _⟩
  · omega
  · exact ⟨g, off, hA⟩
theorem Row.lt (h : Row w e k A n c xs) (hg : blk A = some g) : g < w.heap.size := by
  rcases h.2.2.2 with ⟨rfl, _⟩ | ⟨g', off, cur, rfl, hh, _⟩
  · cases hg
  · obtain rfl : g' = g := by simpa [blk] using hg
    exact (Array.getElem?_eq_some_iff.1 hh).1
theorem Row.type (h : Row w e k A n c xs) (hg : blk A = some g) : ∃ cur, w.heap[g]? = some (.cells cur e (0, 0)) := by
  rcases h.2.2.2 with ⟨rfl, _⟩ | ⟨g', off, cur, rfl, hh, _⟩
  · cases hg
  · obtain rfl : g' = g := by simpa [blk] using hg
    exact ⟨cur, hh⟩
theorem Row.keep (h : Row w e k A n c xs) (hk : ∀ g, blk A = some g → w'.heap[g]? = w.heap[g]?) : Row w' e k A n c xs := by
  obtain ⟨h1, h2, h3, h4⟩ := h
  refine ⟨h1, h2, h3, ?_⟩
  rcases h4 with h4 | ⟨g, off, cur, rfl, hh, r⟩
  · exact .inl h4
  · exact .inr ⟨g, off, cur, rfl, (hk g rfl).trans hh, r⟩
theorem Row.only {S : Nat → Prop} (h : Row w e k A n c xs) (ho : Only S w w') (hS : ∀ g, blk A = some g → ¬ S g) : Row w' e k A n c xs :=
  h.keep fun g hg => ho.block g (h.lt hg) (hS g hg)
/-- rows of unlike elements lie apart; so does a block of another type -/
theorem Row.apart {e2 : TypeId} {k2 n2 c2 : Nat} {A2 : Option Addr} {xs2 : List Value} (h : Row w e k A n c xs) (h2 : Row w e2 k2 A2 n2 c2 xs2) (he : e ≠ e2) : ∀ g, blk A = some g → ¬ blk A2 = some g := by
  intro g hg hg2
  obtain ⟨c1, hc1⟩ := h.type hg
  obtain ⟨c2, hc2⟩ := h2.type hg2
  rw [hc1] at hc2
  exact he (by simpa using congrArg (fun o => match o with | some (Obj.cells _ t _) => t | _ => 0) hc2)
theorem Row.apartB {t : TypeId} {cs : Array Value} {g2 : Nat} (h : Row w e k A n c xs) (h2 : Mem.Blk w g2 t cs) (he : e ≠ t) : ∀ g, blk A = some g → ¬ g = g2 := by
  rintro g hg rfl
  obtain ⟨c1, hc1⟩ := h.type hg
  unfold Mem.Blk at h2
  rw [hc1] at h2
  exact he (by simpa using congrArg (fun o => match o with | some (Obj.cells _ t _) => t | _ => 0) h2)
theorem Row.cell (h : Row w e k (some ⟨g, off, none⟩) n c xs) (j : Nat) (hj : j < xs.length) : w.cell? ⟨g, off + j, none⟩ = some xs[j] := by
  obtain ⟨h1, h2, h3, ⟨h4, _⟩ | ⟨g', off', cur, hA, hg, hfit, htk⟩⟩ := h
  · cases h4
  · simp only [Option.some.injEq, Addr.mk.injEq, and_true] at hA
    obtain ⟨rfl, rfl⟩ := hA
    subst htk
    have hc : n * k ≤ c * k := Nat.mul_le_mul_right _ h2
    have hs : off + j < cur.size := by simp at hj; omega
    rw [cell_of_row w g (off + j) cur e (0, 0) hg, Array.getElem?_eq_getElem hs]
    simp
theorem Row.frozen (h : Row w e k (some ⟨g, off, none⟩) n c xs) (j : Nat) : w.frozen? ⟨g, j, none⟩ = false := by
  obtain ⟨cur, hc⟩ := h.type (g := g) rfl
  simp [World.frozen?, hc]
theorem Row.sl (h : Row w e k A n c xs) : Mem.Sl w w.heap.size k A n xs := by
  refine ⟨h.1, fun hn => ?_⟩
  obtain ⟨g, off, rfl⟩ := h.some_of (by have := h.2.1; omega)
  exact ⟨_, rfl, h.lt rfl, fun j hj => by rw [Addr.add_lit]; exact h.cell j hj⟩
/-- the first i -/
theorem Row.cut (h : Row w e k A n c xs) (i : Nat) (hi : i ≤ n) : Row w e k A i c (xs.take (i * k)) := by
  obtain ⟨h1, h2, h3, h4⟩ := h
  have hm : i * k ≤ n * k := Nat.mul_le_mul_right _ hi
  refine ⟨by simp; omega, by omega, h3, ?_⟩
  rcases h4 with h4 | ⟨g, off, cur, rfl, hh, hf, ht⟩
  · exact .inl h4
  · refine .inr ⟨g, off, cur, rfl, hh, hf, ?_⟩
    rw [← ht, List.take_take, Nat.min_eq_left hm]
/-- from i on -/
theorem Row.from_ (h : Row w e k (some ⟨g, off, none⟩) n c xs) (i : Nat) (hi : i ≤ n) : Row w e k (if c = i then some ⟨g, off, none⟩ else some ⟨g, off + i * k, none⟩) (n - i) (c - i) (xs.drop (i * k)) := by
  obtain ⟨h1, h2, h3, ⟨h4, _⟩ | ⟨g', off', cur, hA, hg, hfit, htk⟩⟩ := h
  · cases h4
  · simp only [Option.some.injEq, Addr.mk.injEq, and_true] at hA
    obtain ⟨rfl, rfl⟩ := hA
    have e1 : (n - i) * k = n * k - i * k := Nat.sub_mul _ _ _
    have e2 : (c - i) * k = c * k - i * k := Nat.sub_mul _ _ _
    have hm : i * k ≤ n * k := Nat.mul_le_mul_right _ hi
    have hc : n * k ≤ c * k := Nat.mul_le_mul_right _ h2
    refine ⟨by rw [List.length_drop, h1, e1], by omega, by omega, .inr ?_⟩
    by_cases hci : c = i
    · rw [if_pos hci]
      obtain rfl : n = i := by omega
      refine ⟨g, off, cur, rfl, hg, by rw [e2]; omega, ?_⟩
      rw [Nat.sub_self, Nat.zero_mul, List.take_zero, List.drop_of_length_le (by omega)]
    · rw [if_neg hci]
      refine ⟨g, off + i * k, cur, rfl, hg, by rw [e2]; omega, ?_⟩
      rw [← htk, List.drop_take, List.drop_drop, e1]
/-- all that there is room for -/
theorem Row.full (h : Row w e k A n c xs) : ∃ ys, Row w e k A c c ys ∧ ys.take (n * k) = xs := by
  obtain ⟨h1, h2, h3, h4⟩ := h
  have hc : n * k ≤ c * k := Nat.mul_le_mul_right _ h2
  rcases h4 with ⟨rfl, rfl⟩ | ⟨g, off, cur, rfl, hh, hf, ht⟩
  · obtain rfl : n = 0 := by omega
    have hx : xs = [] := List.eq_nil_of_length_eq_zero (by simpa using h1)
    subst hx
    exact ⟨[], Row.nil, by simp⟩
  · refine ⟨(cur.toList.drop off).take (c * k), ⟨by simp; omega, Nat.le_refl _, h3, .inr ⟨g, off, cur, rfl, hh, hf, rfl⟩⟩, ?_⟩
    rw [List.take_take, Nat.min_eq_left hc, ht]
/-- cells are stored -/
theorem Row.put {P : Program} (h : Row w e k (some ⟨g, off, none⟩) n c xs) (o : Nat) (vs : List Value) (ho : o + vs.length ≤ n * k) (h1 : ∀ v ∈ vs, v.oneCell' = true) :
    ∃ w', (storeCells ⟨g, off + o, none⟩ vs 0).run P w = .ok () w' ∧ Row w' e k (some ⟨g, off, none⟩) n c (over xs o vs) ∧ Only (fun b => b = g) w w' := by
  have hxl := h.1
  obtain ⟨hl, h2, h3, ⟨h4, _⟩ | ⟨g', off', cur, hA, hg, hfit, htk⟩⟩ := h
  · cases h4
  · simp only [Option.some.injEq, Addr.mk.injEq, and_true] at hA
    obtain ⟨rfl, rfl⟩ := hA
    have hc : n * k ≤ c * k := Nat.mul_le_mul_right _ h2
    have hr := run_storeCells_at P g (off + o) e vs 0 cur w hg (by omega) h1
    simp only [Nat.add_zero] at hr
    refine ⟨_, hr, ⟨by rw [over_len (by omega)]; exact hl, h2, h3, .inr ⟨g, off, _, rfl, setRow_heap w g cur _ e _ hg, ?_, ?_⟩⟩, ⟨rfl, rfl, rfl, by simp [World.setRow], fun b _ hb => setRow_other w g b _ hb⟩⟩
    · simp; omega
    · subst htk
      unfold over
      apply List.ext_getElem?
      intro j
      simp only [List.getElem?_take, List.getElem?_drop, List.getElem?_append, List.length_append, List.length_take, List.length_drop, Array.length_toList]
      have m1 : min (off + o) cur.size = off + o := by omega
      have m2 : min o (min (n * k) (cur.size - off)) = o := by omega
      rw [m1, m2]
      by_cases j1 : j < o
      · have a1 : j < n * k := by omega
        have a2 : off + j < off + o + vs.length := by omega
        have a3 : off + j < off + o := by omega
        have a4 : j < o + vs.length := by omega
        simp [a1, a2, a3, a4, j1]
      · by_cases j2 : j < o + vs.length
        · have a1 : j < n * k := by omega
          have a2 : off + j < off + o + vs.length := by omega
          have a3 : ¬ off + j < off + o := by omega
          simp [a1, a2, a3, j1, j2]
          congr 1
          omega
        · have a2 : ¬ off + j < off + o + vs.length := by omega
          by_cases j3 : j < n * k
          · have b1 : o + vs.length + (j - (o + vs.length)) < n * k := by omega
            simp [a2, j2, j3, b1]
            congr 1
            omega
          · have b1 : ¬ o + vs.length + (j - (o + vs.length)) < n * k := by omega
            simp [j2, j3, b1]
theorem Row.set1 (h : Row w e k (some ⟨g, off, none⟩) n c xs) (j : Nat) (hj : j < xs.length) (u : Value) : Row (w.setCell ⟨g, off + j, none⟩ u) e k (some ⟨g, off, none⟩) n c (xs.set j u) := by
  obtain ⟨hl, h2, h3, ⟨h4, _⟩ | ⟨g', off', cur, hA, hg, hfit, htk⟩⟩ := h
  · cases h4
  · simp only [Option.some.injEq, Addr.mk.injEq, and_true] at hA
    obtain ⟨rfl, rfl⟩ := hA
    have hc : n * k ≤ c * k := Nat.mul_le_mul_right _ h2
    refine ⟨by simpa using hl, h2, h3, .inr ⟨g, off, cur.setIfInBounds (off + j) u, rfl, ?_, by simpa using hfit, ?_⟩⟩
    · rw [setCell_eq_setRow w g (off + j) cur e (0, 0) u hg]
      exact setRow_heap w g cur _ e _ hg
    · subst htk
      apply List.ext_getElem?
      intro t
      simp only [Array.toList_setIfInBounds, List.getElem?_take, List.getElem?_drop, List.getElem?_set, List.length_take, List.length_drop, Array.length_toList]
      have hj' := hj
      simp only [List.length_take, List.length_drop, Array.length_toList] at hj'
      by_cases ht : t < n * k
      · by_cases e1 : j = t
        · subst e1
          have a1 : off + j < cur.size := by omega
          have a2 : j < cur.size - off := by omega
          simp [ht, a1]
          exact hj'
        · have e2 : ¬ off + j = off + t := by omega
          simp [ht, e1]
      · have e1 : ¬ j = t := by omega
        simp [ht, e1]
theorem over_end {ys news : List Value} {a b : Nat} (hn : news.length = b) (h : a + b ≤ ys.length) : (over ys a news).take (a + b) = ys.take a ++ news := by
  unfold over
  rw [List.take_append_of_le_length (by simp; omega), List.take_of_length_le (by simp; omega)]
/-! ### append, copy, clear -/
variable {P : Program} {t : TypeId} {z : Value} {bytes B m c2 : Nat} {A2 : Option Addr} {news : List Value} {ty : TypeId}
theorem app_room (E : Mem.El P t e z k bytes) (h : Row w e k A n c xs) (hs : Mem.Sl w B k A2 m news) (h1 : ∀ u ∈ news, u.oneCell' = true) (hm : 0 < m) (hroom : n + m ≤ c) :
    ∃ w', (Builtin.append_ #[t, t] ty #[.slice A n c, .slice A2 m c2]).run P w = .ok (.slice A (n + m) c) w' ∧ Row w' e k A (n + m) c (xs ++ news) ∧ Only (fun b => blk A = some b) w w' := by
  obtain ⟨i, hi, hz, hz1, hz2⟩ := info_parts E.info
  obtain ⟨ad, rfl, _, hc⟩ := hs.2 hm
  obtain ⟨g, off, rfl⟩ := h.some_of (by omega)
  obtain ⟨ys, hy, ht⟩ := h.full
  have hxl := h.1
  have hle : (n + m) * k ≤ c * k := Nat.mul_le_mul_right _ hroom
  rw [Nat.add_mul] at hle
  obtain ⟨w', hr, hR, hO⟩ := hy.put (P := P) (n * k) news (by rw [hs.1]; omega) h1
  have hsrc : Src P i.size t (.slice (some ad) m c2) m news w := by
    rw [hz1]
    exact Src.ofSlice w E.ty ad m c2 news hs.1 (fun j u hu => by obtain ⟨hj, e⟩ := List.getElem?_eq_some_iff.1 hu; rw [← e]; exact hc j hj) h1
  refine ⟨w', ?_, ?_, ?_⟩
  · have hcl := hsrc.cells
    rw [hz1] at hcl
    simp [Builtin.append_, run_underlying E.ty, sizeOf, typeInfo, hi, hsrc.len, hroom, hcl, Addr.add_lit, hz1, hr]
  · have := hR.cut (n + m) hroom
    rw [Nat.add_mul, over_end hs.1 (by rw [hy.1]; omega), ht] at this
    exact this
  · exact hO.mono (fun b _ hb => by subst hb; rfl)
theorem size_zeros (z : Array Value) (n : Nat) : (Builtin.zeroCells z n).size = n * z.size := by simp [Builtin.zeroCells]
theorem app_grow (E : Mem.El P t e z k bytes) (h : Row w e k A n c xs) (hs : Mem.Sl w B k A2 m news) (h1 : ∀ u ∈ news, u.oneCell' = true) (hm : 0 < m) (hroom : c < n + m) (h63 : n + m ≤ maxLen) (hbytes : (n + m) * bytes ≤ 140737488355328) :
    ∃ c' w', (Builtin.append_ #[t, t] ty #[.slice A n c, .slice A2 m c2]).run P w = .ok (.slice (some ⟨w.heap.size, 0, none⟩) (n + m) c') w' ∧ Row w' e k (some ⟨w.heap.size, 0, none⟩) (n + m) c' (xs ++ news) ∧ Only (fun _ => False) w w' := by
  obtain ⟨i, hi, hz, hz1, hz2⟩ := info_parts E.info
  obtain ⟨ad, rfl, _, hc⟩ := hs.2 hm
  have hxl := h.1
  have hold : (Builtin.firstCells i.size n (.slice A n c)).run P w.drew = .ok xs.toArray w.drew := by
    rw [hz1]
    rcases h.2.2.2 with ⟨rfl, h0⟩ | ⟨g, off, cur, rfl, _⟩
    · have hn := h.2.1
      obtain rfl : n = 0 := by omega
      have hx : xs = [] := List.eq_nil_of_length_eq_zero (by simpa using hxl)
      subst hx
      exact run_firstCells_none w.drew k 0 0 c
    · exact run_firstCells_some w.drew k n ⟨g, off, none⟩ n c xs hxl (fun j v hj => by
        obtain ⟨hj, e⟩ := List.getElem?_eq_some_iff.1 hj
        rw [← e, Addr.add_lit]
        exact h.cell j hj)
  have hsrc : Src P i.size t (.slice (some ad) m c2) m news w := by
    rw [hz1]
    exact Src.ofSlice w E.ty ad m c2 news hs.1 (fun j u hu => by obtain ⟨hj, e⟩ := List.getElem?_eq_some_iff.1 hu; rw [← e]; exact hc j hj) h1
  have hr := run_append_grow_src (P := P) w t t ty e i z E.ty hi hz A n c xs hold _ m news hsrc hroom (by unfold maxLen at h63; omega) (by rw [hz2]; exact growslice_fits hroom hbytes)
  have hge := grownCap_ge w (n + m) c e
  refine ⟨_, _, hr, ⟨by rw [List.length_append, hxl, hs.1, Nat.add_mul], hge, grownCap_le_maxLen w (n + m) c e h63, .inr ⟨_, 0, _, rfl, heap_alloc_new w.drew _, ?_, ?_⟩⟩, ⟨rfl, rfl, rfl, by simp, fun b hb _ => Below.heap_alloc w.drew _ b hb⟩⟩
  · have hsub : (grownCap w (n + m) c e - (n + m)) * k = grownCap w (n + m) c e * k - (n + m) * k := Nat.sub_mul _ _ _
    have hmul : (n + m) * k ≤ grownCap w (n + m) c e * k := Nat.mul_le_mul_right _ hge
    rw [Array.size_append, size_zeros, E.zs, hsub]
    simp only [List.size_toArray, List.length_append, hxl, hs.1]
    rw [Nat.add_mul] at *
    omega
  · have hl : (n + m) * k = (xs ++ news).length := by rw [List.length_append, hxl, hs.1, Nat.add_mul]
    simp only [List.drop_zero, Array.toList_append]
    rw [hl]
    exact List.take_left
/-- append, with room or without -/
theorem app (E : Mem.El P t e z k bytes) (h : Row w e k A n c xs) (hs : Mem.Sl w B k A2 m news) (h1 : ∀ u ∈ news, u.oneCell' = true) (h63 : n + m ≤ maxLen) (hbytes : (n + m) * bytes ≤ 140737488355328) :
    ∃ A' c' w', (Builtin.append_ #[t, t] ty #[.slice A n c, .slice A2 m c2]).run P w = .ok (.slice A' (n + m) c') w' ∧ Row w' e k A' (n + m) c' (xs ++ news) ∧ Only (fun b => blk A = some b) w w' ∧ (blk A' = blk A ∨ blk A' = some w.heap.size) := by
  rcases Nat.eq_zero_or_pos m with rfl | hm
  · obtain ⟨i, hi, hz, hz1, hz2⟩ := info_parts E.info
    have hn : news = [] := List.eq_nil_of_length_eq_zero (by simpa using hs.1)
    subst hn
    refine ⟨A, c, w, ?_, by simpa using h, Only.refl _ _, .inl rfl⟩
    have hnc := h.2.1
    rcases A with _ | a <;> rcases A2 with _ | a2 <;> simp [Builtin.append_, run_underlying E.ty, sizeOf, typeInfo, hi, Builtin.lenOf, Builtin.firstCells, hnc, storeCells, loadCells, loadCellsFrom]
  · by_cases hroom : n + m ≤ c
    · obtain ⟨w', hr, hR, hO⟩ := app_room (P := P) (ty := ty) (c2 := c2) E h hs h1 hm hroom
      exact ⟨A, c, w', hr, hR, hO, .inl rfl⟩
    · obtain ⟨c', w', hr, hR, hO⟩ := app_grow (P := P) (ty := ty) (c2 := c2) E h hs h1 hm (by omega) h63 hbytes
      exact ⟨_, c', w', hr, hR, hO.mono (fun _ _ c => c.elim), .inr rfl⟩
/-- copy into a row, from its o-th element on -/
theorem copy_row (E : Mem.El P t e z k bytes) (h : Row w e k (some ⟨g, off, none⟩) n c xs) (o dLen dCap m sLen sCap : Nat) (cs : List Value) (hm : m = Nat.min sLen dLen) (ho : o + m ≤ n) (hs : Mem.Sl w B k A2 m cs) (hp : 0 < m) (h1 : ∀ u ∈ cs, u.oneCell' = true) :
    ∃ w', (Builtin.copy_ #[t, t] ty #[.slice (some ⟨g, off + o * k, none⟩) dLen dCap, .slice A2 sLen sCap]).run P w = .ok (goInt m) w' ∧ Row w' e k (some ⟨g, off, none⟩) n c (over xs (o * k) cs) ∧ Only (fun b => b = g) w w' := by
  obtain ⟨i, hi, hz, hz1, hz2⟩ := info_parts E.info
  obtain ⟨ad, rfl, _, hc⟩ := hs.2 hp
  have hfit : o * k + cs.length ≤ n * k := by rw [hs.1, ← Nat.add_mul]; exact Nat.mul_le_mul_right _ ho
  obtain ⟨w', hr, hR, hO⟩ := h.put (P := P) (o * k) cs hfit h1
  have hl := run_firstCells_some (P := P) w k m ad sLen sCap cs hs.1 (fun j v hj => by obtain ⟨hj, e⟩ := List.getElem?_eq_some_iff.1 hj; rw [← e]; exact hc j hj)
  refine ⟨w', ?_, hR, hO⟩
  simp [Builtin.copy_, run_underlying E.ty, Builtin.lenOf, sizeOf, typeInfo, hi, hz1, ← hm, hl, hr]
end
end Ro
end Go.Proofs.Ythccojfflmfggaa
/- Words for rows: what stands between; copies and appends as steps of a walk. -/
namespace Go.Proofs.Ythccojfflmfggaa
open Go.RowKit
namespace Ro
/-! ### lists laid over lists -/
theorem over_in {xs zs v : List Value} {a k : Nat} (ha : a ≤ xs.length) (hv : v.length = k) (hz : zs.length = k) : over (over (xs ++ zs) (a + k) (xs.drop a)) a v = xs.take a ++ v ++ xs.drop a := by
  have h1 : over (xs ++ zs) (a + k) (xs.drop a) = (xs ++ zs).take (a + k) ++ xs.drop a := by
    unfold over
    rw [List.drop_of_length_le (show (xs ++ zs).length ≤ a + k + (xs.drop a).length by simp; omega), List.append_nil]
  rw [h1]
  unfold over
  have h2 : ((xs ++ zs).take (a + k) ++ xs.drop a).take a = xs.take a := by
    rw [List.take_append_of_le_length (by simp; omega), List.take_take, Nat.min_eq_left (by omega), List.take_append_of_le_length ha]
  have h3 : ((xs ++ zs).take (a + k) ++ xs.drop a).drop (a + v.length) = xs.drop a := by
    rw [hv, List.drop_append_of_le_length (by simp; omega), List.drop_of_length_le (by simp; omega), List.nil_append]
  rw [h2, h3]
theorem over_new {xs zs v : List Value} {a k : Nat} (ha : a ≤ xs.length) (hv : v.length = k) (hz : zs.length = k + (xs.length - a)) : over (over (xs.take a ++ zs) a v) (a + k) (xs.drop a) = xs.take a ++ v ++ xs.drop a := by
  have hl : (xs.take a).length = a := by simp; omega
  have h1 : over (xs.take a ++ zs) a v = xs.take a ++ v ++ zs.drop k := by
    unfold over
    rw [List.take_append_of_le_length (by omega), List.take_of_length_le (by omega), List.drop_append, List.drop_of_length_le (by omega), hl, hv, List.nil_append, show a + k - a = k by omega]
  rw [h1]
  unfold over
  rw [List.take_append_of_le_length (show a + k ≤ (xs.take a ++ v).length by simp; omega), List.take_of_length_le (show (xs.take a ++ v).length ≤ a + k by simp; omega), List.drop_of_length_le (show (xs.take a ++ v ++ zs.drop k).length ≤ a + k + (xs.drop a).length by simp; omega), List.append_nil]
theorem over_cut {xs : List Value} {a b : Nat} (hab : a ≤ b) (hb : b ≤ xs.length) : (over xs a (xs.drop b)).take (a + (xs.length - b)) = xs.take a ++ xs.drop b := over_end (by simp) (by omega)
/-! ### steps -/
variable {P : Program} {w : World}
theorem wp_run {o : Oper} {a : Act} {K : Act → World → Prop} {Q : Exit → Act → World → Prop} (d s : Operand) (t t' : TypeId)
    (ho : o.op = .call { callee := .builtin .copy, args := #[d, s], argTypes := #[t, t'] }) (v u : Value) (hd : a.eval d = v) (hs : a.eval s = u) {v' : Value} {w' : World}
    (hr : (Builtin.copy_ #[t, t'] o.type #[v, u]).run P w = .ok v' w') (h : K (a.put o.dst v') w') : o.wp P a w K Q := by
  unfold Oper.wp execOp
  simp only [ho, resolve, invoke, builtin, Sem.run_bind, Sem.run_pure, Result.andThen_ok, List.map_toArray, List.map_cons, List.map_nil, hd, hs, hr]
  exact h
theorem wpList_copy {ops : Array Oper} {rest : List Oper} {o : Oper} {a : Act} {Q : Exit → Act → World → Prop} (hgd : o.guard = none) (d s : Operand) (t t' : TypeId)
    (ho : o.op = .call { callee := .builtin .copy, args := #[d, s], argTypes := #[t, t'] }) (v u : Value) (hd : a.eval d = v) (hs : a.eval s = u) {v' : Value} {w' : World}
    (hr : (Builtin.copy_ #[t, t'] o.type #[v, u]).run P w = .ok v' w') (h : wpList P ops Q rest (a.put o.dst v') w') : wpList P ops Q (o :: rest) a w :=
  wpList_plain hgd fun _ hK => wp_run d s t t' ho v u hd hs hr (hK _ _ h)
theorem step_copy {ops : Array Oper} {o : Oper} {a : Act} {K : Act → World → Prop} {Q : Exit → Act → World → Prop} {E : Prop}
    (hg : o.guard = none) (d x : Operand) (dT sT : TypeId) (hop : o.op = Op.call { callee := Callee.builtin Builtin.copy, args := #[d, x], argTypes := #[dT, sT] })
    (v u : Value) (hd : a.eval d = v) (hx : a.eval x = u) {v' : Value} {w' : World} (hr : (Builtin.copy_ #[dT, sT] o.type #[v, u]).run P w = .ok v' w') (hK : K (a.put o.dst v') w') :
    if Region.wanted o (yielded ops a.tmps) = true then Oper.wp P o a w K Q else E := by
  have hw : Region.wanted o (yielded ops a.tmps) = true := by simp [Region.wanted, hg]
  rw [if_pos hw]
  exact wp_run d x dT sT hop v u hd hx hr hK
theorem wp_app {o : Oper} {a : Act} {K : Act → World → Prop} {Q : Exit → Act → World → Prop} (s x : Operand) (t tn : TypeId)
    (ho : o.op = .call { callee := .builtin .append, args := #[s, x], argTypes := #[t, tn] }) (vs vx : Value) (hs : a.eval s = vs) (hx : a.eval x = vx)
    {v' : Value} {w' : World} (hr : (Builtin.append_ #[t, tn] o.type #[vs, vx]).run P w = .ok v' w') (h : K (a.put o.dst v') w') : o.wp P a w K Q := by
  unfold Oper.wp execOp
  simp only [ho, resolve, invoke, builtin, Sem.run_bind, Sem.run_pure, Result.andThen_ok, List.map_toArray, List.map_cons, List.map_nil, hs, hx, hr]
  exact h
theorem wpList_app {ops : Array Oper} {rest : List Oper} {o : Oper} {a : Act} {Q : Exit → Act → World → Prop} (hgd : o.guard = none) (s x : Operand) (t tn : TypeId)
    (ho : o.op = .call { callee := .builtin .append, args := #[s, x], argTypes := #[t, tn] }) (vs vx : Value) (hs : a.eval s = vs) (hx : a.eval x = vx)
    {v' : Value} {w' : World} (hr : (Builtin.append_ #[t, tn] o.type #[vs, vx]).run P w = .ok v' w') (h : wpList P ops Q rest (a.put o.dst v') w') : wpList P ops Q (o :: rest) a w :=
  wpList_plain hgd fun _ hK => wp_app s x t tn ho vs vx hs hx hr (hK _ _ h)
theorem step_app {ops : Array Oper} {o : Oper} {a : Act} {K : Act → World → Prop} {Q : Exit → Act → World → Prop} {E : Prop}
    (hg : o.guard = none) (s x : Operand) (t tn : TypeId)
    (ho : o.op = .call { callee := .builtin .append, args := #[s, x], argTypes := #[t, tn] }) (vs vx : Value) (hs : a.eval s = vs) (hx : a.eval x = vx)
    {v' : Value} {w' : World} (hr : (Builtin.append_ #[t, tn] o.type #[vs, vx]).run P w = .ok v' w') (h : K (a.put o.dst v') w') :
    if Region.wanted o (yielded ops a.tmps) = true then Oper.wp P o a w K Q else E := by
  have hw : Region.wanted o (yielded ops a.tmps) = true := by simp [Region.wanted, hg]
  rw [if_pos hw]
  exact wp_app s x t tn ho vs vx hs hx hr h
theorem wpList_clear {ops : Array Oper} {rest : List Oper} {o : Oper} {a : Act} {Q : Exit → Act → World → Prop} (hgd : o.guard = none) (s : Operand) (t : TypeId)
    (ho : o.op = .call { callee := .builtin .clear, args := #[s], argTypes := #[t] }) (vs : Value) (hs : a.eval s = vs)
    {v' : Value} {w' : World} (hr : (Builtin.clear_ #[t] o.type #[vs]).run P w = .ok v' w') (h : wpList P ops Q rest (a.put o.dst v') w') : wpList P ops Q (o :: rest) a w := by
  refine wpList_plain hgd fun _ hK => ?_
  unfold Oper.wp execOp
  simp only [ho, resolve, invoke, builtin, Sem.run_bind, Sem.run_pure, Result.andThen_ok, List.map_toArray, List.map_cons, List.map_nil, hs, hr]
  exact hK _ _ h
theorem shape_of {g : Nat} {cs : Array Value} {t : TypeId} {fz : Nat × Nat} (h : w.heap[g]? = some (.cells cs t fz)) : w.shape? g = some (t, cs.size) := by
  simp [World.shape?, h]
theorem app_zeros {e t tn : TypeId} {k n c bytes : Nat} {A : Option Addr} {xs : List Value} {z : Value} {ty : TypeId} (E : Mem.El P t e z k bytes) (htn : P.underlying tn = some (.int .i64)) (h : Row w e k A n c xs) (q : Nat) (h0 : 0 < q) (hroom : c < n + q) (h63 : n + q ≤ maxLen) (hbytes : (n + q) * bytes ≤ 140737488355328) :
    ∃ c' w' zs, (Builtin.append_ #[t, tn] ty #[.slice A n c, .int .i64 (q : Int)]).run P w = .ok (.slice (some ⟨w.heap.size, 0, none⟩) (n + q) c') w' ∧ zs.length = q * k ∧ Row w' e k (some ⟨w.heap.size, 0, none⟩) (n + q) c' (xs ++ zs) ∧ Only (fun _ => False) w w' := by
  obtain ⟨i, hi, hz, hz1, hz2⟩ := info_parts E.info
  have hxl := h.1
  have hold : (Builtin.firstCells i.size n (.slice A n c)).run P w.drew = .ok xs.toArray w.drew := by
    rw [hz1]
    rcases h.2.2.2 with ⟨rfl, hc0⟩ | ⟨g, off, cur, rfl, _⟩
    · have hn := h.2.1
      obtain rfl : n = 0 := by omega
      have hx : xs = [] := List.eq_nil_of_length_eq_zero (by simpa using hxl)
      subst hx
      exact run_firstCells_none w.drew k 0 0 c
    · exact run_firstCells_some w.drew k n ⟨g, off, none⟩ n c xs hxl (fun j v hj => by
        obtain ⟨hj, e⟩ := List.getElem?_eq_some_iff.1 hj
        rw [← e, Addr.add_lit]
        exact h.cell j hj)
  have hq : q * bytes ≤ (n + q) * bytes := Nat.mul_le_mul_right _ (by omega)
  have hr := Lib.run_append_grow_zeros (P := P) w t tn ty e i z .i64 .i64 E.ty htn hi hz A n c xs hold q h0 (by rw [hz1]; exact E.pos) hroom (by unfold maxLen at h63; omega) (by rw [hz2]; omega) (by rw [hz2]; exact growslice_fits hroom hbytes)
  have hge := grownCap_ge w (n + q) c e
  have hsub : (grownCap w (n + q) c e - (n + q)) * k = grownCap w (n + q) c e * k - (n + q) * k := Nat.sub_mul _ _ _
  have hmul : (n + q) * k ≤ grownCap w (n + q) c e * k := Nat.mul_le_mul_right _ hge
  have hadd : (n + q) * k = n * k + q * k := Nat.add_mul _ _ _
  have hzl : (Builtin.zeroCells z.cells q).toList.length = q * k := by rw [Array.length_toList, size_zeros, E.zs]
  refine ⟨_, _, (Builtin.zeroCells z.cells q).toList, hr, hzl, ⟨by rw [List.length_append, hxl, hzl, hadd], hge, grownCap_le_maxLen w (n + q) c e h63, .inr ⟨_, 0, _, rfl, heap_alloc_new w.drew _, ?_, ?_⟩⟩, ⟨rfl, rfl, rfl, by simp, fun b hb _ => Below.heap_alloc w.drew _ b hb⟩⟩
  · rw [Array.size_append, Array.size_append, size_zeros, size_zeros, E.zs, hsub]
    simp only [List.size_toArray, hxl]
    omega
  · have hl : (n + q) * k = (xs ++ (Builtin.zeroCells z.cells q).toList).length := by rw [List.length_append, hxl, hzl, hadd]
    simp only [List.drop_zero, Array.toList_append]
    rw [hl]
    exact List.take_left
theorem app_room0 {e t : TypeId} {k n c bytes B m c2 : Nat} {A A2 : Option Addr} {xs news : List Value} {z : Value} {ty : TypeId} (E : Mem.El P t e z k bytes) (h : Row w e k A n c xs) (hs : Mem.Sl w B k A2 m news) (h1 : ∀ u ∈ news, u.oneCell' = true) (hroom : n + m ≤ c) :
    ∃ w', (Builtin.append_ #[t, t] ty #[.slice A n c, .slice A2 m c2]).run P w = .ok (.slice A (n + m) c) w' ∧ Row w' e k A (n + m) c (xs ++ news) ∧ Only (fun b => blk A = some b) w w' := by
  rcases Nat.eq_zero_or_pos m with rfl | hm
  · obtain ⟨i, hi, hz, hz1, hz2⟩ := info_parts E.info
    have hn : news = [] := List.eq_nil_of_length_eq_zero (by simpa using hs.1)
    subst hn
    refine ⟨w, ?_, by simpa using h, Only.refl _ _⟩
    have hnc := h.2.1
    rcases A with _ | a <;> rcases A2 with _ | a2 <;> simp [Builtin.append_, run_underlying E.ty, sizeOf, typeInfo, hi, Builtin.lenOf, Builtin.firstCells, hnc, storeCells, loadCells, loadCellsFrom]
  · exact app_room E h hs h1 hm hroom
theorem mem_zeros {zs : Array Value} {m : Nat} (h0 : 0 < zs.size) {v : Value} (hv : v ∈ (Builtin.zeroCells zs m).toList) : v ∈ zs.toList := by
  simp only [Builtin.zeroCells, Array.toList_map, List.mem_map] at hv
  obtain ⟨i, _, rfl⟩ := hv
  have hlt : i % zs.size < zs.size := Nat.mod_lt _ h0
  rw [getElem!_pos zs _ hlt]
  exact Array.getElem_mem_toList hlt
/-- the elements behind a row's end are made nil -/
theorem clear_row {e t : TypeId} {k n c bytes m cc g off : Nat} {xs : List Value} {z : Value} {ty : TypeId} (E : Mem.El P t e z k bytes) (hz1 : ∀ v ∈ z.cells.toList, v.oneCell' = true) (h : Row w e k (some ⟨g, off, none⟩) n c xs) (hm : 0 < m) (hroom : n + m ≤ c) :
    ∃ w', (Builtin.clear_ #[t] ty #[.slice (some ⟨g, off + n * k, none⟩) m cc]).run P w = .ok (.tuple #[]) w' ∧ Row w' e k (some ⟨g, off, none⟩) n c xs ∧ Only (fun b => b = g) w w' := by
  obtain ⟨i, hi, hz, hs1, hs2⟩ := info_parts E.info
  obtain ⟨ys, hy, ht⟩ := h.full
  have hle : (n + m) * k ≤ c * k := Nat.mul_le_mul_right _ hroom
  rw [Nat.add_mul] at hle
  have hzl : (Builtin.zeroCells z.cells m).toList.length = m * k := by rw [Array.length_toList, size_zeros, E.zs]
  obtain ⟨w', hr, hR, hO⟩ := hy.put (P := P) (n * k) (Builtin.zeroCells z.cells m).toList (by rw [hzl]; omega) (fun v hv => hz1 v (mem_zeros (by rw [E.zs]; exact E.pos) hv))
  refine ⟨w', ?_, ?_, hO⟩
  · obtain ⟨m, rfl⟩ : ∃ q, m = q + 1 := ⟨m - 1, by omega⟩
    simp [Builtin.clear_, run_underlying E.ty, zeroValue, typeInfo, hi, hz, hr]
  · have h2 := hR.cut n (by omega)
    unfold over at h2
    have hyl := hy.1
    rw [List.append_assoc, List.take_append_of_le_length (by simp; omega), List.take_take, Nat.min_self, ht] at h2
    exact h2
end Ro
end Go.Proofs.Ythccojfflmfggaa
/- The plain law of texts in order, byte by byte: places in a rising list. No Go in sight. -/
namespace Go.Proofs.Ythccojfflmfggaa
open Go.RowKit
namespace Str
open Go.Lib (compareBytes)
theorem cb_val : ∀ (a b : List UInt8), compareBytes a b = -1 ∨ compareBytes a b = 0 ∨ compareBytes a b = 1
  | [], [] => .inr (.inl rfl)
  | [], _ :: _ => .inl rfl
  | _ :: _, [] => .inr (.inr rfl)
  | a :: as, b :: bs => by
    unfold compareBytes
    split
    · exact .inl rfl
    · split
      · exact .inr (.inr rfl)
      · exact cb_val as bs
theorem cb_neg : ∀ (a b : List UInt8), compareBytes b a = -compareBytes a b
  | [], [] => rfl
  | [], _ :: _ => rfl
  | _ :: _, [] => rfl
  | a :: as, b :: bs => by
    unfold compareBytes
    by_cases h1 : a < b
    · have h2 : ¬ b < a := by rw [UInt8.lt_iff_toNat_lt] at *; omega
      rw [if_pos h1, if_neg h2, if_pos h1]; rfl
    · by_cases h2 : b < a
      · rw [if_pos h2, if_neg h1, if_pos h2]
      · rw [if_neg h2, if_neg h1, if_neg h1, if_neg h2]
        exact cb_neg as bs
theorem cb_eq : ∀ (a b : List UInt8), compareBytes a b = 0 ↔ a = b
  | [], [] => by simp [compareBytes]
  | [], _ :: _ => by simp [compareBytes]
  | _ :: _, [] => by simp [compareBytes]
  | a :: as, b :: bs => by
    have ih := cb_eq as bs
    unfold compareBytes
    by_cases h1 : a < b
    · rw [if_pos h1]
      constructor
      · intro h; omega
      · intro h; obtain ⟨rfl, _⟩ := List.cons.inj h; exact absurd h1 (UInt8.lt_irrefl a)
    · by_cases h2 : b < a
      · rw [if_neg h1, if_pos h2]
        constructor
        · intro h; omega
        · intro h; obtain ⟨rfl, _⟩ := List.cons.inj h; exact absurd h2 (UInt8.lt_irrefl a)
      · rw [if_neg h1, if_neg h2, ih]
        have : a = b := by
          rw [UInt8.lt_iff_toNat_lt] at h1 h2
          exact UInt8.toNat_inj.1 (by omega)
        subst this
        constructor
        · intro h; rw [h]
        · intro h; exact (List.cons.inj h).2
theorem cb_trans : ∀ (a b c : List UInt8), compareBytes a b < 0 → compareBytes b c ≤ 0 → compareBytes a c < 0
  | [], [], _, h, _ => by simp [compareBytes] at h
  | _ :: _, [], _, h, _ => by simp [compareBytes] at h
  | [], _ :: _, [], _, h2 => by simp [compareBytes] at h2
  | [], _ :: _, _ :: _, _, _ => by simp [compareBytes]
  | _ :: _, _ :: _, [], _, h2 => by simp [compareBytes] at h2
  | a :: as, b :: bs, c :: cs, h1, h2 => by
    have ih := cb_trans as bs cs
    unfold compareBytes at h1 h2 ⊢
    simp only [UInt8.lt_iff_toNat_lt] at *
    by_cases p1 : a.toNat < b.toNat
    · by_cases p2 : b.toNat < c.toNat
      · rw [if_pos (by omega)]; omega
      · rw [if_neg p2] at h2
        by_cases p3 : c.toNat < b.toNat
        · rw [if_pos p3] at h2; omega
        · rw [if_pos (by omega)]; omega
    · rw [if_neg p1] at h1
      by_cases p3 : b.toNat < a.toNat
      · rw [if_pos p3] at h1; omega
      · rw [if_neg p3] at h1
        by_cases p2 : b.toNat < c.toNat
        · rw [if_pos (by omega)]; omega
        · rw [if_neg p2] at h2
          by_cases p4 : c.toNat < b.toNat
          · rw [if_pos p4] at h2; omega
          · rw [if_neg p4] at h2
            rw [if_neg (by omega), if_neg (by omega)]
            exact ih h1 h2
/-- how two texts stand -/
def cmp (a b : ByteArray) : Int := compareBytes a.data.toList b.data.toList
theorem cmp_val (a b : ByteArray) : cmp a b = -1 ∨ cmp a b = 0 ∨ cmp a b = 1 := cb_val _ _
theorem cmp_neg (a b : ByteArray) : cmp b a = -cmp a b := cb_neg _ _
theorem cmp_eq (a b : ByteArray) : cmp a b = 0 ↔ a = b := by
  unfold cmp
  rw [cb_eq]
  constructor
  · intro h
    obtain ⟨a⟩ := a
    obtain ⟨b⟩ := b
    exact congrArg _ (Array.toList_inj.1 h)
  · intro h; rw [h]
theorem cmp_self (a : ByteArray) : cmp a a = 0 := (cmp_eq a a).2 rfl
theorem cmp_trans {a b c : ByteArray} (h : cmp a b < 0) (h2 : cmp b c ≤ 0) : cmp a c < 0 := cb_trans _ _ _ h h2
theorem cmp_trans2 {a b c : ByteArray} (h : cmp a b ≤ 0) (h2 : cmp b c < 0) : cmp a c < 0 := by
  have n1 := cmp_val a b
  by_cases hz : cmp a b = 0
  · obtain rfl := (cmp_eq a b).1 hz; exact h2
  · exact cmp_trans (b := b) (by omega) (by omega)
/-- names rise -/
def Rises (l : List ByteArray) : Prop := l.Pairwise fun a b => cmp a b < 0
/-- where a name stands, or would -/
def pos (l : List ByteArray) (s : ByteArray) : Nat := (l.takeWhile fun x => decide (cmp x s < 0)).length
theorem pos_le (l : List ByteArray) (s : ByteArray) : pos l s ≤ l.length := by
  unfold pos
  exact (List.takeWhile_prefix _).length_le
theorem pos_cons (x : ByteArray) (l : List ByteArray) (s : ByteArray) : pos (x :: l) s = if cmp x s < 0 then pos l s + 1 else 0 := by
  unfold pos
  rw [List.takeWhile_cons]
  by_cases h : cmp x s < 0
  · rw [if_pos h, decide_eq_true h]; simp
  · rw [if_neg h, decide_eq_false h]; simp
theorem pos_below {l : List ByteArray} {s : ByteArray} : ∀ (j : Nat) (hj : j < l.length), j < pos l s → cmp l[j] s < 0 := by
  induction l with
  | nil => intro j hj; simp at hj
  | cons x l ih =>
    intro j hj h
    rw [pos_cons] at h
    by_cases hx : cmp x s < 0
    · rw [if_pos hx] at h
      cases j with
      | zero => exact hx
      | succ j => exact ih j (by simpa using hj) (by omega)
    · rw [if_neg hx] at h; omega
theorem pos_above {l : List ByteArray} {s : ByteArray} (hr : Rises l) : ∀ (j : Nat) (hj : j < l.length), pos l s ≤ j → ¬ cmp l[j] s < 0 := by
  induction l with
  | nil => intro j hj; simp at hj
  | cons x l ih =>
    intro j hj h
    rw [pos_cons] at h
    obtain ⟨h1, h2⟩ := List.pairwise_cons.1 hr
    by_cases hx : cmp x s < 0
    · rw [if_pos hx] at h
      cases j with
      | zero => omega
      | succ j => exact ih h2 j (by simpa using hj) (by omega)
    · cases j with
      | zero => exact hx
      | succ j =>
        intro hc
        have hj2 : j < l.length := by simpa using hj
        have := h1 l[j] (List.getElem_mem hj2)
        exact hx (cmp_trans this (by have : cmp l[j] s < 0 := hc; omega))
/-- a place below which all are less, from which on none is: the name's place -/
theorem pos_at {l : List ByteArray} {s : ByteArray} (hr : Rises l) (i : Nat) (hi : i ≤ l.length) (h1 : ∀ (j : Nat) (hj : j < l.length), j < i → cmp l[j] s < 0) (h2 : ∀ (j : Nat) (hj : j < l.length), i ≤ j → ¬ cmp l[j] s < 0) : pos l s = i := by
  have hp := pos_le l s
  rcases Nat.lt_trichotomy (pos l s) i with h | h | h
  · exact absurd (h1 (pos l s) (by omega) h) (pos_above hr _ (by omega) (Nat.le_refl _))
  · exact h
  · exact absurd (pos_below i (by omega) h) (h2 i (by omega) (Nat.le_refl _))
/-- is a name there? -/
def has (l : List ByteArray) (s : ByteArray) : Bool := l.any fun x => cmp x s == 0
theorem has_iff {l : List ByteArray} {s : ByteArray} : has l s = true ↔ s ∈ l := by
  unfold has
  rw [List.any_eq_true]
  constructor
  · rintro ⟨x, hx, h⟩
    obtain rfl := (cmp_eq x s).1 (by simpa using h)
    exact hx
  · intro h
    exact ⟨s, h, by rw [cmp_self]; rfl⟩
theorem has_pos {l : List ByteArray} {s : ByteArray} (hr : Rises l) (h : pos l s < l.length) : has l s = (cmp l[pos l s] s == 0) := by
  cases hc : cmp l[pos l s] s == 0
  · cases hh : has l s
    · rfl
    · exfalso
      obtain ⟨j, hj, e⟩ := List.mem_iff_getElem.1 (has_iff.1 hh)
      have hz : cmp l[j] s = 0 := (cmp_eq _ _).2 e
      have a1 : ¬ j < pos l s := fun c => by have := pos_below j hj c; omega
      have a2 : j ≠ pos l s := by rintro rfl; rw [hz] at hc; simp at hc
      have := (List.pairwise_iff_getElem.1 hr) (pos l s) j h hj (by omega)
      rw [e] at this
      have := pos_above hr (pos l s) h (Nat.le_refl _)
      contradiction
  · have e : l[pos l s] = s := (cmp_eq _ _).1 (by simpa using hc)
    have hm : l[pos l s] ∈ l := List.getElem_mem h
    exact has_iff.2 (by rw [e] at hm; exact hm)
theorem has_end {l : List ByteArray} {s : ByteArray} (h : pos l s = l.length) : has l s = false := by
  cases hh : has l s
  · rfl
  · exfalso
    obtain ⟨j, hj, e⟩ := List.mem_iff_getElem.1 (has_iff.1 hh)
    have := pos_below (s := s) j hj (by omega)
    rw [e, cmp_self] at this
    omega
theorem has_at {l : List ByteArray} {s : ByteArray} (hr : Rises l) (h : has l s = true) : ∃ (hp : pos l s < l.length), l[pos l s] = s := by
  by_cases hp : pos l s < l.length
  · refine ⟨hp, ?_⟩
    rw [has_pos hr hp] at h
    exact (cmp_eq _ _).1 (by simpa using h)
  · have := pos_le l s
    rw [has_end (by omega)] at h
    cases h
end Str
end Go.Proofs.Ythccojfflmfggaa
