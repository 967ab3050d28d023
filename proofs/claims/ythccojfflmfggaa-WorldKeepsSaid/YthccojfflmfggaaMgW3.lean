/- Words for maps: a block that is a map with just these entries; a look-up, a store; and regions whose order is open, by an invariant. -/
import Derived.Test.YthccojfflmfggaaMgW0
import Derived.Maps.Own
import Derived.Maps.OwnOps
import Derived.DeepKeys4
import Derived.Test.YthccojfflmfggaaMgW2
import Derived.Deep.RegionHeld3
namespace Go.Proofs.Ythccojfflmfggaa
open Go.RowKit Go.Maps
namespace Map
/-- block g is a map whose entries are just these -/
def At (P : Program) (K : TypeId) (w : World) (g : Nat) (R : Value → Value → Prop) : Prop :=
  ∃ (es : Array MapEntry) (clock : Nat), w.heap[g]? = some (.map es clock) ∧ (∀ e ∈ es.toList, ∃ l, keyOf P K e.key = some l) ∧ (∀ e ∈ es.toList, R e.key e.val) ∧
    (∀ k v, R k v → ∃ e ∈ es.toList, e.key = k ∧ e.val = v) ∧ (∀ (i j : Nat) (e e' : MapEntry), es[i]? = some e → es[j]? = some e' → e.key = e'.key → i = j)
section
variable {P : Program} {K T E : TypeId} {w w' : World} {g : Nat} {R R' : Value → Value → Prop}
theorem At.of_block (h : At P K w g R) (hb : w'.heap[g]? = w.heap[g]?) : At P K w' g R := by
  obtain ⟨es, c, h1, h2⟩ := h
  exact ⟨es, c, hb.trans h1, h2⟩
theorem At.lt (h : At P K w g R) : g < w.heap.size := by
  obtain ⟨es, c, h1, _⟩ := h
  exact (Array.getElem?_eq_some_iff.1 h1).1
theorem At.below {B : Nat} (h : At P K w g R) (hb : Below B w w') (hg : g < B) : At P K w' g R := h.of_block (hb.block g hg)
theorem At.iff (h : At P K w g R) (he : ∀ k v, R k v ↔ R' k v) : At P K w g R' := by
  have e : R = R' := funext fun k => funext fun v => propext (he k v)
  rw [← e]; exact h
theorem At.made (w : World) : At P K (w.alloc (.map #[] 0)) w.heap.size (fun _ _ => False) :=
  ⟨#[], 0, heap_alloc_new w _, by simp, by simp, by simp, by simp⟩
theorem At.look (h : At P K w g R) (L : Keyed P K) (hT : P.underlying T = some (.map K E)) {z : Value} (hz : ∀ w : World, (zeroValue E).run P w = .ok z w) {x : Value} {lx : Lit} (hx : keyOf P K x = some lx) (ok : Bool) :
    (∃ v, R x v ∧ (Instr.lookup T (.map (some g)) x ok).run P w = .ok (if ok then .tuple #[v, .bool true] else v) w) ∨
    ((∀ v, ¬ R x v) ∧ (Instr.lookup T (.map (some g)) x ok).run P w = .ok (if ok then .tuple #[z, .bool false] else z) w) := by
  obtain ⟨es, c, h1, h2, h3, h4, h5⟩ := h
  have hck := fun em => L.check w em hx
  have hzw := hz w
  rcases L.find w hx es.toList h2 with ⟨hf, hno⟩ | ⟨j, e, hf, hj, he⟩
  · refine .inr ⟨fun v hv => ?_, ?_⟩
    · obtain ⟨e, hm, hk, _⟩ := h4 x v hv
      exact hno e hm hk
    · simp [Instr.lookup, run_underlying hT, getObj, Sem.run, h1, hck, hf, hzw]
  · refine .inl ⟨e.val, ?_, ?_⟩
    · rw [← he]; exact h3 e (List.mem_of_getElem? hj)
    · simp [Instr.lookup, run_underlying hT, getObj, Sem.run, h1, hck, hf]
theorem At.fn (h : At P K w g R) {k v v' : Value} (h1 : R k v) (h2 : R k v') : v = v' := by
  obtain ⟨es, c, _, _, _, h4, h5⟩ := h
  obtain ⟨e, hm, hk, hv⟩ := h4 k v h1
  obtain ⟨e', hm', hk', hv'⟩ := h4 k v' h2
  obtain ⟨i, hi⟩ := List.getElem?_of_mem hm
  obtain ⟨j, hj⟩ := List.getElem?_of_mem hm'
  have hij := h5 i j e e' (by simpa using hi) (by simpa using hj) (by rw [hk, hk'])
  subst hij
  rw [hi] at hj
  injection hj with hj
  rw [← hv, ← hv', hj]
theorem At.store (h : At P K w g R) (L : Keyed P K) (hT : P.underlying T = some (.map K E)) {x : Value} {lx : Lit} (hx : keyOf P K x = some lx) (v : Value) :
    ∃ w', (Instr.mapUpdate T (.map (some g)) x v).run P w = .ok () w' ∧ At P K w' g (fun k u => (k = x ∧ u = v) ∨ (k ≠ x ∧ R k u)) ∧ w.grownBy w' (some g) := by
  obtain ⟨es, c, h1, h2, h3, h4, h5⟩ := h
  have hck := L.check w false hx
  have hlt := (Array.getElem?_eq_some_iff.1 h1).1
  have hset : ∀ o : Obj, ({ w with heap := w.heap.setIfInBounds g o } : World).heap[g]? = some o := fun o => by simp [hlt]
  have hgr : ∀ o : Obj, w.grownBy { w with heap := w.heap.setIfInBounds g o } (some g) := fun o =>
    ⟨rfl, rfl, rfl, by simp, fun k _ hk => by simp only [Array.getElem?_setIfInBounds]; rw [if_neg]; intro e; exact hk (by rw [e])⟩
  rcases L.find w hx es.toList h2 with ⟨hf, hno⟩ | ⟨j, e, hf, hj, he⟩
  · refine ⟨{ w with heap := w.heap.setIfInBounds g (.map (es.push { key := x, val := v, born := c }) (c + 1)) }, by simp [Instr.mapUpdate, run_underlying hT, getObj, setObj, Sem.run, h1, hck, hf], ⟨_, _, hset _, ?_, ?_, ?_, ?_⟩, hgr _⟩
    · intro e' he'
      simp at he'
      rcases he' with he' | rfl
      · exact h2 e' (by simpa using he')
      · exact ⟨lx, hx⟩
    · intro e' he'
      simp at he'
      rcases he' with he' | rfl
      · exact .inr ⟨hno e' (by simpa using he'), h3 e' (by simpa using he')⟩
      · exact .inl ⟨rfl, rfl⟩
    · rintro k u (⟨rfl, rfl⟩ | ⟨_, hR⟩)
      · exact ⟨⟨k, u, c⟩, by simp, rfl, rfl⟩
      · obtain ⟨e', hm, hk⟩ := h4 k u hR
        exact ⟨e', by simp at hm ⊢; exact .inl hm, hk⟩
    · have hnew : ∀ (i : Nat) (e' : MapEntry), es[i]? = some e' → e'.key ≠ x := fun i e' hi => hno e' (List.mem_of_getElem? (i := i) (by simpa using hi))
      intro i j e1 e2 hi hj hk
      rw [Array.getElem?_push] at hi hj
      split at hi <;> split at hj
      · omega
      · rename_i a b; injection hi with hi; subst hi; exact absurd hk.symm (hnew _ _ hj)
      · rename_i a b; injection hj with hj; subst hj; exact absurd hk (hnew _ _ hi)
      · exact h5 i j e1 e2 hi hj hk
  · have hj' : es[j]? = some e := by simpa using hj
    have hjlt : j < es.size := (Array.getElem?_eq_some_iff.1 hj').1
    have hst := L.stays w hx
    subst he
    have hget : (es[j]?.getD e).key = e.key := by rw [hj']; rfl
    have hrun : (Instr.mapUpdate T (.map (some g)) e.key v).run P w = .ok () { w with heap := w.heap.setIfInBounds g (.map (es.modify j fun y => { y with key := e.key, val := v }) c) } := by
      simp [Instr.mapUpdate, run_underlying hT, getObj, setObj, Sem.run, h1, hck, hf, hget, hst]
    have hat : ∀ i e', (es.modify j fun y => { y with key := e.key, val := v })[i]? = some e' → (i = j ∧ e'.key = e.key ∧ e'.val = v) ∨ (i ≠ j ∧ es[i]? = some e') := by
      intro i e' hi
      simp only [Array.getElem?_modify] at hi
      split at hi
      · rename_i hij
        subst hij
        rw [hj'] at hi
        injection hi with hi
        rw [← hi]
        exact .inl ⟨rfl, rfl, rfl⟩
      · rename_i hij
        exact .inr ⟨fun e => hij e.symm, hi⟩
    have hmem : ∀ e', e' ∈ (es.modify j fun y => { y with key := e.key, val := v }).toList → (e'.key = e.key ∧ e'.val = v) ∨ (e' ∈ es.toList ∧ e'.key ≠ e.key) := by
      intro e' he'
      obtain ⟨i, hi⟩ := List.getElem?_of_mem he'
      rcases hat i e' (by rw [Array.getElem?_toList] at hi; exact hi) with ⟨_, h⟩ | ⟨hij, hi⟩
      · exact .inl h
      · exact .inr ⟨List.mem_of_getElem? (i := i) (by simpa using hi), fun hk => hij (h5 i j e' e hi hj' hk)⟩
    refine ⟨_, hrun, ⟨_, _, hset _, ?_, ?_, ?_, ?_⟩, hgr _⟩
    · intro e' he'
      rcases hmem e' he' with ⟨hk, _⟩ | ⟨hm, _⟩
      · exact ⟨lx, by rw [hk]; exact hx⟩
      · exact h2 e' hm
    · intro e' he'
      rcases hmem e' he' with ⟨hk, hv⟩ | ⟨hm, hk⟩
      · exact .inl ⟨hk, hv⟩
      · exact .inr ⟨hk, h3 e' hm⟩
    · rintro k u (⟨rfl, rfl⟩ | ⟨hk, hR⟩)
      · refine ⟨{ e with key := e.key, val := u }, ?_, rfl, rfl⟩
        refine List.mem_of_getElem? (i := j) ?_
        simp [hj']
      · obtain ⟨e', hm, hk', hv'⟩ := h4 k u hR
        obtain ⟨i, hi⟩ := List.getElem?_of_mem hm
        have hij : j ≠ i := by
          rintro rfl
          rw [hj] at hi
          injection hi with hi
          exact hk (by rw [← hk', hi])
        refine ⟨e', List.mem_of_getElem? (i := i) ?_, hk', hv'⟩
        simp only [Array.getElem?_toList, Array.getElem?_modify, if_neg hij]
        simpa using hi
    · intro i k e1 e2 hi hk heq
      rcases hat i e1 hi with ⟨hi1, hi2, _⟩ | ⟨hi1, hi2⟩ <;> rcases hat k e2 hk with ⟨hk1, hk2, _⟩ | ⟨hk1, hk2⟩
      · omega
      · exact absurd (h5 k j e2 e hk2 hj' (by rw [← heq, hi2])) hk1
      · exact absurd (h5 i j e1 e hi2 hj' (by rw [heq, hk2])) hi1
      · exact h5 i k e1 e2 hi2 hk2 heq
end
/-! ### a region whose order is open, by an invariant over what has been done -/
section
variable {P : Program} {ops : Array Oper} {Q : Exit → Act → World → Prop} {md : Region.Mode}
/-- how many operations are not done yet -/
def open_ (n : Nat) (L : Array Bool) : Nat := ((List.range n).filter fun i => !L.getD i true).length
theorem open_set {n : Nat} {L : Array Bool} {i : Nat} (hi : i < n) (hs : L.size = n) (h : L.getD i true = false) : open_ n (L.setIfInBounds i true) < open_ n L := by
  have hiL : i < L.size := by omega
  unfold open_
  have hsub : ((List.range n).filter fun j => !(L.setIfInBounds i true).getD j true) = ((List.range n).filter fun j => !L.getD j true).filter (fun j => j != i) := by
    rw [List.filter_filter]
    apply List.filter_congr
    intro j hj
    simp only [Array.getD_eq_getD_getElem?, Array.getElem?_setIfInBounds]
    by_cases hij : i = j
    · subst hij; simp [hiL]
    · have hji : ¬ j = i := fun e => hij e.symm
      simp [hij, hji]
  rw [hsub]
  have hm : i ∈ (List.range n).filter fun j => !L.getD j true := List.mem_filter.2 ⟨by simpa using hi, by simp only [h, Bool.not_false]⟩
  generalize ((List.range n).filter fun j => !L.getD j true) = l at hm
  have hlt : ∀ l : List Nat, i ∈ l → (l.filter fun j => j != i).length < l.length := by
    intro l
    induction l with
    | nil => intro h; cases h
    | cons x l ih =>
      intro h
      rw [List.filter_cons]
      split
      · rename_i hx
        have hne : i ≠ x := by intro e; simp [e] at hx
        have := ih (by rcases List.mem_cons.1 h with e | e; exact absurd e hne; exact e)
        simp only [List.length_cons]; omega
      · have := List.length_filter_le (fun j => j != i) l
        simp only [List.length_cons]; omega
  exact hlt l hm
theorem wpOp_val {i : Nat} {o : Oper} {a : Act} {w w' : World} {v : Value} {K : Act → World → Prop} (ho : ops[i]? = some o) (hg : o.guard = none)
    (hr : (execOp a.eval o).run P w = .ok (.value v) w') (h : K (a.put o.dst v) w') : wpOp P ops Q i K a w := by
  unfold wpOp
  rw [ho]
  simp only [Region.wanted, hg, if_true]
  refine .inl ?_
  unfold Oper.wp
  rw [hr]
  exact h
theorem wpOp_skip {i : Nat} {o : Oper} {a : Act} {w w' : World} {K : Act → World → Prop} (ho : ops[i]? = some o) (hg : o.guard = none)
    (hr : (execOp a.eval o).run P w = .ok .skip w') (h : K (a.put o.dst undef) w') : wpOp P ops Q i K a w := by
  unfold wpOp
  rw [ho]
  simp only [Region.wanted, hg, if_true]
  refine .inl ?_
  unfold Oper.wp
  rw [hr]
  exact h
/-- every edge goes back in the text -/
def forward (ops : Array Oper) : Bool := (List.range ops.size).all fun i => ((ops[i]?).map (·.after.all fun e => decide (e.on < i))).getD true
theorem all_done {L : Array Bool} (hf : forward ops = true) (hs : L.size = ops.size) (hr : Region.ready md ops L = []) : ∀ i, i < ops.size → L.getD i true = true := by
  intro i
  induction i using Nat.strongRecOn with
  | _ i ih =>
    intro hi
    cases hL : L.getD i true with
    | true => rfl
    | false =>
      exfalso
      have hop : ops[i]? = some ops[i] := Array.getElem?_eq_getElem hi
      have h1 := List.all_eq_true.1 hf i (List.mem_range.2 hi)
      rw [hop] at h1
      simp only [Option.map_some, Option.getD_some] at h1
      have hm : i ∈ Region.ready md ops L := by
        refine List.mem_filter.2 ⟨List.mem_range.2 hi, ?_⟩
        rw [hL, hop]
        simp only [Bool.not_false, Option.map_some, Option.getD_some, Bool.true_and]
        rw [Array.all_eq_true_iff_forall_mem] at h1 ⊢
        intro e he
        have h2 := of_decide_eq_true (h1 e he)
        have h3 := ih e.on h2 (by omega)
        have h4 : L.getD e.on false = true := by
          have hlt : e.on < L.size := by omega
          simpa [Array.getD_eq_getD_getElem?, Array.getElem?_eq_getElem hlt] using h3
        rw [h4, Bool.or_true]
      rw [hr] at hm
      cases hm
theorem ready_in {L : Array Bool} {i : Nat} (h : i ∈ Region.ready md ops L) : ∃ o, ops[i]? = some o ∧ L.getD i true = false ∧ ∀ e ∈ o.after, Region.binds md e = true → L.getD e.on false = true := by
  have := List.mem_filter.1 h
  simp only [List.mem_range, Bool.and_eq_true, Bool.not_eq_true'] at this
  obtain ⟨h1, h2, h3⟩ := this
  have hop : ops[i]? = some ops[i] := Array.getElem?_eq_getElem h1
  rw [hop] at h3
  simp only [Option.map_some, Option.getD_some] at h3
  rw [Array.all_eq_true_iff_forall_mem] at h3
  refine ⟨_, hop, h2, fun e he hb => ?_⟩
  have := h3 e he
  rw [hb] at this
  simpa using this
theorem wpAny_inv (I : Array Bool → Act → World → Prop) (hsz : ∀ L a w, I L a w → L.size = ops.size)
    (hend : ∀ L a w, I L a w → Region.ready md ops L = [] → Q .normal a w)
    (hstep : ∀ L a w i, I L a w → i ∈ Region.ready md ops L → wpOp P ops Q i (I (L.setIfInBounds i true)) a w) :
    ∀ (fuel : Nat) (L : Array Bool) (a : Act) (w : World), open_ ops.size L ≤ fuel → I L a w → wpAny P md ops Q fuel L a w := by
  intro fuel
  have hin : ∀ {L : Array Bool} {i : Nat}, i ∈ Region.ready md ops L → i < ops.size ∧ L.getD i true = false := by
    intro L i hi
    have := List.mem_filter.1 hi
    simp only [List.mem_range, Bool.and_eq_true, Bool.not_eq_true'] at this
    exact ⟨this.1, this.2.1⟩
  induction fuel with
  | zero =>
    intro L a w hf hI
    have hr : Region.ready md ops L = [] := by
      rcases List.eq_nil_or_concat (Region.ready md ops L) with h | ⟨l, i, h⟩
      · exact h
      · exfalso
        have hi : i ∈ Region.ready md ops L := by rw [h]; simp
        obtain ⟨h1, h2⟩ := hin hi
        have hm : i ∈ (List.range ops.size).filter fun j => !L.getD j true := List.mem_filter.2 ⟨by simpa using h1, by simp only [h2, Bool.not_false]⟩
        have := List.length_pos_of_mem hm
        unfold open_ at hf
        omega
    exact ⟨hr, hend L a w hI hr⟩
  | succ fuel ih =>
    intro L a w hf hI
    refine ⟨fun hr => hend L a w hI hr, fun i hi => ?_⟩
    obtain ⟨h1, h2⟩ := hin hi
    refine wpOp_mono (fun a' w' hI' => ih _ _ _ ?_ hI') (hstep L a w i hI hi)
    have := open_set h1 (hsz L a w hI) h2
    omega
end
end Map
end Go.Proofs.Ythccojfflmfggaa
/- The plain law of layer 14 (box): containers by themselves. No Go in sight. -/
namespace Go.Proofs.Ythccojfflmfggaa
namespace Box
/-- the state that comes; 0: it may not be asked -/
def nxt (s q : Int) : Int := if q = 1 ∧ s = 1 then 2 else if q = 2 ∧ s = 2 then 3 else if q = 3 ∧ s = 3 then 4 else if q = 4 ∧ (s = 1 ∨ s = 2 ∨ s = 4 ∨ s = 6) then 5 else 0
/-- a container: its state, its tries -/
abbrev B := Int × Int
def step (b : B) (q : Int) (well : Bool) (r : Int) : B :=
  if nxt b.1 q = 0 then b else if well then (nxt b.1 q, 0) else if r < Sat.add b.2 1 then (6, Sat.add b.2 1) else (b.1, Sat.add b.2 1)
/-- the answer's number -/
def err (s q : Int) : Int := if nxt s q = 0 then 7 else 0
def may (b : B) (q : Int) : Bool := decide (nxt b.1 q ≠ 0)
theorem to_bd (s q : Int) : 0 ≤ nxt s q ∧ nxt s q ≤ 5 := by unfold nxt; (repeat' split) <;> omega
/-- a container of the program's own -/
def Ok (b : B) : Prop := 0 ≤ b.1 ∧ b.1 ≤ 6 ∧ 0 ≤ b.2 ∧ b.2 ≤ 9223372036854775807
theorem step_ok {b : B} (h : Ok b) (q : Int) (well : Bool) (r : Int) : Ok (step b q well r) := by
  obtain ⟨h1, h2, h3, h4⟩ := h
  have ht := to_bd b.1 q
  have ha := Sat.add_bd b.2 1
  unfold step
  split
  · exact ⟨h1, h2, h3, h4⟩
  · split
    · exact ⟨by simp; omega, by simp; omega, by simp, by simp⟩
    · split
      · exact ⟨by simp, by simp, ha.1, ha.2⟩
      · exact ⟨h1, h2, ha.1, ha.2⟩
/-- all asked, one behind the other: the container then, and how often it might be asked -/
def runTo (l : List Int) (well : List Bool) (r : Int) : Nat → B × Int
  | 0 => ((1, 0), 0)
  | k + 1 => (step (runTo l well r k).1 (l.getD k 0) (well.getD k true) r, (runTo l well r k).2 + if nxt (runTo l well r k).1.1 (l.getD k 0) = 0 then 0 else 1)
theorem runTo_ok (l : List Int) (well : List Bool) (r : Int) (k : Nat) : Ok (runTo l well r k).1 ∧ 0 ≤ (runTo l well r k).2 ∧ (runTo l well r k).2 ≤ k := by
  induction k with
  | zero => exact ⟨⟨by simp [runTo], by simp [runTo], by simp [runTo], by simp [runTo]⟩, by simp [runTo], by simp [runTo]⟩
  | succ k ih =>
    obtain ⟨h1, h2, h3⟩ := ih
    refine ⟨step_ok h1 _ _ _, ?_, ?_⟩
    · show 0 ≤ (runTo l well r k).2 + (if _ then (0 : Int) else 1)
      split <;> omega
    · show (runTo l well r k).2 + (if _ then (0 : Int) else 1) ≤ ((k + 1 : Nat) : Int)
      split <;> omega
end Box
end Go.Proofs.Ythccojfflmfggaa
/- The walks of layer 14 (box). -/
namespace Go.Proofs.Ythccojfflmfggaa
open Go.RowKit Go.Maps
namespace Box
theorem laidOut : laidOutB Try.prog = true := by kernel_rfl
theorem keyed : Keyed Try.prog 126 := Keyed.of_law (deep_law_laid laidOut (m := 2) (by omega) (of_decide_eq_true (by kernel_rfl)) (by kernel_rfl) (by kernel_rfl))
/-- a key: a state, and what is asked -/
def key (s q : Int) : Value := .agg #[.int .i64 s, .int .i64 q]
theorem key_ok (s q : Int) (hs : (Lit.int .i64 s).wf = true) (hq : (Lit.int .i64 q).wf = true) : ∃ l, keyOf Try.prog 126 (key s q) = some l := by
  have hk : Try.prog.keyType 126 = true := by kernel_rfl
  have hc : Try.prog.cellsOf 126 = 2 := by kernel_rfl
  have hc1 : Try.prog.cellsOf 3 = 1 := by kernel_rfl
  obtain ⟨m, hm⟩ : ∃ m, Try.prog.types.size = m + 1 := ⟨Try.prog.types.size - 1, by have : 0 < Try.prog.types.size := of_decide_eq_true (by kernel_rfl); omega⟩
  have h1 : ∀ (d : Nat) (n : Int), (Lit.int .i64 n).wf = true → Try.prog.keyLits (d + 1) 3 [.int .i64 n] = some [.int .i64 n] := by
    intro d n hn
    simp [Program.keyLits, Try.underlying3, hn]
  have h2 : Try.prog.keyLits (m + 1 + 1) 126 [.int .i64 s, .int .i64 q] = some [.int .i64 s, .int .i64 q] := by
    unfold Program.keyLits
    rw [Try.underlying126]
    simp [hc, hc1, List.range, List.range.loop, h1 m s hs, h1 m q hq]
  refine ⟨.string (keyBytes [.int .i64 s, .int .i64 q]), ?_⟩
  unfold keyOf
  rw [Try.underlying126]
  simp only [hk, Value.formed, Try.underlying126, key, hc, Value.cells, hm]
  simp [h2]
/-- the entries: the region's place of the store, the key, the value -/
def ent : List (Nat × Int × Int × Int) := [(2, 1, 1, 2), (4, 2, 2, 3), (6, 3, 3, 4), (8, 1, 4, 5), (10, 2, 4, 5), (12, 4, 4, 5), (14, 6, 4, 5)]
def nextR (k v : Value) : Prop := ∃ s q : Int, k = key s q ∧ nxt s q ≠ 0 ∧ v = .int .i64 (nxt s q)
/-- what holds when just the operations L are done -/
structure Inv (P : Program) (B : World) (L : Array Bool) (a : Act) (w : World) : Prop where
  size : L.size = 17
  defers : a.defers = []
  tmps : a.tmps.size = 10
  below : Below B.heap.size B w
  build : ∀ x ∈ ent, L.getD (x.1 - 1) false = true → a.tmps[x.1 / 2 + 1]? = some (key x.2.1 x.2.2.1)
  made : L.getD 0 false = true → ∃ g, a.tmps[1]? = some (.map (some g)) ∧ B.heap.size ≤ g ∧
    Map.At P 126 w g (fun k v => ∃ x ∈ ent, L.getD x.1 false = true ∧ k = key x.2.1 x.2.2.1 ∧ v = .int .i64 x.2.2.2)
  dep : L.getD 0 true = false → ∀ i, i % 2 = 0 ∨ i = 15 → L.getD i false = true → False
  move : L.getD 15 false = true → a.tmps[9]? = a.tmps[1]?
  out : L.getD 16 false = true → a.tmps[0]? = a.tmps[1]?
theorem getD_set {L : Array Bool} {i j : Nat} {d : Bool} (hi : i < L.size) : (L.setIfInBounds i true).getD j d = if i = j then true else L.getD j d := by
  simp only [Array.getD_eq_getD_getElem?, Array.getElem?_setIfInBounds]
  by_cases h : i = j
  · subst h; simp [hi]
  · simp [h]
theorem put_get (a : Act) (d j : Nat) (v : Value) (h : d < a.tmps.size) : (a.put (some d) v).tmps[j]? = if d = j then some v else a.tmps[j]? := by
  simp only [Act.put, Array.getElem?_setIfInBounds]
  by_cases e : d = j
  · subst e; simp [h]
  · simp [e]
theorem true_ne {L : Array Bool} {i : Nat} (h : L.getD i false = true) (h' : L.getD i true = false) : False := by
  rcases Nat.lt_or_ge i L.size with hlt | hge
  · simp [Array.getD_eq_getD_getElem?, Array.getElem?_eq_getElem hlt] at h h'
    rw [h] at h'; cases h'
  · simp [Array.getD_eq_getD_getElem?, Array.getElem?_eq_none hge] at h
theorem none_done {n i : Nat} (h : (Array.replicate n false).getD i false = true) : False := by
  simp only [Array.getD_eq_getD_getElem?, Array.getElem?_replicate] at h
  split at h <;> cases h
theorem ent_bd : ∀ x ∈ ent, 2 ≤ x.1 ∧ x.1 ≤ 14 ∧ x.1 % 2 = 0 := by decide
theorem ent_wf : ∀ x ∈ ent, (Lit.int .i64 x.2.1).wf = true ∧ (Lit.int .i64 x.2.2.1).wf = true := by decide
theorem ent_to : ∀ x ∈ ent, nxt x.2.1 x.2.2.1 = x.2.2.2 ∧ x.2.2.2 ≠ 0 := by decide
theorem ent_inj : ∀ x ∈ ent, ∀ y ∈ ent, x.2.1 = y.2.1 → x.2.2.1 = y.2.2.1 → x.1 = y.1 := by decide
theorem to_ent (s q : Int) (h : nxt s q ≠ 0) : ∃ x ∈ ent, x.2.1 = s ∧ x.2.2.1 = q ∧ x.2.2.2 = nxt s q := by
  unfold nxt at *
  split at h
  · rename_i h1; rw [if_pos h1]; exact ⟨(2, 1, 1, 2), by decide, h1.2.symm, h1.1.symm, rfl⟩
  · rename_i h1
    split at h
    · rename_i h2; rw [if_neg h1, if_pos h2]; exact ⟨(4, 2, 2, 3), by decide, h2.2.symm, h2.1.symm, rfl⟩
    · rename_i h2
      split at h
      · rename_i h3; rw [if_neg h1, if_neg h2, if_pos h3]; exact ⟨(6, 3, 3, 4), by decide, h3.2.symm, h3.1.symm, rfl⟩
      · rename_i h3
        split at h
        · rename_i h4; rw [if_neg h1, if_neg h2, if_neg h3, if_pos h4]
          obtain ⟨rfl, rfl | rfl | rfl | rfl⟩ := h4
          · exact ⟨(8, 1, 4, 5), by decide, rfl, rfl, rfl⟩
          · exact ⟨(10, 2, 4, 5), by decide, rfl, rfl, rfl⟩
          · exact ⟨(12, 4, 4, 5), by decide, rfl, rfl, rfl⟩
          · exact ⟨(14, 6, 4, 5), by decide, rfl, rfl, rfl⟩
        · exact absurd rfl h
section
variable {P : Program} {B : World} {L : Array Bool} {a : Act} {w : World}
theorem inv_build (h : Inv P B L a w) (x : Nat × Int × Int × Int) (hx : x ∈ ent) : Inv P B (L.setIfInBounds (x.1 - 1) true) (a.put (some (x.1 / 2 + 1)) (key x.2.1 x.2.2.1)) w := by
  obtain ⟨b1, b2, b3⟩ := ent_bd x hx
  have hs := h.size
  have ht := h.tmps
  have hi : x.1 - 1 < L.size := by omega
  have hd : x.1 / 2 + 1 < a.tmps.size := by omega
  refine ⟨by simpa using hs, h.defers, by simpa [Act.put] using ht, h.below, ?_, ?_, ?_, ?_, ?_⟩
  · intro y hy hL
    obtain ⟨c1, c2, c3⟩ := ent_bd y hy
    rw [put_get _ _ _ _ hd]
    by_cases e : x.1 = y.1
    · rw [if_pos (by omega)]
      have : x = y := by
        have key : ∀ x ∈ ent, ∀ y ∈ ent, x.1 = y.1 → x = y := by decide
        exact key x hx y hy e
      rw [this]
    · rw [if_neg (by omega)]
      rw [getD_set hi, if_neg (by omega)] at hL
      exact h.build y hy hL
  · intro hL
    rw [getD_set hi, if_neg (by omega)] at hL
    obtain ⟨g, h1, h2, h3⟩ := h.made hL
    refine ⟨g, by rw [put_get _ _ _ _ hd, if_neg (by omega)]; exact h1, h2, h3.iff fun k v => ?_⟩
    refine ⟨fun ⟨y, hy, hLy, e⟩ => ⟨y, hy, ?_, e⟩, fun ⟨y, hy, hLy, e⟩ => ⟨y, hy, ?_, e⟩⟩
    · obtain ⟨c1, c2, c3⟩ := ent_bd y hy
      rw [getD_set hi, if_neg (by omega)]; exact hLy
    · obtain ⟨c1, c2, c3⟩ := ent_bd y hy
      rw [getD_set hi, if_neg (by omega)] at hLy; exact hLy
  · intro hL i hi2 hLi
    rw [getD_set hi, if_neg (by omega)] at hL
    rw [getD_set hi, if_neg (by omega)] at hLi
    exact h.dep hL i hi2 hLi
  · intro hL
    rw [getD_set hi, if_neg (by omega)] at hL
    rw [put_get _ _ _ _ hd, put_get _ _ _ _ hd, if_neg (by omega), if_neg (by omega)]
    exact h.move hL
  · intro hL
    rw [getD_set hi, if_neg (by omega)] at hL
    rw [put_get _ _ _ _ hd, put_get _ _ _ _ hd, if_neg (by omega), if_neg (by omega)]
    exact h.out hL
end
theorem inv_insert {B : World} {L : Array Bool} {a : Act} {w : World} {ops : Array Oper} {Q : Exit → Act → World → Prop} {o : Oper} (h : Inv Try.prog B L a w) (x : Nat × Int × Int × Int) (hx : x ∈ ent)
    (ho : ops[x.1]? = some o) (hg : o.guard = none) (hop : o.op = .insert 124 (.tmp 1) (.tmp (x.1 / 2 + 1)) (.const (.int .i64 x.2.2.2))) (hdst : o.dst = none)
    (h0 : L.getD 0 false = true) (h1 : L.getD (x.1 - 1) false = true) : wpOp Try.prog ops Q x.1 (Inv Try.prog B (L.setIfInBounds x.1 true)) a w := by
  obtain ⟨b1, b2, b3⟩ := ent_bd x hx
  have hs := h.size
  have hi : x.1 < L.size := by omega
  obtain ⟨g, hg1, hg2, hat⟩ := h.made h0
  have hk := h.build x hx h1
  obtain ⟨wf1, wf2⟩ := ent_wf x hx
  obtain ⟨l, hl⟩ := key_ok x.2.1 x.2.2.1 wf1 wf2
  obtain ⟨w', hr, hat', hgr⟩ := hat.store keyed Try.underlying124 hl (.int .i64 x.2.2.2)
  have hv1 : a.eval (.tmp 1) = .map (some g) := by simp [Act.eval, hg1, Array.getD_eq_getD_getElem?]
  have hv2 : a.eval (.tmp (x.1 / 2 + 1)) = key x.2.1 x.2.2.1 := by simp [Act.eval, hk, Array.getD_eq_getD_getElem?]
  refine Map.wpOp_skip ho hg (w' := w') ?_ ?_
  · unfold execOp
    simp only [hop, hv1, hv2]
    show Sem.run _ (Instr.mapUpdate _ _ _ _ >>= fun _ => pure Next.skip) _ = _
    rw [Sem.run_bind]
    show ((Instr.mapUpdate 124 (.map (some g)) (key x.2.1 x.2.2.1) (.int .i64 x.2.2.2)).run Try.prog w).andThen _ = _
    rw [hr]
    rfl
  · rw [hdst]
    show Inv _ _ _ a w'
    refine ⟨by simpa using hs, h.defers, h.tmps, h.below.grown hgr h.below.size (fun k hk => by injection hk with hk; omega), ?_, ?_, ?_, ?_, ?_⟩
    · intro y hy hL
      obtain ⟨c1, c2, c3⟩ := ent_bd y hy
      rw [getD_set hi, if_neg (by omega)] at hL
      exact h.build y hy hL
    · intro _
      refine ⟨g, hg1, hg2, hat'.iff fun k v => ?_⟩
      constructor
      · rintro (⟨rfl, rfl⟩ | ⟨hne, y, hy, hLy, rfl, rfl⟩)
        · exact ⟨x, hx, by rw [getD_set hi, if_pos rfl], rfl, rfl⟩
        · exact ⟨y, hy, by rw [getD_set hi]; split; rfl; exact hLy, rfl, rfl⟩
      · rintro ⟨y, hy, hLy, rfl, rfl⟩
        by_cases e : x.1 = y.1
        · have key : ∀ x ∈ ent, ∀ y ∈ ent, x.1 = y.1 → x = y := by decide
          have := key x hx y hy e
          subst this
          exact .inl ⟨rfl, rfl⟩
        · rw [getD_set hi, if_neg e] at hLy
          refine .inr ⟨fun he => ?_, y, hy, hLy, rfl, rfl⟩
          simp [key] at he
          exact e (ent_inj y hy x hx he.1 he.2).symm
    · intro hL
      rw [getD_set hi, if_neg (by omega)] at hL
      exact (true_ne h0 hL).elim
    · intro hL
      rw [getD_set hi, if_neg (by omega)] at hL
      exact h.move hL
    · intro hL
      rw [getD_set hi, if_neg (by omega)] at hL
      exact h.out hL
theorem inv_make {B : World} {L : Array Bool} {a : Act} {w : World} {ops : Array Oper} {Q : Exit → Act → World → Prop} {o : Oper} (h : Inv Try.prog B L a w)
    (ho : ops[0]? = some o) (hg : o.guard = none) (hop : o = { o with op := .makeMap 124 none, dst := some 1 }) (hL : L.getD 0 true = false) : wpOp Try.prog ops Q 0 (Inv Try.prog B (L.setIfInBounds 0 true)) a w := by
  have hs := h.size
  have ht := h.tmps
  have hi : 0 < L.size := by omega
  have hd : 1 < a.tmps.size := by omega
  have hop1 : o.op = .makeMap 124 none := by rw [hop]
  have hdst : o.dst = some 1 := by rw [hop]
  have hz := h.below.size
  refine Map.wpOp_val ho hg (v := .map (some w.heap.size)) (w' := w.alloc (.map #[] 0)) ?_ ?_
  · unfold execOp
    simp only [hop1]
    rfl
  · rw [hdst]
    refine ⟨by simpa using hs, h.defers, by simpa [Act.put] using ht, h.below.alloc hz _, ?_, ?_, ?_, ?_, ?_⟩
    · intro y hy hLy
      obtain ⟨c1, c2, c3⟩ := ent_bd y hy
      rw [getD_set hi, if_neg (by omega)] at hLy
      rw [put_get _ _ _ _ hd, if_neg (by omega)]
      exact h.build y hy hLy
    · intro _
      refine ⟨w.heap.size, by rw [put_get _ _ _ _ hd, if_pos rfl], hz, (Map.At.made w).iff fun k v => ⟨fun hf => hf.elim, ?_⟩⟩
      rintro ⟨y, hy, hLy, _⟩
      obtain ⟨c1, c2, c3⟩ := ent_bd y hy
      rw [getD_set hi, if_neg (by omega)] at hLy
      exact h.dep hL _ (.inl c3) hLy
    · intro hL0
      rw [getD_set hi, if_pos rfl] at hL0
      cases hL0
    · intro hLy
      rw [getD_set hi, if_neg (by omega)] at hLy
      exact (h.dep hL _ (.inr rfl) hLy).elim
    · intro hLy
      rw [getD_set hi, if_neg (by omega)] at hLy
      exact (h.dep hL _ (.inl rfl) hLy).elim
theorem inv_move {B : World} {L : Array Bool} {a : Act} {w : World} {ops : Array Oper} {Q : Exit → Act → World → Prop} {o : Oper} (h : Inv Try.prog B L a w)
    (ho : ops[15]? = some o) (hg : o.guard = none) (hop : o = { o with op := .move (.tmp 1), dst := some 9 }) (h0 : L.getD 0 false = true) : wpOp Try.prog ops Q 15 (Inv Try.prog B (L.setIfInBounds 15 true)) a w := by
  have hs := h.size
  have ht := h.tmps
  have hi : 15 < L.size := by omega
  have hd : 9 < a.tmps.size := by omega
  have hop1 : o.op = .move (.tmp 1) := by rw [hop]
  have hdst : o.dst = some 9 := by rw [hop]
  obtain ⟨g, hg1, hg2, hat⟩ := h.made h0
  refine Map.wpOp_val ho hg (v := .map (some g)) (w' := w) ?_ ?_
  · unfold execOp
    simp only [hop1]
    simp [Act.eval, hg1, Array.getD_eq_getD_getElem?]
  · rw [hdst]
    refine ⟨by simpa using hs, h.defers, by simpa [Act.put] using ht, h.below, ?_, ?_, ?_, ?_, ?_⟩
    · intro y hy hLy
      obtain ⟨c1, c2, c3⟩ := ent_bd y hy
      rw [getD_set hi, if_neg (by omega)] at hLy
      rw [put_get _ _ _ _ hd, if_neg (by omega)]
      exact h.build y hy hLy
    · intro _
      refine ⟨g, by rw [put_get _ _ _ _ hd, if_neg (by omega)]; exact hg1, hg2, hat.iff fun k v => ?_⟩
      refine ⟨fun ⟨y, hy, hLy, e⟩ => ⟨y, hy, ?_, e⟩, fun ⟨y, hy, hLy, e⟩ => ⟨y, hy, ?_, e⟩⟩
      · obtain ⟨c1, c2, c3⟩ := ent_bd y hy
        rw [getD_set hi, if_neg (by omega)]; exact hLy
      · obtain ⟨c1, c2, c3⟩ := ent_bd y hy
        rw [getD_set hi, if_neg (by omega)] at hLy; exact hLy
    · intro hL
      rw [getD_set hi, if_neg (by omega)] at hL
      exact (true_ne h0 hL).elim
    · intro _
      rw [put_get _ _ _ _ hd, put_get _ _ _ _ hd, if_pos rfl, if_neg (by omega), hg1]
    · intro hL
      rw [getD_set hi, if_neg (by omega)] at hL
      rw [put_get _ _ _ _ hd, put_get _ _ _ _ hd, if_neg (by omega), if_neg (by omega)]
      exact h.out hL
theorem inv_out {B : World} {L : Array Bool} {a : Act} {w : World} {ops : Array Oper} {Q : Exit → Act → World → Prop} {o : Oper} (h : Inv Try.prog B L a w)
    (ho : ops[16]? = some o) (hg : o.guard = none) (hop : o = { o with op := .assign (.tmp 9), dst := some 0 }) (h0 : L.getD 0 false = true) (h15 : L.getD 15 false = true) : wpOp Try.prog ops Q 16 (Inv Try.prog B (L.setIfInBounds 16 true)) a w := by
  have hs := h.size
  have ht := h.tmps
  have hi : 16 < L.size := by omega
  have hd : 0 < a.tmps.size := by omega
  have hop1 : o.op = .assign (.tmp 9) := by rw [hop]
  have hdst : o.dst = some 0 := by rw [hop]
  obtain ⟨g, hg1, hg2, hat⟩ := h.made h0
  have h9 : a.tmps[9]? = some (.map (some g)) := (h.move h15).trans hg1
  refine Map.wpOp_val ho hg (v := .map (some g)) (w' := w) ?_ ?_
  · unfold execOp
    simp only [hop1]
    simp [Act.eval, h9, Array.getD_eq_getD_getElem?]
  · rw [hdst]
    refine ⟨by simpa using hs, h.defers, by simpa [Act.put] using ht, h.below, ?_, ?_, ?_, ?_, ?_⟩
    · intro y hy hLy
      obtain ⟨c1, c2, c3⟩ := ent_bd y hy
      rw [getD_set hi, if_neg (by omega)] at hLy
      rw [put_get _ _ _ _ hd, if_neg (by omega)]
      exact h.build y hy hLy
    · intro _
      refine ⟨g, by rw [put_get _ _ _ _ hd, if_neg (by omega)]; exact hg1, hg2, hat.iff fun k v => ?_⟩
      refine ⟨fun ⟨y, hy, hLy, e⟩ => ⟨y, hy, ?_, e⟩, fun ⟨y, hy, hLy, e⟩ => ⟨y, hy, ?_, e⟩⟩
      · obtain ⟨c1, c2, c3⟩ := ent_bd y hy
        rw [getD_set hi, if_neg (by omega)]; exact hLy
      · obtain ⟨c1, c2, c3⟩ := ent_bd y hy
        rw [getD_set hi, if_neg (by omega)] at hLy; exact hLy
    · intro hL
      rw [getD_set hi, if_neg (by omega)] at hL
      exact (true_ne h0 hL).elim
    · intro hL
      rw [getD_set hi, if_neg (by omega)] at hL
      rw [put_get _ _ _ _ hd, put_get _ _ _ _ hd, if_neg (by omega), if_neg (by omega)]
      exact h.move hL
    · intro _
      rw [put_get _ _ _ _ hd, put_get _ _ _ _ hd, if_pos rfl, if_neg (by omega), hg1]
theorem next_c (w : World) : Calls Try.prog 71 #[] w fun e w' => ∃ g, e = .returned (.map (some g)) ∧ w.heap.size ≤ g ∧ Below w.heap.size w w' ∧ Map.At Try.prog 126 w' g nextR := by
  go_enter Try.func71, Try.ntmps71
  go_wp2
  refine wp_region_any (by kernel_rfl) ?_
  refine Map.wpAny_inv (Inv Try.prog w) (fun L a w' h => h.size.trans rfl) ?_ ?_ _ _ _ _ (Nat.le_refl _) ?_
  · intro L a w' h hr
    have hd := Map.all_done (by kernel_rfl) (h.size.trans rfl) hr
    have hs := h.size
    have hd' : ∀ i, i < 17 → L.getD i false = true := by
      intro i hi
      have h1 := hd i hi
      have hlt : i < L.size := by omega
      simpa [Array.getD_eq_getD_getElem?, Array.getElem?_eq_getElem hlt] using h1
    obtain ⟨g, h1, h2, h3⟩ := h.made (hd' 0 (by omega))
    have ho := (h.out (hd' 16 (by omega))).trans h1
    have hdf := h.defers
    have hat : Map.At Try.prog 126 w' g nextR := h3.iff fun k v => by
      constructor
      · rintro ⟨x, hx, _, rfl, rfl⟩
        obtain ⟨e1, e2⟩ := ent_to x hx
        exact ⟨_, _, rfl, by rw [e1]; exact e2, by rw [e1]⟩
      · rintro ⟨s, q, rfl, hne, rfl⟩
        obtain ⟨x, hx, e1, e2, e3⟩ := to_ent s q hne
        obtain ⟨b1, b2, _⟩ := ent_bd x hx
        exact ⟨x, hx, hd' _ (by omega), by rw [e1, e2], by rw [e3]⟩
    have hbl := h.below
    obtain ⟨ts, ds⟩ := a
    simp only at ho hdf
    subst hdf
    rename_i Q' K hK
    refine hK _ _ ?_
    go_wp2
    go_ret
    refine ⟨g, ?_, h2, hbl, hat⟩
    have e : ts.getD 0 undef = .map (some g) := by simp [Array.getD_eq_getD_getElem?, ho]
    rw [e]
  · intro L a w' i h hi
    obtain ⟨o, ho, hL, hafter⟩ := Map.ready_in hi
    have hi17 : i < 17 := (Array.getElem?_eq_some_iff.1 ho).1
    have hc : i = 0 ∨ i = 1 ∨ i = 2 ∨ i = 3 ∨ i = 4 ∨ i = 5 ∨ i = 6 ∨ i = 7 ∨ i = 8 ∨ i = 9 ∨ i = 10 ∨ i = 11 ∨ i = 12 ∨ i = 13 ∨ i = 14 ∨ i = 15 ∨ i = 16 := by omega
    clear hi hi17
    rcases hc with rfl | rfl | rfl | rfl | rfl | rfl | rfl | rfl | rfl | rfl | rfl | rfl | rfl | rfl | rfl | rfl | rfl
    · obtain rfl := Option.some.inj ho
      exact inv_make h rfl rfl rfl hL
    · obtain rfl := Option.some.inj ho
      exact Map.wpOp_val rfl rfl (v := key 1 1) (w' := w') (by kernel_rfl) (inv_build h (2, 1, 1, 2) (by decide))
    · obtain rfl := Option.some.inj ho
      exact inv_insert h (2, 1, 1, 2) (by decide) rfl rfl rfl rfl (hafter ⟨0, .data⟩ (by simp) rfl) (hafter ⟨1, .data⟩ (by simp) rfl)
    · obtain rfl := Option.some.inj ho
      exact Map.wpOp_val rfl rfl (v := key 2 2) (w' := w') (by kernel_rfl) (inv_build h (4, 2, 2, 3) (by decide))
    · obtain rfl := Option.some.inj ho
      exact inv_insert h (4, 2, 2, 3) (by decide) rfl rfl rfl rfl (hafter ⟨0, .data⟩ (by simp) rfl) (hafter ⟨3, .data⟩ (by simp) rfl)
    · obtain rfl := Option.some.inj ho
      exact Map.wpOp_val rfl rfl (v := key 3 3) (w' := w') (by kernel_rfl) (inv_build h (6, 3, 3, 4) (by decide))
    · obtain rfl := Option.some.inj ho
      exact inv_insert h (6, 3, 3, 4) (by decide) rfl rfl rfl rfl (hafter ⟨0, .data⟩ (by simp) rfl) (hafter ⟨5, .data⟩ (by simp) rfl)
    · obtain rfl := Option.some.inj ho
      exact Map.wpOp_val rfl rfl (v := key 1 4) (w' := w') (by kernel_rfl) (inv_build h (8, 1, 4, 5) (by decide))
    · obtain rfl := Option.some.inj ho
      exact inv_insert h (8, 1, 4, 5) (by decide) rfl rfl rfl rfl (hafter ⟨0, .data⟩ (by simp) rfl) (hafter ⟨7, .data⟩ (by simp) rfl)
    · obtain rfl := Option.some.inj ho
      exact Map.wpOp_val rfl rfl (v := key 2 4) (w' := w') (by kernel_rfl) (inv_build h (10, 2, 4, 5) (by decide))
    · obtain rfl := Option.some.inj ho
      exact inv_insert h (10, 2, 4, 5) (by decide) rfl rfl rfl rfl (hafter ⟨0, .data⟩ (by simp) rfl) (hafter ⟨9, .data⟩ (by simp) rfl)
    · obtain rfl := Option.some.inj ho
      exact Map.wpOp_val rfl rfl (v := key 4 4) (w' := w') (by kernel_rfl) (inv_build h (12, 4, 4, 5) (by decide))
    · obtain rfl := Option.some.inj ho
      exact inv_insert h (12, 4, 4, 5) (by decide) rfl rfl rfl rfl (hafter ⟨0, .data⟩ (by simp) rfl) (hafter ⟨11, .data⟩ (by simp) rfl)
    · obtain rfl := Option.some.inj ho
      exact Map.wpOp_val rfl rfl (v := key 6 4) (w' := w') (by kernel_rfl) (inv_build h (14, 6, 4, 5) (by decide))
    · obtain rfl := Option.some.inj ho
      exact inv_insert h (14, 6, 4, 5) (by decide) rfl rfl rfl rfl (hafter ⟨0, .data⟩ (by simp) rfl) (hafter ⟨13, .data⟩ (by simp) rfl)
    · obtain rfl := Option.some.inj ho
      exact inv_move h rfl rfl rfl (hafter ⟨0, .data⟩ (by simp) rfl)
    · obtain rfl := Option.some.inj ho
      exact inv_out h rfl rfl rfl (hafter ⟨0, .phase⟩ (by simp) rfl) (hafter ⟨15, .data⟩ (by simp) rfl)
  · exact ⟨rfl, rfl, rfl, Below.drew (Below.refl _ _), fun x _ h => (none_done h).elim, fun h => (none_done h).elim, fun _ i _ h => none_done h, fun h => (none_done h).elim, fun h => (none_done h).elim⟩

/-- what a look-up says -/
theorem look {w : World} {g : Nat} (h : Map.At Try.prog 126 w g nextR) (s q : Int) (hs : (Lit.int .i64 s).wf = true) (hq : (Lit.int .i64 q).wf = true) :
    (Instr.lookup 124 (.map (some g)) (.agg #[.int .i64 s, .int .i64 q]) true).run Try.prog w = .ok (.tuple #[.int .i64 (nxt s q), .bool (nxt s q != 0)]) w := by
  obtain ⟨l, hl⟩ := key_ok s q hs hq
  rcases h.look keyed Try.underlying124 (z := .int .i64 0) (fun w => by kernel_rfl) hl true with ⟨v, hv, hr⟩ | ⟨hn, hr⟩
  · obtain ⟨s', q', hk, hne, rfl⟩ := hv
    simp [key] at hk
    obtain ⟨rfl, rfl⟩ := hk
    have : (nxt s q != 0) = true := by simp [hne]
    rw [this]
    exact hr
  · have h0 : nxt s q = 0 := by
      by_cases h0 : nxt s q = 0
      · exact h0
      · exact absurd ⟨s, q, rfl, h0, rfl⟩ (hn (.int .i64 (nxt s q)))
    rw [h0]
    exact hr
set_option maxRecDepth 100000 in
theorem may_c (s t q : Int) (w : World) (hs : (Lit.int .i64 s).wf = true) (hq : (Lit.int .i64 q).wf = true) :
    Calls Try.prog 53 #[.agg #[.int .i64 s, .int .i64 t], .int .i64 q] w fun e w' => e = .returned (.bool (nxt s q != 0)) ∧ Below w.heap.size w w' := by
  go_enter Try.func53, Try.ntmps53
  go_wp2
  go_region_held3 (fun w' => w'.cell? ⟨w.heap.size, 0, none⟩ = some (.int .i64 s)) (first | assumption | (simp [go_sem]; done))
    ((go_at_call 71; refine (next_c _).mono ?_; rintro e w1 ⟨g, rfl, hg, hb1, hat⟩
      have hs1 : w1.cell? ⟨w.heap.size, 0, none⟩ = some (.int .i64 s) := (hb1.cell (p := ⟨w.heap.size, 0, none⟩) (by simp)).trans (by simp [go_sem])
      have hlk := look hat s q hs hq))
  go_wp2
  go_ret
  exact ⟨rfl, (((Below.refl _ _).alloc (Nat.le_refl _) _).drew).trans (hb1.mono (by simp))⟩
theorem new_c (w : World) : Calls Try.prog 29 #[] w fun e w' => e = .returned (.agg #[.int .i64 1, .int .i64 0]) ∧ Below w.heap.size w w' := by
  go_enter Try.func29, Try.ntmps29
  go_wp2
  refine bodyPost_ret (v := .agg #[.int .i64 1, .int .i64 0]) (by simp [results, Try.results29, go_sem]) rfl ⟨rfl, ?_⟩
  exact (Below.refl _ _).alloc (Nat.le_refl _) _
theorem rto_c (s q : Int) (w : World) : Calls Try.prog 77 #[.int .i64 s, .int .i64 q] w fun e w' => e = .returned (.int .i64 (nxt s q)) ∧ w = w' := by
  by_cases q1 : q = 1
  · subst q1
    by_cases s1 : s = 1
    · subst s1
      go_enter Try.func77, Try.ntmps77
      go_wp2
      go_ret
      exact ⟨rfl, rfl⟩
    · have hs : (s == 1) = false := by simp [s1]
      go_enter Try.func77, Try.ntmps77
      go_wp2
      go_ret
      exact ⟨Sat.ret_int (by unfold nxt; simp [s1]), rfl⟩
  · have hq1 : (q == 1) = false := by simp [q1]
    by_cases q2 : q = 2
    · subst q2
      by_cases s2 : s = 2
      · subst s2
        go_enter Try.func77, Try.ntmps77
        go_wp2
        go_ret
        exact ⟨rfl, rfl⟩
      · have hs : (s == 2) = false := by simp [s2]
        go_enter Try.func77, Try.ntmps77
        go_wp2
        go_ret
        exact ⟨Sat.ret_int (by unfold nxt; simp [s2]), rfl⟩
    · have hq2 : (q == 2) = false := by simp [q2]
      by_cases q3 : q = 3
      · subst q3
        by_cases s3 : s = 3
        · subst s3
          go_enter Try.func77, Try.ntmps77
          go_wp2
          go_ret
          exact ⟨rfl, rfl⟩
        · have hs : (s == 3) = false := by simp [s3]
          go_enter Try.func77, Try.ntmps77
          go_wp2
          go_ret
          exact ⟨Sat.ret_int (by unfold nxt; simp [s3]), rfl⟩
      · have hq3 : (q == 3) = false := by simp [q3]
        by_cases q4 : q = 4
        · subst q4
          by_cases s1 : s = 1
          · subst s1
            go_enter Try.func77, Try.ntmps77
            go_wp2
            go_ret
            exact ⟨rfl, rfl⟩
          · by_cases s2 : s = 2
            · subst s2
              go_enter Try.func77, Try.ntmps77
              go_wp2
              go_ret
              exact ⟨rfl, rfl⟩
            · by_cases s4 : s = 4
              · subst s4
                go_enter Try.func77, Try.ntmps77
                go_wp2
                go_ret
                exact ⟨rfl, rfl⟩
              · by_cases s6 : s = 6
                · subst s6
                  go_enter Try.func77, Try.ntmps77
                  go_wp2
                  go_ret
                  exact ⟨rfl, rfl⟩
                · have hs1 : (s == 1) = false := by simp [s1]
                  have hs2 : (s == 2) = false := by simp [s2]
                  have hs4 : (s == 4) = false := by simp [s4]
                  have hs6 : (s == 6) = false := by simp [s6]
                  go_enter Try.func77, Try.ntmps77
                  go_wp2
                  go_ret
                  exact ⟨Sat.ret_int (by unfold nxt; simp [s1, s2, s4, s6]), rfl⟩
        · have hq4 : (q == 4) = false := by simp [q4]
          go_enter Try.func77, Try.ntmps77
          go_wp2
          go_ret
          exact ⟨Sat.ret_int (by unfold nxt; simp [q1, q2, q3, q4]), rfl⟩
end Box
end Go.Proofs.Ythccojfflmfggaa
/- The walks of layer 14 (box): what is asked of a container. -/
namespace Go.Proofs.Ythccojfflmfggaa
open Go.RowKit Go.Maps
namespace Box
/-- a container as a value -/
abbrev val (b : B) : Value := .agg #[.int .i64 b.1, .int .i64 b.2]
theorem look0 {w : World} {g : Nat} (h : Map.At Try.prog 126 w g nextR) {s q : Int} (hs : (Lit.int .i64 s).wf = true) (hq : (Lit.int .i64 q).wf = true) (h0 : Hid (nxt s q = 0)) :
    (Instr.lookup 124 (.map (some g)) (.agg #[.int .i64 s, .int .i64 q]) true).run Try.prog w = .ok (.tuple #[.int .i64 0, .bool false]) w := by
  rw [look h s q hs hq, h0.out]; rfl
theorem look1 {w : World} {g : Nat} (h : Map.At Try.prog 126 w g nextR) {s q : Int} (hs : (Lit.int .i64 s).wf = true) (hq : (Lit.int .i64 q).wf = true) (h0 : Hid (nxt s q ≠ 0)) :
    (Instr.lookup 124 (.map (some g)) (.agg #[.int .i64 s, .int .i64 q]) true).run Try.prog w = .ok (.tuple #[.int .i64 (nxt s q), .bool true]) w := by
  rw [look h s q hs hq, show (nxt s q != 0) = true from by simp [h0.out]]
def Said (s t q r : Int) (well : Bool) (W : World) (e : Ending) (w' : World) : Prop :=
  e = .returned (.tuple #[.agg #[.int .i64 (step (s, t) q well r).1, .int .i64 (step (s, t) q well r).2], .int .i64 (err s q)]) ∧ Below W.heap.size W w'
set_option maxRecDepth 100000 in
theorem do_c (s t q r : Int) (well : Bool) (w : World) (hs : (Lit.int .i64 s).wf = true) (hq : (Lit.int .i64 q).wf = true) (ht : t ≤ 9223372036854775807) :
    Calls Try.prog 55 #[.agg #[.int .i64 s, .int .i64 t], .int .i64 q, .bool well, .int .i64 r] w (Said s t q r well w) := by
  by_cases h0 : nxt s q = 0
  · have e1 : Hid (step (s, t) q well r = (s, t)) := by show step _ _ _ _ = _; unfold step; rw [if_pos h0]
    have h0' := Lib.hid h0
    have fin : ∀ w', Below w.heap.size w w' → Said s t q r well w (.returned (.tuple #[.agg #[.int .i64 s, .int .i64 t], .int .i64 7])) w' :=
      fun w' hb => ⟨by unfold err; rw [e1.out, if_pos h0'.out], hb⟩
    clear h0
    go_enter Try.func55, Try.ntmps55
    go_wp2
    go_region_held3 (fun w' => w'.cell? ⟨w.heap.size, 0, none⟩ = some (.int .i64 s)) (first | assumption | (simp [go_sem]; done))
      ((go_at_call 71; refine (next_c _).mono ?_; rintro e w1 ⟨g, rfl, hg, hb1, hat⟩
        have hs1 : w1.cell? ⟨w.heap.size, 0, none⟩ = some (.int .i64 s) := (hb1.cell (p := ⟨w.heap.size, 0, none⟩) (by simp; omega)).trans (by simp [go_sem])
        have hlk := look0 hat hs hq h0'))
    have hbl : Below w.heap.size w w1 := (((Below.refl _ _).alloc (Nat.le_refl _) _).alloc (by simp) _).drew.trans (hb1.mono (by simp; omega))
    obtain ⟨hc, hf⟩ := Mem.bcell hb1
    have hz : w.heap.size + 1 < w1.heap.size := by have := hb1.size; simp at this; omega
    have hs2 : w1.cell? ⟨w.heap.size, 1, none⟩ = some (.int .i64 t) := (hc _ _ (by simp; omega)).trans (by simp [go_sem])
    have hr1 : w1.cell? ⟨w.heap.size + 1, 0, none⟩ = some (.int .i64 0) := (hc _ _ (by simp)).trans (by simp [go_sem])
    have hr2 : w1.cell? ⟨w.heap.size + 1, 1, none⟩ = some (.int .i64 0) := (hc _ _ (by simp)).trans (by simp [go_sem])
    have hf1 : ∀ o, w1.frozen? ⟨w.heap.size, o, none⟩ = false := fun o => (hf _ _ (by simp; omega)).trans (by simp [go_sem])
    have hf2 : ∀ o, w1.frozen? ⟨w.heap.size + 1, o, none⟩ = false := fun o => (hf _ _ (by simp)).trans (by simp [go_sem])
    clear hc hf hat hlk hb1 hg
    go_wp2
    refine bodyPost_ret (v := .tuple #[.agg #[.int .i64 s, .int .i64 t], .int .i64 7]) (by simp [results, Try.results55, go_sem, hr1, hr2]) rfl (fin _ ?_)
    exact (hbl.setCell (by simp) _).setCell (by simp) _
  · have h0' := Lib.hid h0
    have htb := Sat.add_bd t 1
    have fin : ∀ (x y : Int), step (s, t) q well r = (x, y) → ∀ w', Below w.heap.size w w' → Said s t q r well w (.returned (.tuple #[.agg #[.int .i64 x, .int .i64 y], .int .i64 0])) w' :=
      fun x y e w' hb => ⟨by unfold err; rw [e, if_neg h0'.out], hb⟩
    have Fin := Lib.hid fin
    clear fin
    have e0 : Hid (step (s, t) q well r = if well then (nxt s q, 0) else if r < Sat.add t 1 then (6, Sat.add t 1) else (s, Sat.add t 1)) := by
      show step _ _ _ _ = _; unfold step; rw [if_neg h0]
    clear h0
    cases well with
    | true =>
      go_enter Try.func55, Try.ntmps55
      go_wp2
      go_region_held3 (fun w' => w'.cell? ⟨w.heap.size, 0, none⟩ = some (.int .i64 s)) (first | assumption | (simp [go_sem]; done))
        ((go_at_call 71; refine (next_c _).mono ?_; rintro e w1 ⟨g, rfl, hg, hb1, hat⟩
          have hs1 : w1.cell? ⟨w.heap.size, 0, none⟩ = some (.int .i64 s) := (hb1.cell (p := ⟨w.heap.size, 0, none⟩) (by simp; omega)).trans (by simp [go_sem])
          have hlk := look1 hat hs hq h0'))
      have hbl : Below w.heap.size w w1 := (((Below.refl _ _).alloc (Nat.le_refl _) _).alloc (by simp) _).drew.trans (hb1.mono (by simp; omega))
      obtain ⟨hc, hf⟩ := Mem.bcell hb1
      have hz : w.heap.size + 1 < w1.heap.size := by have := hb1.size; simp at this; omega
      have hs2 : w1.cell? ⟨w.heap.size, 1, none⟩ = some (.int .i64 t) := (hc _ _ (by simp; omega)).trans (by simp [go_sem])
      have hr1 : w1.cell? ⟨w.heap.size + 1, 0, none⟩ = some (.int .i64 0) := (hc _ _ (by simp)).trans (by simp [go_sem])
      have hr2 : w1.cell? ⟨w.heap.size + 1, 1, none⟩ = some (.int .i64 0) := (hc _ _ (by simp)).trans (by simp [go_sem])
      have hf1 : ∀ o, w1.frozen? ⟨w.heap.size, o, none⟩ = false := fun o => (hf _ _ (by simp; omega)).trans (by simp [go_sem])
      have hf2 : ∀ o, w1.frozen? ⟨w.heap.size + 1, o, none⟩ = false := fun o => (hf _ _ (by simp)).trans (by simp [go_sem])
      clear hc hf hat hlk hb1 hg
      go_wp2
      refine bodyPost_ret (v := .tuple #[.agg #[.int .i64 (nxt s q), .int .i64 0], .int .i64 0]) (by simp [results, Try.results55, go_sem, hr1, hr2]) rfl (Fin.out _ _ (by rw [e0.out]; rfl) _ ?_)
      exact (hbl.setCell (by simp) _).setCell (by simp) _
    | false =>
      by_cases hr : r < Sat.add t 1
      · have e1 : Hid (step (s, t) q false r = (6, Sat.add t 1)) := by show step _ _ _ _ = _; rw [e0.out, if_neg (by simp), if_pos hr]
        go_enter Try.func55, Try.ntmps55
        go_wp2
        go_region_held3 (fun w' => w'.cell? ⟨w.heap.size, 0, none⟩ = some (.int .i64 s)) (first | assumption | (simp [go_sem]; done))
          ((go_at_call 71; refine (next_c _).mono ?_; rintro e w1 ⟨g, rfl, hg, hb1, hat⟩
            have hs1 : w1.cell? ⟨w.heap.size, 0, none⟩ = some (.int .i64 s) := (hb1.cell (p := ⟨w.heap.size, 0, none⟩) (by simp; omega)).trans (by simp [go_sem])
            have hlk := look1 hat hs hq h0'))
        have hbl : Below w.heap.size w w1 := (((Below.refl _ _).alloc (Nat.le_refl _) _).alloc (by simp) _).drew.trans (hb1.mono (by simp; omega))
        obtain ⟨hc, hf⟩ := Mem.bcell hb1
        have hz : w.heap.size + 1 < w1.heap.size := by have := hb1.size; simp at this; omega
        have hs2 : w1.cell? ⟨w.heap.size, 1, none⟩ = some (.int .i64 t) := (hc _ _ (by simp; omega)).trans (by simp [go_sem])
        have hr1 : w1.cell? ⟨w.heap.size + 1, 0, none⟩ = some (.int .i64 0) := (hc _ _ (by simp)).trans (by simp [go_sem])
        have hr2 : w1.cell? ⟨w.heap.size + 1, 1, none⟩ = some (.int .i64 0) := (hc _ _ (by simp)).trans (by simp [go_sem])
        have hf1 : ∀ o, w1.frozen? ⟨w.heap.size, o, none⟩ = false := fun o => (hf _ _ (by simp; omega)).trans (by simp [go_sem])
        have hf2 : ∀ o, w1.frozen? ⟨w.heap.size + 1, o, none⟩ = false := fun o => (hf _ _ (by simp)).trans (by simp [go_sem])
        clear hc hf hat hlk hb1 hg
        go_wp2_with (go_at_call 74; refine (Sat.add_c _ _ _ ht (by decide)).mono ?_; rintro e w' ⟨rfl, rfl⟩)
        refine bodyPost_ret (v := .tuple #[.agg #[.int .i64 6, .int .i64 (Sat.add t 1)], .int .i64 0]) (by simp [results, Try.results55, go_sem, hr1, hr2]) rfl (Fin.out _ _ e1.out _ ?_)
        exact ((((hbl.setCell (by simp) _).setCell (by simp) _).setCell (by simp) _).setCell (by simp) _)
      · have e1 : Hid (step (s, t) q false r = (s, Sat.add t 1)) := by show step _ _ _ _ = _; rw [e0.out, if_neg (by simp), if_neg hr]
        go_enter Try.func55, Try.ntmps55
        go_wp2
        go_region_held3 (fun w' => w'.cell? ⟨w.heap.size, 0, none⟩ = some (.int .i64 s)) (first | assumption | (simp [go_sem]; done))
          ((go_at_call 71; refine (next_c _).mono ?_; rintro e w1 ⟨g, rfl, hg, hb1, hat⟩
            have hs1 : w1.cell? ⟨w.heap.size, 0, none⟩ = some (.int .i64 s) := (hb1.cell (p := ⟨w.heap.size, 0, none⟩) (by simp; omega)).trans (by simp [go_sem])
            have hlk := look1 hat hs hq h0'))
        have hbl : Below w.heap.size w w1 := (((Below.refl _ _).alloc (Nat.le_refl _) _).alloc (by simp) _).drew.trans (hb1.mono (by simp; omega))
        obtain ⟨hc, hf⟩ := Mem.bcell hb1
        have hz : w.heap.size + 1 < w1.heap.size := by have := hb1.size; simp at this; omega
        have hs2 : w1.cell? ⟨w.heap.size, 1, none⟩ = some (.int .i64 t) := (hc _ _ (by simp; omega)).trans (by simp [go_sem])
        have hr1 : w1.cell? ⟨w.heap.size + 1, 0, none⟩ = some (.int .i64 0) := (hc _ _ (by simp)).trans (by simp [go_sem])
        have hr2 : w1.cell? ⟨w.heap.size + 1, 1, none⟩ = some (.int .i64 0) := (hc _ _ (by simp)).trans (by simp [go_sem])
        have hf1 : ∀ o, w1.frozen? ⟨w.heap.size, o, none⟩ = false := fun o => (hf _ _ (by simp; omega)).trans (by simp [go_sem])
        have hf2 : ∀ o, w1.frozen? ⟨w.heap.size + 1, o, none⟩ = false := fun o => (hf _ _ (by simp)).trans (by simp [go_sem])
        clear hc hf hat hlk hb1 hg
        go_wp2_with (go_at_call 74; refine (Sat.add_c _ _ _ ht (by decide)).mono ?_; rintro e w' ⟨rfl, rfl⟩)
        refine bodyPost_ret (v := .tuple #[.agg #[.int .i64 s, .int .i64 (Sat.add t 1)], .int .i64 0]) (by simp [results, Try.results55, go_sem, hr1, hr2]) rfl (Fin.out _ _ e1.out _ ?_)
        exact (((hbl.setCell (by simp) _).setCell (by simp) _).setCell (by simp) _)
/-- the reference's answer -/
def RSaid (s t q r : Int) (well : Bool) (W : World) (e : Ending) (w' : World) : Prop :=
  e = .returned (.tuple #[.agg #[.int .i64 (step (s, t) q well r).1, .int .i64 (step (s, t) q well r).2], .bool (nxt s q != 0)]) ∧ Below W.heap.size W w'
theorem rdo_c (s t q r : Int) (well : Bool) (w : World) (ht : t ≤ 9223372036854775807) :
    Calls Try.prog 78 #[.agg #[.int .i64 s, .int .i64 t], .int .i64 q, .bool well, .int .i64 r] w (RSaid s t q r well w) := by
  by_cases h0 : nxt s q = 0
  · have h0' := Lib.hid h0
    have e1 : Hid (step (s, t) q well r = (s, t)) := by show step _ _ _ _ = _; unfold step; rw [if_pos h0]
    have fin : ∀ w', Below w.heap.size w w' → RSaid s t q r well w (.returned (.tuple #[.agg #[.int .i64 s, .int .i64 t], .bool false])) w' :=
      fun w' hb => ⟨by rw [e1.out, h0'.out]; rfl, hb⟩
    clear h0
    go_enter Try.func78, Try.ntmps78
    go_wp2_with (go_at_call 77; refine (rto_c _ _ _).mono ?_; rw [h0'.out]; rintro e w' ⟨rfl, rfl⟩)
    refine bodyPost_ret (v := .tuple #[.agg #[.int .i64 s, .int .i64 t], .bool false]) (by simp [results, Try.results78, go_sem]) rfl (fin _ ?_)
    exact ((Below.refl _ _).alloc (Nat.le_refl _) _).alloc (by simp) _
  · have h0' : (nxt s q == 0) = false := by simp [h0]
    have h0h := Lib.hid h0
    have fin : ∀ (x y : Int), step (s, t) q well r = (x, y) → ∀ w', Below w.heap.size w w' → RSaid s t q r well w (.returned (.tuple #[.agg #[.int .i64 x, .int .i64 y], .bool true])) w' :=
      fun x y e w' hb => ⟨by rw [e, show (nxt s q != 0) = true from by simp [h0h.out]], hb⟩
    have Fin := Lib.hid fin
    clear fin
    have e0 : Hid (step (s, t) q well r = if well then (nxt s q, 0) else if r < Sat.add t 1 then (6, Sat.add t 1) else (s, Sat.add t 1)) := by
      show step _ _ _ _ = _; unfold step; rw [if_neg h0]
    clear h0
    have htb := Sat.add_bd t 1
    cases well with
    | true =>
      go_enter Try.func78, Try.ntmps78
      go_wp2_with (go_at_call 77; refine (rto_c _ _ _).mono ?_; rintro e w' ⟨rfl, rfl⟩)
      refine bodyPost_ret (v := .tuple #[.agg #[.int .i64 (nxt s q), .int .i64 0], .bool true]) (by simp [results, Try.results78, go_sem]) rfl (Fin.out _ _ (by rw [e0.out]; rfl) _ ?_)
      exact ((Below.refl _ _).alloc (Nat.le_refl _) _).alloc (by simp) _
    | false =>
      by_cases hr : r < Sat.add t 1
      · have e1 : Hid (step (s, t) q false r = (6, Sat.add t 1)) := by show step _ _ _ _ = _; rw [e0.out, if_neg (by simp), if_pos hr]
        go_enter Try.func78, Try.ntmps78
        go_wp2_with (first
          | (go_at_call 77; refine (rto_c _ _ _).mono ?_; rintro e w' ⟨rfl, rfl⟩)
          | (go_at_call 84; refine (Sat.radd_c _ _ _ ht (by decide)).mono ?_; rintro e w' ⟨rfl, rfl⟩))
        refine bodyPost_ret (v := .tuple #[.agg #[.int .i64 6, .int .i64 (Sat.add t 1)], .bool true]) (by simp [results, Try.results78, go_sem]) rfl (Fin.out _ _ e1.out _ ?_)
        exact ((Below.refl _ _).alloc (Nat.le_refl _) _).alloc (by simp) _
      · have e1 : Hid (step (s, t) q false r = (s, Sat.add t 1)) := by show step _ _ _ _ = _; rw [e0.out, if_neg (by simp), if_neg hr]
        go_enter Try.func78, Try.ntmps78
        go_wp2_with (first
          | (go_at_call 77; refine (rto_c _ _ _).mono ?_; rintro e w' ⟨rfl, rfl⟩)
          | (go_at_call 84; refine (Sat.radd_c _ _ _ ht (by decide)).mono ?_; rintro e w' ⟨rfl, rfl⟩))
        refine bodyPost_ret (v := .tuple #[.agg #[.int .i64 s, .int .i64 (Sat.add t 1)], .bool true]) (by simp [results, Try.results78, go_sem]) rfl (Fin.out _ _ e1.out _ ?_)
        exact ((Below.refl _ _).alloc (Nat.le_refl _) _).alloc (by simp) _
end Box
end Go.Proofs.Ythccojfflmfggaa
