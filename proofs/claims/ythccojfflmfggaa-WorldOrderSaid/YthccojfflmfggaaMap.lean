/- Words for maps: a block that is a map with just these entries; a look-up, a store; and regions whose order is open, by an invariant. -/
import Derived.Test.YthccojfflmfggaaMem
import Derived.Maps.Own
import Derived.Maps.OwnOps
import Derived.DeepKeys4
namespace Go.Proofs.Ythccojfflmfggaa
open Go.RowKit Go.Maps
namespace Map
/-- block g is a map whose entries are just these -/
def At (P : Program) (K : TypeId) (w : World) (g : Nat) (R : Value → Value → Prop) : Prop :=
  ∃ (es : Array MapEntry) (clock : Nat), w.heap[g]? = some (.map es clock) ∧ (∀ e ∈ es.toList, ∃ l, keyOf P K e.key = some l) ∧ (∀ e ∈ es.toList, R e.key e.val) ∧
    (∀ k v, R k v → ∃ e ∈ es.toList, e.key = k ∧ e.val = v) ∧ (∀ (i j : Nat) (e e' : MapEntry), es[i]? = some e → es[j]? = some e' → e.key = e'.key → i = j)
section
variable {P : Program} {K T E : TypeId} {w w' : World} {g : Nat} {R R' : Value → Value → Prop}
theorem At.of_block (h : At P K w g R) (hb : w'.heap[g]? = w.heap[g]?) : At P K w' g R := by
  obtain ⟨es, c, h1, h2⟩ := h
  exact ⟨es, c, hb.trans h1, h2⟩
theorem At.lt (h : At P K w g R) : g < w.heap.size := by
  obtain ⟨es, c, h1, _⟩ := h
  exact (Array.getElem?_eq_some_iff.1 h1).1
theorem At.below {B : Nat} (h : At P K w g R) (hb : Below B w w') (hg : g < B) : At P K w' g R := h.of_block (hb.block g hg)
theorem At.iff (h : At P K w g R) (he : ∀ k v, R k v ↔ R' k v) : At P K w g R' := by
  have e : R = R' := funext fun k => funext fun v => propext (he k v)
  rw [← e]; exact h
theorem At.made (w : World) : At P K (w.alloc (.map #[] 0)) w.heap.size (fun _ _ => False) :=
  ⟨#[], 0, heap_alloc_new w _, by simp, by simp, by simp, by simp⟩
theorem At.look (h : At P K w g R) (L : Keyed P K) (hT : P.underlying T = some (.map K E)) {z : Value} (hz : ∀ w : World, (zeroValue E).run P w = .ok z w) {x : Value} {lx : Lit} (hx : keyOf P K x = some lx) (ok : Bool) :
    (∃ v, R x v ∧ (Instr.lookup T (.map (some g)) x ok).run P w = .ok (if ok then .tuple #[v, .bool true] else v) w) ∨
    ((∀ v, ¬ R x v) ∧ (Instr.lookup T (.map (some g)) x ok).run P w = .ok (if ok then .tuple #[z, .bool false] else z) w) := by
  obtain ⟨es, c, h1, h2, h3, h4, h5⟩ := h
  have hck := fun em => L.check w em hx
  have hzw := hz w
  rcases L.find w hx es.toList h2 with ⟨hf, hno⟩ | ⟨j, e, hf, hj, he⟩
  · refine .inr ⟨fun v hv => ?_, ?_⟩
    · obtain ⟨e, hm, hk, _⟩ := h4 x v hv
      exact hno e hm hk
    · simp [Instr.lookup, run_underlying hT, getObj, Sem.run, h1, hck, hf, hzw]
  · refine .inl ⟨e.val, ?_, ?_⟩
    · rw [← he]; exact h3 e (List.mem_of_getElem? hj)
    · simp [Instr.lookup, run_underlying hT, getObj, Sem.run, h1, hck, hf]
theorem At.fn (h : At P K w g R) {k v v' : Value} (h1 : R k v) (h2 : R k v') : v = v' := by
  obtain ⟨es, c, _, _, _, h4, h5⟩ := h
  obtain ⟨e, hm, hk, hv⟩ := h4 k v h1
  obtain ⟨e', hm', hk', hv'⟩ := h4 k v' h2
  obtain ⟨i, hi⟩ := List.getElem?_of_mem hm
  obtain ⟨j, hj⟩ := List.getElem?_of_mem hm'
  have hij := h5 i j e e' (by simpa using hi) (by simpa using hj) (by rw [hk, hk'])
  subst hij
  rw [hi] at hj
  injection hj with hj
  rw [← hv, ← hv', hj]
theorem At.store (h : At P K w g R) (L : Keyed P K) (hT : P.underlying T = some (.map K E)) {x : Value} {lx : Lit} (hx : keyOf P K x = some lx) (v : Value) :
    ∃ w', (Instr.mapUpdate T (.map (some g)) x v).run P w = .ok () w' ∧ At P K w' g (fun k u => (k = x ∧ u = v) ∨ (k ≠ x ∧ R k u)) ∧ w.grownBy w' (some g) := by
  obtain ⟨es, c, h1, h2, h3, h4, h5⟩ := h
  have hck := L.check w false hx
  have hlt := (Array.getElem?_eq_some_iff.1 h1).1
  have hset : ∀ o : Obj, ({ w with heap := w.heap.setIfInBounds g o } : World).heap[g]? = some o := fun o => by simp [hlt]
  have hgr : ∀ o : Obj, w.grownBy { w with heap := w.heap.setIfInBounds g o } (some g) := fun o =>
    ⟨rfl, rfl, rfl, by simp, fun k _ hk => by simp only [Array.getElem?_setIfInBounds]; rw [if_neg]; intro e; exact hk (by rw [e])⟩
  rcases L.find w hx es.toList h2 with ⟨hf, hno⟩ | ⟨j, e, hf, hj, he⟩
  · refine ⟨{ w with heap := w.heap.setIfInBounds g (.map (es.push { key := x, val := v, born := c }) (c + 1)) }, by simp [Instr.mapUpdate, run_underlying hT, getObj, setObj, Sem.run, h1, hck, hf], ⟨_, _, hset _, ?_, ?_, ?_, ?_⟩, hgr _⟩
    · intro e' he'
      simp at he'
      rcases he' with he' | rfl
      · exact h2 e' (by simpa using he')
      · exact ⟨lx, hx⟩
    · intro e' he'
      simp at he'
      rcases he' with he' | rfl
      · exact .inr ⟨hno e' (by simpa using he'), h3 e' (by simpa using he')⟩
      · exact .inl ⟨rfl, rfl⟩
    · rintro k u (⟨rfl, rfl⟩ | ⟨_, hR⟩)
      · exact ⟨⟨k, u, c⟩, by simp, rfl, rfl⟩
      · obtain ⟨e', hm, hk⟩ := h4 k u hR
        exact ⟨e', by simp at hm ⊢; exact .inl hm, hk⟩
    · have hnew : ∀ (i : Nat) (e' : MapEntry), es[i]? = some e' → e'.key ≠ x := fun i e' hi => hno e' (List.mem_of_getElem? (i := i) (by simpa using hi))
      intro i j e1 e2 hi hj hk
      rw [Array.getElem?_push] at hi hj
      split at hi <;> split at hj
      · omega
      · rename_i a b; injection hi with hi; subst hi; exact absurd hk.symm (hnew _ _ hj)
      · rename_i a b; injection hj with hj; subst hj; exact absurd hk (hnew _ _ hi)
      · exact h5 i j e1 e2 hi hj hk
  · have hj' : es[j]? = some e := by simpa using hj
    have hjlt : j < es.size := (Array.getElem?_eq_some_iff.1 hj').1
    have hst := L.stays w hx
    subst he
    have hget : (es[j]?.getD e).key = e.key := by rw [hj']; rfl
    have hrun : (Instr.mapUpdate T (.map (some g)) e.key v).run P w = .ok () { w with heap := w.heap.setIfInBounds g (.map (es.modify j fun y => { y with key := e.key, val := v }) c) } := by
      simp [Instr.mapUpdate, run_underlying hT, getObj, setObj, Sem.run, h1, hck, hf, hget, hst]
    have hat : ∀ i e', (es.modify j fun y => { y with key := e.key, val := v })[i]? = some e' → (i = j ∧ e'.key = e.key ∧ e'.val = v) ∨ (i ≠ j ∧ es[i]? = some e') := by
      intro i e' hi
      simp only [Array.getElem?_modify] at hi
      split at hi
      · rename_i hij
        subst hij
        rw [hj'] at hi
        injection hi with hi
        rw [← hi]
        exact .inl ⟨rfl, rfl, rfl⟩
      · rename_i hij
        exact .inr ⟨fun e => hij e.symm, hi⟩
    have hmem : ∀ e', e' ∈ (es.modify j fun y => { y with key := e.key, val := v }).toList → (e'.key = e.key ∧ e'.val = v) ∨ (e' ∈ es.toList ∧ e'.key ≠ e.key) := by
      intro e' he'
      obtain ⟨i, hi⟩ := List.getElem?_of_mem he'
      rcases hat i e' (by rw [Array.getElem?_toList] at hi; exact hi) with ⟨_, h⟩ | ⟨hij, hi⟩
      · exact .inl h
      · exact .inr ⟨List.mem_of_getElem? (i := i) (by simpa using hi), fun hk => hij (h5 i j e' e hi hj' hk)⟩
    refine ⟨_, hrun, ⟨_, _, hset _, ?_, ?_, ?_, ?_⟩, hgr _⟩
    · intro e' he'
      rcases hmem e' he' with ⟨hk, _⟩ | ⟨hm, _⟩
      · exact ⟨lx, by rw [hk]; exact hx⟩
      · exact h2 e' hm
    · intro e' he'
      rcases hmem e' he' with ⟨hk, hv⟩ | ⟨hm, hk⟩
      · exact .inl ⟨hk, hv⟩
      · exact .inr ⟨hk, h3 e' hm⟩
    · rintro k u (⟨rfl, rfl⟩ | ⟨hk, hR⟩)
      · refine ⟨{ e with key := e.key, val := u }, ?_, rfl, rfl⟩
        refine List.mem_of_getElem? (i := j) ?_
        simp [hj']
      · obtain ⟨e', hm, hk', hv'⟩ := h4 k u hR
        obtain ⟨i, hi⟩ := List.getElem?_of_mem hm
        have hij : j ≠ i := by
          rintro rfl
          rw [hj] at hi
          injection hi with hi
          exact hk (by rw [← hk', hi])
        refine ⟨e', List.mem_of_getElem? (i := i) ?_, hk', hv'⟩
        simp only [Array.getElem?_toList, Array.getElem?_modify, if_neg hij]
        simpa using hi
    · intro i k e1 e2 hi hk heq
      rcases hat i e1 hi with ⟨hi1, hi2, _⟩ | ⟨hi1, hi2⟩ <;> rcases hat k e2 hk with ⟨hk1, hk2, _⟩ | ⟨hk1, hk2⟩
      · omega
      · exact absurd (h5 k j e2 e hk2 hj' (by rw [← heq, hi2])) hk1
      · exact absurd (h5 i j e1 e hi2 hj' (by rw [heq, hk2])) hi1
      · exact h5 i k e1 e2 hi2 hk2 heq
end
/-! ### a region whose order is open, by an invariant over what has been done -/
section
variable {P : Program} {ops : Array Oper} {Q : Exit → Act → World → Prop} {md : Region.Mode}
/-- how many operations are not done yet -/
def open_ (n : Nat) (L : Array Bool) : Nat := ((List.range n).filter fun i => !L.getD i true).length
theorem open_set {n : Nat} {L : Array Bool} {i : Nat} (hi : i < n) (hs : L.size = n) (h : L.getD i true = false) : open_ n (L.setIfInBounds i true) < open_ n L := by
  have hiL : i < L.size := by omega
  unfold open_
  have hsub : ((List.range n).filter fun j => !(L.setIfInBounds i true).getD j true) = ((List.range n).filter fun j => !L.getD j true).filter (fun j => j != i) := by
    rw [List.filter_filter]
    apply List.filter_congr
    intro j hj
    simp only [Array.getD_eq_getD_getElem?, Array.getElem?_setIfInBounds]
    by_cases hij : i = j
    · subst hij; simp [hiL]
    · have hji : ¬ j = i := fun e => hij e.symm
      simp [hij, hji]
  rw [hsub]
  have hm : i ∈ (List.range n).filter fun j => !L.getD j true := List.mem_filter.2 ⟨by simpa using hi, by simp only [h, Bool.not_false]⟩
  generalize ((List.range n).filter fun j => !L.getD j true) = l at hm
  have hlt : ∀ l : List Nat, i ∈ l → (l.filter fun j => j != i).length < l.length := by
    intro l
    induction l with
    | nil => intro h; cases h
    | cons x l ih =>
      intro h
      rw [List.filter_cons]
      split
      · rename_i hx
        have hne : i ≠ x := by intro e; simp [e] at hx
        have := ih (by rcases List.mem_cons.1 h with e | e; exact absurd e hne; exact e)
        simp only [List.length_cons]; omega
      · have := List.length_filter_le (fun j => j != i) l
        simp only [List.length_cons]; omega
  exact hlt l hm
theorem wpOp_val {i : Nat} {o : Oper} {a : Act} {w w' : World} {v : Value} {K : Act → World → Prop} (ho : ops[i]? = some o) (hg : o.guard = none)
    (hr : (execOp a.eval o).run P w = .ok (.value v) w') (h : K (a.put o.dst v) w') : wpOp P ops Q i K a w := by
  unfold wpOp
  rw [ho]
  simp only [Region.wanted, hg, if_true]
  refine .inl ?_
  unfold Oper.wp
  rw [hr]
  exact h
theorem wpOp_skip {i : Nat} {o : Oper} {a : Act} {w w' : World} {K : Act → World → Prop} (ho : ops[i]? = some o) (hg : o.guard = none)
    (hr : (execOp a.eval o).run P w = .ok .skip w') (h : K (a.put o.dst undef) w') : wpOp P ops Q i K a w := by
  unfold wpOp
  rw [ho]
  simp only [Region.wanted, hg, if_true]
  refine .inl ?_
  unfold Oper.wp
  rw [hr]
  exact h
/-- every edge goes back in the text -/
def forward (ops : Array Oper) : Bool := (List.range ops.size).all fun i => ((ops[i]?).map (·.after.all fun e => decide (e.on < i))).getD true
theorem all_done {L : Array Bool} (hf : forward ops = true) (hs : L.size = ops.size) (hr : Region.ready md ops L = []) : ∀ i, i < ops.size → L.getD i true = true := by
  intro i
  induction i using Nat.strongRecOn with
  | _ i ih =>
    intro hi
    cases hL : L.getD i true with
    | true => rfl
    | false =>
      exfalso
      have hop : ops[i]? = some ops[i] := Array.getElem?_eq_getElem hi
      have h1 := List.all_eq_true.1 hf i (List.mem_range.2 hi)
      rw [hop] at h1
      simp only [Option.map_some, Option.getD_some] at h1
      have hm : i ∈ Region.ready md ops L := by
        refine List.mem_filter.2 ⟨List.mem_range.2 hi, ?_⟩
        rw [hL, hop]
        simp only [Bool.not_false, Option.map_some, Option.getD_some, Bool.true_and]
        rw [Array.all_eq_true_iff_forall_mem] at h1 ⊢
        intro e he
        have h2 := of_decide_eq_true (h1 e he)
        have h3 := ih e.on h2 (by omega)
        have h4 : L.getD e.on false = true := by
          have hlt : e.on < L.size := by omega
          simpa [Array.getD_eq_getD_getElem?, Array.getElem?_eq_getElem hlt] using h3
        rw [h4, Bool.or_true]
      rw [hr] at hm
      cases hm
theorem ready_in {L : Array Bool} {i : Nat} (h : i ∈ Region.ready md ops L) : ∃ o, ops[i]? = some o ∧ L.getD i true = false ∧ ∀ e ∈ o.after, Region.binds md e = true → L.getD e.on false = true := by
  have := List.mem_filter.1 h
  simp only [List.mem_range, Bool.and_eq_true, Bool.not_eq_true'] at this
  obtain ⟨h1, h2, h3⟩ := this
  have hop : ops[i]? = some ops[i] := Array.getElem?_eq_getElem h1
  rw [hop] at h3
  simp only [Option.map_some, Option.getD_some] at h3
  rw [Array.all_eq_true_iff_forall_mem] at h3
  refine ⟨_, hop, h2, fun e he hb => ?_⟩
  have := h3 e he
  rw [hb] at this
  simpa using this
theorem wpAny_inv (I : Array Bool → Act → World → Prop) (hsz : ∀ L a w, I L a w → L.size = ops.size)
    (hend : ∀ L a w, I L a w → Region.ready md ops L = [] → Q .normal a w)
    (hstep : ∀ L a w i, I L a w → i ∈ Region.ready md ops L → wpOp P ops Q i (I (L.setIfInBounds i true)) a w) :
    ∀ (fuel : Nat) (L : Array Bool) (a : Act) (w : World), open_ ops.size L ≤ fuel → I L a w → wpAny P md ops Q fuel L a w := by
  intro fuel
  have hin : ∀ {L : Array Bool} {i : Nat}, i ∈ Region.ready md ops L → i < ops.size ∧ L.getD i true = false := by
    intro L i hi
    have := List.mem_filter.1 hi
    simp only [List.mem_range, Bool.and_eq_true, Bool.not_eq_true'] at this
    exact ⟨this.1, this.2.1⟩
  induction fuel with
  | zero =>
    intro L a w hf hI
    have hr : Region.ready md ops L = [] := by
      rcases List.eq_nil_or_concat (Region.ready md ops L) with h | ⟨l, i, h⟩
      · exact h
      · exfalso
        have hi : i ∈ Region.ready md ops L := by rw [h]; simp
        obtain ⟨h1, h2⟩ := hin hi
        have hm : i ∈ (List.range ops.size).filter fun j => !L.getD j true := List.mem_filter.2 ⟨by simpa using h1, by simp only [h2, Bool.not_false]⟩
        have := List.length_pos_of_mem hm
        unfold open_ at hf
        omega
    exact ⟨hr, hend L a w hI hr⟩
  | succ fuel ih =>
    intro L a w hf hI
    refine ⟨fun hr => hend L a w hI hr, fun i hi => ?_⟩
    obtain ⟨h1, h2⟩ := hin hi
    refine wpOp_mono (fun a' w' hI' => ih _ _ _ ?_ hI') (hstep L a w i hI hi)
    have := open_set h1 (hsz L a w hI) h2
    omega
end
end Map
end Go.Proofs.Ythccojfflmfggaa
