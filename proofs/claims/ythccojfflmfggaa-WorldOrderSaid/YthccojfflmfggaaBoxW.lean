/- The walks of layer 14 (box). -/
import Derived.Test.YthccojfflmfggaaSatW
import Derived.Test.YthccojfflmfggaaMap
import Derived.Test.YthccojfflmfggaaBoxL
import Derived.Deep.RegionHeld3
namespace Go.Proofs.Ythccojfflmfggaa
open Go.RowKit Go.Maps
namespace Box
theorem laidOut : laidOutB Try.prog = true := by kernel_rfl
theorem keyed : Keyed Try.prog 126 := Keyed.of_law (deep_law_laid laidOut (m := 2) (by omega) (of_decide_eq_true (by kernel_rfl)) (by kernel_rfl) (by kernel_rfl))
/-- a key: a state, and what is asked -/
def key (s q : Int) : Value := .agg #[.int .i64 s, .int .i64 q]
theorem key_ok (s q : Int) (hs : (Lit.int .i64 s).wf = true) (hq : (Lit.int .i64 q).wf = true) : ∃ l, keyOf Try.prog 126 (key s q) = some l := by
  have hk : Try.prog.keyType 126 = true := by kernel_rfl
  have hc : Try.prog.cellsOf 126 = 2 := by kernel_rfl
  have hc1 : Try.prog.cellsOf 3 = 1 := by kernel_rfl
  obtain ⟨m, hm⟩ : ∃ m, Try.prog.types.size = m + 1 := ⟨Try.prog.types.size - 1, by have : 0 < Try.prog.types.size := of_decide_eq_true (by kernel_rfl); omega⟩
  have h1 : ∀ (d : Nat) (n : Int), (Lit.int .i64 n).wf = true → Try.prog.keyLits (d + 1) 3 [.int .i64 n] = some [.int .i64 n] := by
    intro d n hn
    simp [Program.keyLits, Try.underlying3, hn]
  have h2 : Try.prog.keyLits (m + 1 + 1) 126 [.int .i64 s, .int .i64 q] = some [.int .i64 s, .int .i64 q] := by
    unfold Program.keyLits
    rw [Try.underlying126]
    simp [hc, hc1, List.range, List.range.loop, h1 m s hs, h1 m q hq]
  refine ⟨.string (keyBytes [.int .i64 s, .int .i64 q]), ?_⟩
  unfold keyOf
  rw [Try.underlying126]
  simp only [hk, Value.formed, Try.underlying126, key, hc, Value.cells, hm]
  simp [h2]
/-- the entries: the region's place of the store, the key, the value -/
def ent : List (Nat × Int × Int × Int) := [(2, 1, 1, 2), (4, 2, 2, 3), (6, 3, 3, 4), (8, 1, 4, 5), (10, 2, 4, 5), (12, 4, 4, 5), (14, 6, 4, 5)]
def nextR (k v : Value) : Prop := ∃ s q : Int, k = key s q ∧ nxt s q ≠ 0 ∧ v = .int .i64 (nxt s q)
/-- what holds when just the operations L are done -/
structure Inv (P : Program) (B : World) (L : Array Bool) (a : Act) (w : World) : Prop where
  size : L.size = 17
  defers : a.defers = []
  tmps : a.tmps.size = 10
  below : Below B.heap.size B w
  build : ∀ x ∈ ent, L.getD (x.1 - 1) false = true → a.tmps[x.1 / 2 + 1]? = some (key x.2.1 x.2.2.1)
  made : L.getD 0 false = true → ∃ g, a.tmps[1]? = some (.map (some g)) ∧ B.heap.size ≤ g ∧
    Map.At P 126 w g (fun k v => ∃ x ∈ ent, L.getD x.1 false = true ∧ k = key x.2.1 x.2.2.1 ∧ v = .int .i64 x.2.2.2)
  dep : L.getD 0 true = false → ∀ i, i % 2 = 0 ∨ i = 15 → L.getD i false = true → False
  move : L.getD 15 false = true → a.tmps[9]? = a.tmps[1]?
  out : L.getD 16 false = true → a.tmps[0]? = a.tmps[1]?
theorem getD_set {L : Array Bool} {i j : Nat} {d : Bool} (hi : i < L.size) : (L.setIfInBounds i true).getD j d = if i = j then true else L.getD j d := by
  simp only [Array.getD_eq_getD_getElem?, Array.getElem?_setIfInBounds]
  by_cases h : i = j
  · subst h; simp [hi]
  · simp [h]
theorem put_get (a : Act) (d j : Nat) (v : Value) (h : d < a.tmps.size) : (a.put (some d) v).tmps[j]? = if d = j then some v else a.tmps[j]? := by
  simp only [Act.put, Array.getElem?_setIfInBounds]
  by_cases e : d = j
  · subst e; simp [h]
  · simp [e]
theorem true_ne {L : Array Bool} {i : Nat} (h : L.getD i false = true) (h' : L.getD i true = false) : False := by
  rcases Nat.lt_or_ge i L.size with hlt | hge
  · simp [Array.getD_eq_getD_getElem?, Array.getElem?_eq_getElem hlt] at h h'
    rw [h] at h'; cases h'
  · simp [Array.getD_eq_getD_getElem?, Array.getElem?_eq_none hge] at h
theorem none_done {n i : Nat} (h : (Array.replicate n false).getD i false = true) : False := by
  simp only [Array.getD_eq_getD_getElem?, Array.getElem?_replicate] at h
  split at h <;> cases h
theorem ent_bd : ∀ x ∈ ent, 2 ≤ x.1 ∧ x.1 ≤ 14 ∧ x.1 % 2 = 0 := by decide
theorem ent_wf : ∀ x ∈ ent, (Lit.int .i64 x.2.1).wf = true ∧ (Lit.int .i64 x.2.2.1).wf = true := by decide
theorem ent_to : ∀ x ∈ ent, nxt x.2.1 x.2.2.1 = x.2.2.2 ∧ x.2.2.2 ≠ 0 := by decide
theorem ent_inj : ∀ x ∈ ent, ∀ y ∈ ent, x.2.1 = y.2.1 → x.2.2.1 = y.2.2.1 → x.1 = y.1 := by decide
theorem to_ent (s q : Int) (h : nxt s q ≠ 0) : ∃ x ∈ ent, x.2.1 = s ∧ x.2.2.1 = q ∧ x.2.2.2 = nxt s q := by
  unfold nxt at *
  split at h
  · rename_i h1; rw [if_pos h1]; exact ⟨(2, 1, 1, 2), by decide, h1.2.symm, h1.1.symm, rfl⟩
  · rename_i h1
    split at h
    · rename_i h2; rw [if_neg h1, if_pos h2]; exact ⟨(4, 2, 2, 3), by decide, h2.2.symm, h2.1.symm, rfl⟩
    · rename_i h2
      split at h
      · rename_i h3; rw [if_neg h1, if_neg h2, if_pos h3]; exact ⟨(6, 3, 3, 4), by decide, h3.2.symm, h3.1.symm, rfl⟩
      · rename_i h3
        split at h
        · rename_i h4; rw [if_neg h1, if_neg h2, if_neg h3, if_pos h4]
          obtain ⟨rfl, rfl | rfl | rfl | rfl⟩ := h4
          · exact ⟨(8, 1, 4, 5), by decide, rfl, rfl, rfl⟩
          · exact ⟨(10, 2, 4, 5), by decide, rfl, rfl, rfl⟩
          · exact ⟨(12, 4, 4, 5), by decide, rfl, rfl, rfl⟩
          · exact ⟨(14, 6, 4, 5), by decide, rfl, rfl, rfl⟩
        · exact absurd rfl h
section
variable {P : Program} {B : World} {L : Array Bool} {a : Act} {w : World}
theorem inv_build (h : Inv P B L a w) (x : Nat × Int × Int × Int) (hx : x ∈ ent) : Inv P B (L.setIfInBounds (x.1 - 1) true) (a.put (some (x.1 / 2 + 1)) (key x.2.1 x.2.2.1)) w := by
  obtain ⟨b1, b2, b3⟩ := ent_bd x hx
  have hs := h.size
  have ht := h.tmps
  have hi : x.1 - 1 < L.size := by omega
  have hd : x.1 / 2 + 1 < a.tmps.size := by omega
  refine ⟨by simpa using hs, h.defers, by simpa [Act.put] using ht, h.below, ?_, ?_, ?_, ?_, ?_⟩
  · intro y hy hL
    obtain ⟨c1, c2, c3⟩ := ent_bd y hy
    rw [put_get _ _ _ _ hd]
    by_cases e : x.1 = y.1
    · rw [if_pos (by omega)]
      have : x = y := by
        have key : ∀ x ∈ ent, ∀ y ∈ ent, x.1 = y.1 → x = y := by decide
        exact key x hx y hy e
      rw [this]
    · rw [if_neg (by omega)]
      rw [getD_set hi, if_neg (by omega)] at hL
      exact h.build y hy hL
  · intro hL
    rw [getD_set hi, if_neg (by omega)] at hL
    obtain ⟨g, h1, h2, h3⟩ := h.made hL
    refine ⟨g, by rw [put_get _ _ _ _ hd, if_neg (by omega)]; exact h1, h2, h3.iff fun k v => ?_⟩
    refine ⟨fun ⟨y, hy, hLy, e⟩ => ⟨y, hy, ?_, e⟩, fun ⟨y, hy, hLy, e⟩ => ⟨y, hy, ?_, e⟩⟩
    · obtain ⟨c1, c2, c3⟩ := ent_bd y hy
      rw [getD_set hi, if_neg (by omega)]; exact hLy
    · obtain ⟨c1, c2, c3⟩ := ent_bd y hy
      rw [getD_set hi, if_neg (by omega)] at hLy; exact hLy
  · intro hL i hi2 hLi
    rw [getD_set hi, if_neg (by omega)] at hL
    rw [getD_set hi, if_neg (by omega)] at hLi
    exact h.dep hL i hi2 hLi
  · intro hL
    rw [getD_set hi, if_neg (by omega)] at hL
    rw [put_get _ _ _ _ hd, put_get _ _ _ _ hd, if_neg (by omega), if_neg (by omega)]
    exact h.move hL
  · intro hL
    rw [getD_set hi, if_neg (by omega)] at hL
    rw [put_get _ _ _ _ hd, put_get _ _ _ _ hd, if_neg (by omega), if_neg (by omega)]
    exact h.out hL
end
theorem inv_insert {B : World} {L : Array Bool} {a : Act} {w : World} {ops : Array Oper} {Q : Exit → Act → World → Prop} {o : Oper} (h : Inv Try.prog B L a w) (x : Nat × Int × Int × Int) (hx : x ∈ ent)
    (ho : ops[x.1]? = some o) (hg : o.guard = none) (hop : o.op = .insert 124 (.tmp 1) (.tmp (x.1 / 2 + 1)) (.const (.int .i64 x.2.2.2))) (hdst : o.dst = none)
    (h0 : L.getD 0 false = true) (h1 : L.getD (x.1 - 1) false = true) : wpOp Try.prog ops Q x.1 (Inv Try.prog B (L.setIfInBounds x.1 true)) a w := by
  obtain ⟨b1, b2, b3⟩ := ent_bd x hx
  have hs := h.size
  have hi : x.1 < L.size := by omega
  obtain ⟨g, hg1, hg2, hat⟩ := h.made h0
  have hk := h.build x hx h1
  obtain ⟨wf1, wf2⟩ := ent_wf x hx
  obtain ⟨l, hl⟩ := key_ok x.2.1 x.2.2.1 wf1 wf2
  obtain ⟨w', hr, hat', hgr⟩ := hat.store keyed Try.underlying124 hl (.int .i64 x.2.2.2)
  have hv1 : a.eval (.tmp 1) = .map (some g) := by simp [Act.eval, hg1, Array.getD_eq_getD_getElem?]
  have hv2 : a.eval (.tmp (x.1 / 2 + 1)) = key x.2.1 x.2.2.1 := by simp [Act.eval, hk, Array.getD_eq_getD_getElem?]
  refine Map.wpOp_skip ho hg (w' := w') ?_ ?_
  · unfold execOp
    simp only [hop, hv1, hv2]
    show Sem.run _ (Instr.mapUpdate _ _ _ _ >>= fun _ => pure Next.skip) _ = _
    rw [Sem.run_bind]
    show ((Instr.mapUpdate 124 (.map (some g)) (key x.2.1 x.2.2.1) (.int .i64 x.2.2.2)).run Try.prog w).andThen _ = _
    rw [hr]
    rfl
  · rw [hdst]
    show Inv _ _ _ a w'
    refine ⟨by simpa using hs, h.defers, h.tmps, h.below.grown hgr h.below.size (fun k hk => by injection hk with hk; omega), ?_, ?_, ?_, ?_, ?_⟩
    · intro y hy hL
      obtain ⟨c1, c2, c3⟩ := ent_bd y hy
      rw [getD_set hi, if_neg (by omega)] at hL
      exact h.build y hy hL
    · intro _
      refine ⟨g, hg1, hg2, hat'.iff fun k v => ?_⟩
      constructor
      · rintro (⟨rfl, rfl⟩ | ⟨hne, y, hy, hLy, rfl, rfl⟩)
        · exact ⟨x, hx, by rw [getD_set hi, if_pos rfl], rfl, rfl⟩
        · exact ⟨y, hy, by rw [getD_set hi]; split; rfl; exact hLy, rfl, rfl⟩
      · rintro ⟨y, hy, hLy, rfl, rfl⟩
        by_cases e : x.1 = y.1
        · have key : ∀ x ∈ ent, ∀ y ∈ ent, x.1 = y.1 → x = y := by decide
          have := key x hx y hy e
          subst this
          exact .inl ⟨rfl, rfl⟩
        · rw [getD_set hi, if_neg e] at hLy
          refine .inr ⟨fun he => ?_, y, hy, hLy, rfl, rfl⟩
          simp [key] at he
          exact e (ent_inj y hy x hx he.1 he.2).symm
    · intro hL
      rw [getD_set hi, if_neg (by omega)] at hL
      exact (true_ne h0 hL).elim
    · intro hL
      rw [getD_set hi, if_neg (by omega)] at hL
      exact h.move hL
    · intro hL
      rw [getD_set hi, if_neg (by omega)] at hL
      exact h.out hL
theorem inv_make {B : World} {L : Array Bool} {a : Act} {w : World} {ops : Array Oper} {Q : Exit → Act → World → Prop} {o : Oper} (h : Inv Try.prog B L a w)
    (ho : ops[0]? = some o) (hg : o.guard = none) (hop : o = { o with op := .makeMap 124 none, dst := some 1 }) (hL : L.getD 0 true = false) : wpOp Try.prog ops Q 0 (Inv Try.prog B (L.setIfInBounds 0 true)) a w := by
  have hs := h.size
  have ht := h.tmps
  have hi : 0 < L.size := by omega
  have hd : 1 < a.tmps.size := by omega
  have hop1 : o.op = .makeMap 124 none := by rw [hop]
  have hdst : o.dst = some 1 := by rw [hop]
  have hz := h.below.size
  refine Map.wpOp_val ho hg (v := .map (some w.heap.size)) (w' := w.alloc (.map #[] 0)) ?_ ?_
  · unfold execOp
    simp only [hop1]
    rfl
  · rw [hdst]
    refine ⟨by simpa using hs, h.defers, by simpa [Act.put] using ht, h.below.alloc hz _, ?_, ?_, ?_, ?_, ?_⟩
    · intro y hy hLy
      obtain ⟨c1, c2, c3⟩ := ent_bd y hy
      rw [getD_set hi, if_neg (by omega)] at hLy
      rw [put_get _ _ _ _ hd, if_neg (by omega)]
      exact h.build y hy hLy
    · intro _
      refine ⟨w.heap.size, by rw [put_get _ _ _ _ hd, if_pos rfl], hz, (Map.At.made w).iff fun k v => ⟨fun hf => hf.elim, ?_⟩⟩
      rintro ⟨y, hy, hLy, _⟩
      obtain ⟨c1, c2, c3⟩ := ent_bd y hy
      rw [getD_set hi, if_neg (by omega)] at hLy
      exact h.dep hL _ (.inl c3) hLy
    · intro hL0
      rw [getD_set hi, if_pos rfl] at hL0
      cases hL0
    · intro hLy
      rw [getD_set hi, if_neg (by omega)] at hLy
      exact (h.dep hL _ (.inr rfl) hLy).elim
    · intro hLy
      rw [getD_set hi, if_neg (by omega)] at hLy
      exact (h.dep hL _ (.inl rfl) hLy).elim
theorem inv_move {B : World} {L : Array Bool} {a : Act} {w : World} {ops : Array Oper} {Q : Exit → Act → World → Prop} {o : Oper} (h : Inv Try.prog B L a w)
    (ho : ops[15]? = some o) (hg : o.guard = none) (hop : o = { o with op := .move (.tmp 1), dst := some 9 }) (h0 : L.getD 0 false = true) : wpOp Try.prog ops Q 15 (Inv Try.prog B (L.setIfInBounds 15 true)) a w := by
  have hs := h.size
  have ht := h.tmps
  have hi : 15 < L.size := by omega
  have hd : 9 < a.tmps.size := by omega
  have hop1 : o.op = .move (.tmp 1) := by rw [hop]
  have hdst : o.dst = some 9 := by rw [hop]
  obtain ⟨g, hg1, hg2, hat⟩ := h.made h0
  refine Map.wpOp_val ho hg (v := .map (some g)) (w' := w) ?_ ?_
  · unfold execOp
    simp only [hop1]
    simp [Act.eval, hg1, Array.getD_eq_getD_getElem?]
  · rw [hdst]
    refine ⟨by simpa using hs, h.defers, by simpa [Act.put] using ht, h.below, ?_, ?_, ?_, ?_, ?_⟩
    · intro y hy hLy
      obtain ⟨c1, c2, c3⟩ := ent_bd y hy
      rw [getD_set hi, if_neg (by omega)] at hLy
      rw [put_get _ _ _ _ hd, if_neg (by omega)]
      exact h.build y hy hLy
    · intro _
      refine ⟨g, by rw [put_get _ _ _ _ hd, if_neg (by omega)]; exact hg1, hg2, hat.iff fun k v => ?_⟩
      refine ⟨fun ⟨y, hy, hLy, e⟩ => ⟨y, hy, ?_, e⟩, fun ⟨y, hy, hLy, e⟩ => ⟨y, hy, ?_, e⟩⟩
      · obtain ⟨c1, c2, c3⟩ := ent_bd y hy
        rw [getD_set hi, if_neg (by omega)]; exact hLy
      · obtain ⟨c1, c2, c3⟩ := ent_bd y hy
        rw [getD_set hi, if_neg (by omega)] at hLy; exact hLy
    · intro hL
      rw [getD_set hi, if_neg (by omega)] at hL
      exact (true_ne h0 hL).elim
    · intro _
      rw [put_get _ _ _ _ hd, put_get _ _ _ _ hd, if_pos rfl, if_neg (by omega), hg1]
    · intro hL
      rw [getD_set hi, if_neg (by omega)] at hL
      rw [put_get _ _ _ _ hd, put_get _ _ _ _ hd, if_neg (by omega), if_neg (by omega)]
      exact h.out hL
theorem inv_out {B : World} {L : Array Bool} {a : Act} {w : World} {ops : Array Oper} {Q : Exit → Act → World → Prop} {o : Oper} (h : Inv Try.prog B L a w)
    (ho : ops[16]? = some o) (hg : o.guard = none) (hop : o = { o with op := .assign (.tmp 9), dst := some 0 }) (h0 : L.getD 0 false = true) (h15 : L.getD 15 false = true) : wpOp Try.prog ops Q 16 (Inv Try.prog B (L.setIfInBounds 16 true)) a w := by
  have hs := h.size
  have ht := h.tmps
  have hi : 16 < L.size := by omega
  have hd : 0 < a.tmps.size := by omega
  have hop1 : o.op = .assign (.tmp 9) := by rw [hop]
  have hdst : o.dst = some 0 := by rw [hop]
  obtain ⟨g, hg1, hg2, hat⟩ := h.made h0
  have h9 : a.tmps[9]? = some (.map (some g)) := (h.move h15).trans hg1
  refine Map.wpOp_val ho hg (v := .map (some g)) (w' := w) ?_ ?_
  · unfold execOp
    simp only [hop1]
    simp [Act.eval, h9, Array.getD_eq_getD_getElem?]
  · rw [hdst]
    refine ⟨by simpa using hs, h.defers, by simpa [Act.put] using ht, h.below, ?_, ?_, ?_, ?_, ?_⟩
    · intro y hy hLy
      obtain ⟨c1, c2, c3⟩ := ent_bd y hy
      rw [getD_set hi, if_neg (by omega)] at hLy
      rw [put_get _ _ _ _ hd, if_neg (by omega)]
      exact h.build y hy hLy
    · intro _
      refine ⟨g, by rw [put_get _ _ _ _ hd, if_neg (by omega)]; exact hg1, hg2, hat.iff fun k v => ?_⟩
      refine ⟨fun ⟨y, hy, hLy, e⟩ => ⟨y, hy, ?_, e⟩, fun ⟨y, hy, hLy, e⟩ => ⟨y, hy, ?_, e⟩⟩
      · obtain ⟨c1, c2, c3⟩ := ent_bd y hy
        rw [getD_set hi, if_neg (by omega)]; exact hLy
      · obtain ⟨c1, c2, c3⟩ := ent_bd y hy
        rw [getD_set hi, if_neg (by omega)] at hLy; exact hLy
    · intro hL
      rw [getD_set hi, if_neg (by omega)] at hL
      exact (true_ne h0 hL).elim
    · intro hL
      rw [getD_set hi, if_neg (by omega)] at hL
      rw [put_get _ _ _ _ hd, put_get _ _ _ _ hd, if_neg (by omega), if_neg (by omega)]
      exact h.move hL
    · intro _
      rw [put_get _ _ _ _ hd, put_get _ _ _ _ hd, if_pos rfl, if_neg (by omega), hg1]
theorem next_c (w : World) : Calls Try.prog 71 #[] w fun e w' => ∃ g, e = .returned (.map (some g)) ∧ w.heap.size ≤ g ∧ Below w.heap.size w w' ∧ Map.At Try.prog 126 w' g nextR := by
  go_enter Try.func71, Try.ntmps71
  go_wp2
  refine wp_region_any (by kernel_rfl) ?_
  refine Map.wpAny_inv (Inv Try.prog w) (fun L a w' h => h.size.trans rfl) ?_ ?_ _ _ _ _ (Nat.le_refl _) ?_
  · intro L a w' h hr
    have hd := Map.all_done (by kernel_rfl) (h.size.trans rfl) hr
    have hs := h.size
    have hd' : ∀ i, i < 17 → L.getD i false = true := by
      intro i hi
      have h1 := hd i hi
      have hlt : i < L.size := by omega
      simpa [Array.getD_eq_getD_getElem?, Array.getElem?_eq_getElem hlt] using h1
    obtain ⟨g, h1, h2, h3⟩ := h.made (hd' 0 (by omega))
    have ho := (h.out (hd' 16 (by omega))).trans h1
    have hdf := h.defers
    have hat : Map.At Try.prog 126 w' g nextR := h3.iff fun k v => by
      constructor
      · rintro ⟨x, hx, _, rfl, rfl⟩
        obtain ⟨e1, e2⟩ := ent_to x hx
        exact ⟨_, _, rfl, by rw [e1]; exact e2, by rw [e1]⟩
      · rintro ⟨s, q, rfl, hne, rfl⟩
        obtain ⟨x, hx, e1, e2, e3⟩ := to_ent s q hne
        obtain ⟨b1, b2, _⟩ := ent_bd x hx
        exact ⟨x, hx, hd' _ (by omega), by rw [e1, e2], by rw [e3]⟩
    have hbl := h.below
    obtain ⟨ts, ds⟩ := a
    simp only at ho hdf
    subst hdf
    rename_i Q' K hK
    refine hK _ _ ?_
    go_wp2
    go_ret
    refine ⟨g, ?_, h2, hbl, hat⟩
    have e : ts.getD 0 undef = .map (some g) := by simp [Array.getD_eq_getD_getElem?, ho]
    rw [e]
  · intro L a w' i h hi
    obtain ⟨o, ho, hL, hafter⟩ := Map.ready_in hi
    have hi17 : i < 17 := (Array.getElem?_eq_some_iff.1 ho).1
    have hc : i = 0 ∨ i = 1 ∨ i = 2 ∨ i = 3 ∨ i = 4 ∨ i = 5 ∨ i = 6 ∨ i = 7 ∨ i = 8 ∨ i = 9 ∨ i = 10 ∨ i = 11 ∨ i = 12 ∨ i = 13 ∨ i = 14 ∨ i = 15 ∨ i = 16 := by omega
    clear hi hi17
    rcases hc with rfl | rfl | rfl | rfl | rfl | rfl | rfl | rfl | rfl | rfl | rfl | rfl | rfl | rfl | rfl | rfl | rfl
    · obtain rfl := Option.some.inj ho
      exact inv_make h rfl rfl rfl hL
    · obtain rfl := Option.some.inj ho
      exact Map.wpOp_val rfl rfl (v := key 1 1) (w' := w') (by kernel_rfl) (inv_build h (2, 1, 1, 2) (by decide))
    · obtain rfl := Option.some.inj ho
      exact inv_insert h (2, 1, 1, 2) (by decide) rfl rfl rfl rfl (hafter ⟨0, .data⟩ (by simp) rfl) (hafter ⟨1, .data⟩ (by simp) rfl)
    · obtain rfl := Option.some.inj ho
      exact Map.wpOp_val rfl rfl (v := key 2 2) (w' := w') (by kernel_rfl) (inv_build h (4, 2, 2, 3) (by decide))
    · obtain rfl := Option.some.inj ho
      exact inv_insert h (4, 2, 2, 3) (by decide) rfl rfl rfl rfl (hafter ⟨0, .data⟩ (by simp) rfl) (hafter ⟨3, .data⟩ (by simp) rfl)
    · obtain rfl := Option.some.inj ho
      exact Map.wpOp_val rfl rfl (v := key 3 3) (w' := w') (by kernel_rfl) (inv_build h (6, 3, 3, 4) (by decide))
    · obtain rfl := Option.some.inj ho
      exact inv_insert h (6, 3, 3, 4) (by decide) rfl rfl rfl rfl (hafter ⟨0, .data⟩ (by simp) rfl) (hafter ⟨5, .data⟩ (by simp) rfl)
    · obtain rfl := Option.some.inj ho
      exact Map.wpOp_val rfl rfl (v := key 1 4) (w' := w') (by kernel_rfl) (inv_build h (8, 1, 4, 5) (by decide))
    · obtain rfl := Option.some.inj ho
      exact inv_insert h (8, 1, 4, 5) (by decide) rfl rfl rfl rfl (hafter ⟨0, .data⟩ (by simp) rfl) (hafter ⟨7, .data⟩ (by simp) rfl)
    · obtain rfl := Option.some.inj ho
      exact Map.wpOp_val rfl rfl (v := key 2 4) (w' := w') (by kernel_rfl) (inv_build h (10, 2, 4, 5) (by decide))
    · obtain rfl := Option.some.inj ho
      exact inv_insert h (10, 2, 4, 5) (by decide) rfl rfl rfl rfl (hafter ⟨0, .data⟩ (by simp) rfl) (hafter ⟨9, .data⟩ (by simp) rfl)
    · obtain rfl := Option.some.inj ho
      exact Map.wpOp_val rfl rfl (v := key 4 4) (w' := w') (by kernel_rfl) (inv_build h (12, 4, 4, 5) (by decide))
    · obtain rfl := Option.some.inj ho
      exact inv_insert h (12, 4, 4, 5) (by decide) rfl rfl rfl rfl (hafter ⟨0, .data⟩ (by simp) rfl) (hafter ⟨11, .data⟩ (by simp) rfl)
    · obtain rfl := Option.some.inj ho
      exact Map.wpOp_val rfl rfl (v := key 6 4) (w' := w') (by kernel_rfl) (inv_build h (14, 6, 4, 5) (by decide))
    · obtain rfl := Option.some.inj ho
      exact inv_insert h (14, 6, 4, 5) (by decide) rfl rfl rfl rfl (hafter ⟨0, .data⟩ (by simp) rfl) (hafter ⟨13, .data⟩ (by simp) rfl)
    · obtain rfl := Option.some.inj ho
      exact inv_move h rfl rfl rfl (hafter ⟨0, .data⟩ (by simp) rfl)
    · obtain rfl := Option.some.inj ho
      exact inv_out h rfl rfl rfl (hafter ⟨0, .phase⟩ (by simp) rfl) (hafter ⟨15, .data⟩ (by simp) rfl)
  · exact ⟨rfl, rfl, rfl, Below.drew (Below.refl _ _), fun x _ h => (none_done h).elim, fun h => (none_done h).elim, fun _ i _ h => none_done h, fun h => (none_done h).elim, fun h => (none_done h).elim⟩

/-- what a look-up says -/
theorem look {w : World} {g : Nat} (h : Map.At Try.prog 126 w g nextR) (s q : Int) (hs : (Lit.int .i64 s).wf = true) (hq : (Lit.int .i64 q).wf = true) :
    (Instr.lookup 124 (.map (some g)) (.agg #[.int .i64 s, .int .i64 q]) true).run Try.prog w = .ok (.tuple #[.int .i64 (nxt s q), .bool (nxt s q != 0)]) w := by
  obtain ⟨l, hl⟩ := key_ok s q hs hq
  rcases h.look keyed Try.underlying124 (z := .int .i64 0) (fun w => by kernel_rfl) hl true with ⟨v, hv, hr⟩ | ⟨hn, hr⟩
  · obtain ⟨s', q', hk, hne, rfl⟩ := hv
    simp [key] at hk
    obtain ⟨rfl, rfl⟩ := hk
    have : (nxt s q != 0) = true := by simp [hne]
    rw [this]
    exact hr
  · have h0 : nxt s q = 0 := by
      by_cases h0 : nxt s q = 0
      · exact h0
      · exact absurd ⟨s, q, rfl, h0, rfl⟩ (hn (.int .i64 (nxt s q)))
    rw [h0]
    exact hr
set_option maxRecDepth 100000 in
theorem may_c (s t q : Int) (w : World) (hs : (Lit.int .i64 s).wf = true) (hq : (Lit.int .i64 q).wf = true) :
    Calls Try.prog 53 #[.agg #[.int .i64 s, .int .i64 t], .int .i64 q] w fun e w' => e = .returned (.bool (nxt s q != 0)) ∧ Below w.heap.size w w' := by
  go_enter Try.func53, Try.ntmps53
  go_wp2
  go_region_held3 (fun w' => w'.cell? ⟨w.heap.size, 0, none⟩ = some (.int .i64 s)) (first | assumption | (simp [go_sem]; done))
    ((go_at_call 71; refine (next_c _).mono ?_; rintro e w1 ⟨g, rfl, hg, hb1, hat⟩
      have hs1 : w1.cell? ⟨w.heap.size, 0, none⟩ = some (.int .i64 s) := (hb1.cell (p := ⟨w.heap.size, 0, none⟩) (by simp)).trans (by simp [go_sem])
      have hlk := look hat s q hs hq))
  go_wp2
  go_ret
  exact ⟨rfl, (((Below.refl _ _).alloc (Nat.le_refl _) _).drew).trans (hb1.mono (by simp))⟩
theorem new_c (w : World) : Calls Try.prog 29 #[] w fun e w' => e = .returned (.agg #[.int .i64 1, .int .i64 0]) ∧ Below w.heap.size w w' := by
  go_enter Try.func29, Try.ntmps29
  go_wp2
  refine bodyPost_ret (v := .agg #[.int .i64 1, .int .i64 0]) (by simp [results, Try.results29, go_sem]) rfl ⟨rfl, ?_⟩
  exact (Below.refl _ _).alloc (Nat.le_refl _) _
theorem rto_c (s q : Int) (w : World) : Calls Try.prog 77 #[.int .i64 s, .int .i64 q] w fun e w' => e = .returned (.int .i64 (nxt s q)) ∧ w = w' := by
  by_cases q1 : q = 1
  · subst q1
    by_cases s1 : s = 1
    · subst s1
      go_enter Try.func77, Try.ntmps77
      go_wp2
      go_ret
      exact ⟨rfl, rfl⟩
    · have hs : (s == 1) = false := by simp [s1]
      go_enter Try.func77, Try.ntmps77
      go_wp2
      go_ret
      exact ⟨Sat.ret_int (by unfold nxt; simp [s1]), rfl⟩
  · have hq1 : (q == 1) = false := by simp [q1]
    by_cases q2 : q = 2
    · subst q2
      by_cases s2 : s = 2
      · subst s2
        go_enter Try.func77, Try.ntmps77
        go_wp2
        go_ret
        exact ⟨rfl, rfl⟩
      · have hs : (s == 2) = false := by simp [s2]
        go_enter Try.func77, Try.ntmps77
        go_wp2
        go_ret
        exact ⟨Sat.ret_int (by unfold nxt; simp [s2]), rfl⟩
    · have hq2 : (q == 2) = false := by simp [q2]
      by_cases q3 : q = 3
      · subst q3
        by_cases s3 : s = 3
        · subst s3
          go_enter Try.func77, Try.ntmps77
          go_wp2
          go_ret
          exact ⟨rfl, rfl⟩
        · have hs : (s == 3) = false := by simp [s3]
          go_enter Try.func77, Try.ntmps77
          go_wp2
          go_ret
          exact ⟨Sat.ret_int (by unfold nxt; simp [s3]), rfl⟩
      · have hq3 : (q == 3) = false := by simp [q3]
        by_cases q4 : q = 4
        · subst q4
          by_cases s1 : s = 1
          · subst s1
            go_enter Try.func77, Try.ntmps77
            go_wp2
            go_ret
            exact ⟨rfl, rfl⟩
          · by_cases s2 : s = 2
            · subst s2
              go_enter Try.func77, Try.ntmps77
              go_wp2
              go_ret
              exact ⟨rfl, rfl⟩
            · by_cases s4 : s = 4
              · subst s4
                go_enter Try.func77, Try.ntmps77
                go_wp2
                go_ret
                exact ⟨rfl, rfl⟩
              · by_cases s6 : s = 6
                · subst s6
                  go_enter Try.func77, Try.ntmps77
                  go_wp2
                  go_ret
                  exact ⟨rfl, rfl⟩
                · have hs1 : (s == 1) = false := by simp [s1]
                  have hs2 : (s == 2) = false := by simp [s2]
                  have hs4 : (s == 4) = false := by simp [s4]
                  have hs6 : (s == 6) = false := by simp [s6]
                  go_enter Try.func77, Try.ntmps77
                  go_wp2
                  go_ret
                  exact ⟨Sat.ret_int (by unfold nxt; simp [s1, s2, s4, s6]), rfl⟩
        · have hq4 : (q == 4) = false := by simp [q4]
          go_enter Try.func77, Try.ntmps77
          go_wp2
          go_ret
          exact ⟨Sat.ret_int (by unfold nxt; simp [q1, q2, q3, q4]), rfl⟩
end Box
end Go.Proofs.Ythccojfflmfggaa
