/- Words for rows: what stands between; copies and appends as steps of a walk. -/
import Derived.Test.YtnaidihoijociaaRowO
import Derived.Lib.Overlaps
import Derived.Deep.RegionLaw
namespace Go.Proofs.Ytnaidihoijociaa
open Go.RowKit
namespace Ro
/-! ### lists laid over lists -/
theorem over_in {xs zs v : List Value} {a k : Nat} (ha : a ≤ xs.length) (hv : v.length = k) (hz : zs.length = k) : over (over (xs ++ zs) (a + k) (xs.drop a)) a v = xs.take a ++ v ++ xs.drop a := by
  have h1 : over (xs ++ zs) (a + k) (xs.drop a) = (xs ++ zs).take (a + k) ++ xs.drop a := by
    unfold over
    rw [List.drop_of_length_le (show (xs ++ zs).length ≤ a + k + (xs.drop a).length by simp; omega), List.append_nil]
  rw [h1]
  unfold over
  have h2 : ((xs ++ zs).take (a + k) ++ xs.drop a).take a = xs.take a := by
    rw [List.take_append_of_le_length (by simp; omega), List.take_take, Nat.min_eq_left (by omega), List.take_append_of_le_length ha]
  have h3 : ((xs ++ zs).take (a + k) ++ xs.drop a).drop (a + v.length) = xs.drop a := by
    rw [hv, List.drop_append_of_le_length (by simp; omega), List.drop_of_length_le (by simp; omega), List.nil_append]
  rw [h2, h3]
theorem over_new {xs zs v : List Value} {a k : Nat} (ha : a ≤ xs.length) (hv : v.length = k) (hz : zs.length = k + (xs.length - a)) : over (over (xs.take a ++ zs) a v) (a + k) (xs.drop a) = xs.take a ++ v ++ xs.drop a := by
  have hl : (xs.take a).length = a := by simp; omega
  have h1 : over (xs.take a ++ zs) a v = xs.take a ++ v ++ zs.drop k := by
    unfold over
    rw [List.take_append_of_le_length (by omega), List.take_of_length_le (by omega), List.drop_append, List.drop_of_length_le (by omega), hl, hv, List.nil_append, show a + k - a = k by omega]
  rw [h1]
  unfold over
  rw [List.take_append_of_le_length (show a + k ≤ (xs.take a ++ v).length by simp; omega), List.take_of_length_le (show (xs.take a ++ v).length ≤ a + k by simp; omega), List.drop_of_length_le (show (xs.take a ++ v ++ zs.drop k).length ≤ a + k + (xs.drop a).length by simp; omega), List.append_nil]
theorem over_cut {xs : List Value} {a b : Nat} (hab : a ≤ b) (hb : b ≤ xs.length) : (over xs a (xs.drop b)).take (a + (xs.length - b)) = xs.take a ++ xs.drop b := over_end (by simp) (by omega)
/-! ### steps -/
variable {P : Program} {w : World}
theorem wp_run {o : Oper} {a : Act} {K : Act → World → Prop} {Q : Exit → Act → World → Prop} (d s : Operand) (t t' : TypeId)
    (ho : o.op = .call { callee := .builtin .copy, args := #[d, s], argTypes := #[t, t'] }) (v u : Value) (hd : a.eval d = v) (hs : a.eval s = u) {v' : Value} {w' : World}
    (hr : (Builtin.copy_ #[t, t'] o.type #[v, u]).run P w = .ok v' w') (h : K (a.put o.dst v') w') : o.wp P a w K Q := by
  unfold Oper.wp execOp
  simp only [ho, resolve, invoke, builtin, Sem.run_bind, Sem.run_pure, Result.andThen_ok, List.map_toArray, List.map_cons, List.map_nil, hd, hs, hr]
  exact h
theorem wpList_copy {ops : Array Oper} {rest : List Oper} {o : Oper} {a : Act} {Q : Exit → Act → World → Prop} (hgd : o.guard = none) (d s : Operand) (t t' : TypeId)
    (ho : o.op = .call { callee := .builtin .copy, args := #[d, s], argTypes := #[t, t'] }) (v u : Value) (hd : a.eval d = v) (hs : a.eval s = u) {v' : Value} {w' : World}
    (hr : (Builtin.copy_ #[t, t'] o.type #[v, u]).run P w = .ok v' w') (h : wpList P ops Q rest (a.put o.dst v') w') : wpList P ops Q (o :: rest) a w :=
  wpList_plain hgd fun _ hK => wp_run d s t t' ho v u hd hs hr (hK _ _ h)
theorem step_copy {ops : Array Oper} {o : Oper} {a : Act} {K : Act → World → Prop} {Q : Exit → Act → World → Prop} {E : Prop}
    (hg : o.guard = none) (d x : Operand) (dT sT : TypeId) (hop : o.op = Op.call { callee := Callee.builtin Builtin.copy, args := #[d, x], argTypes := #[dT, sT] })
    (v u : Value) (hd : a.eval d = v) (hx : a.eval x = u) {v' : Value} {w' : World} (hr : (Builtin.copy_ #[dT, sT] o.type #[v, u]).run P w = .ok v' w') (hK : K (a.put o.dst v') w') :
    if Region.wanted o (yielded ops a.tmps) = true then Oper.wp P o a w K Q else E := by
  have hw : Region.wanted o (yielded ops a.tmps) = true := by simp [Region.wanted, hg]
  rw [if_pos hw]
  exact wp_run d x dT sT hop v u hd hx hr hK
theorem wp_app {o : Oper} {a : Act} {K : Act → World → Prop} {Q : Exit → Act → World → Prop} (s x : Operand) (t tn : TypeId)
    (ho : o.op = .call { callee := .builtin .append, args := #[s, x], argTypes := #[t, tn] }) (vs vx : Value) (hs : a.eval s = vs) (hx : a.eval x = vx)
    {v' : Value} {w' : World} (hr : (Builtin.append_ #[t, tn] o.type #[vs, vx]).run P w = .ok v' w') (h : K (a.put o.dst v') w') : o.wp P a w K Q := by
  unfold Oper.wp execOp
  simp only [ho, resolve, invoke, builtin, Sem.run_bind, Sem.run_pure, Result.andThen_ok, List.map_toArray, List.map_cons, List.map_nil, hs, hx, hr]
  exact h
theorem wpList_app {ops : Array Oper} {rest : List Oper} {o : Oper} {a : Act} {Q : Exit → Act → World → Prop} (hgd : o.guard = none) (s x : Operand) (t tn : TypeId)
    (ho : o.op = .call { callee := .builtin .append, args := #[s, x], argTypes := #[t, tn] }) (vs vx : Value) (hs : a.eval s = vs) (hx : a.eval x = vx)
    {v' : Value} {w' : World} (hr : (Builtin.append_ #[t, tn] o.type #[vs, vx]).run P w = .ok v' w') (h : wpList P ops Q rest (a.put o.dst v') w') : wpList P ops Q (o :: rest) a w :=
  wpList_plain hgd fun _ hK => wp_app s x t tn ho vs vx hs hx hr (hK _ _ h)
theorem step_app {ops : Array Oper} {o : Oper} {a : Act} {K : Act → World → Prop} {Q : Exit → Act → World → Prop} {E : Prop}
    (hg : o.guard = none) (s x : Operand) (t tn : TypeId)
    (ho : o.op = .call { callee := .builtin .append, args := #[s, x], argTypes := #[t, tn] }) (vs vx : Value) (hs : a.eval s = vs) (hx : a.eval x = vx)
    {v' : Value} {w' : World} (hr : (Builtin.append_ #[t, tn] o.type #[vs, vx]).run P w = .ok v' w') (h : K (a.put o.dst v') w') :
    if Region.wanted o (yielded ops a.tmps) = true then Oper.wp P o a w K Q else E := by
  have hw : Region.wanted o (yielded ops a.tmps) = true := by simp [Region.wanted, hg]
  rw [if_pos hw]
  exact wp_app s x t tn ho vs vx hs hx hr h
theorem wpList_clear {ops : Array Oper} {rest : List Oper} {o : Oper} {a : Act} {Q : Exit → Act → World → Prop} (hgd : o.guard = none) (s : Operand) (t : TypeId)
    (ho : o.op = .call { callee := .builtin .clear, args := #[s], argTypes := #[t] }) (vs : Value) (hs : a.eval s = vs)
    {v' : Value} {w' : World} (hr : (Builtin.clear_ #[t] o.type #[vs]).run P w = .ok v' w') (h : wpList P ops Q rest (a.put o.dst v') w') : wpList P ops Q (o :: rest) a w := by
  refine wpList_plain hgd fun _ hK => ?_
  unfold Oper.wp execOp
  simp only [ho, resolve, invoke, builtin, Sem.run_bind, Sem.run_pure, Result.andThen_ok, List.map_toArray, List.map_cons, List.map_nil, hs, hr]
  exact hK _ _ h
theorem shape_of {g : Nat} {cs : Array Value} {t : TypeId} {fz : Nat × Nat} (h : w.heap[g]? = some (.cells cs t fz)) : w.shape? g = some (t, cs.size) := by
  simp [World.shape?, h]
theorem app_zeros {e t tn : TypeId} {k n c bytes : Nat} {A : Option Addr} {xs : List Value} {z : Value} {ty : TypeId} (E : Mem.El P t e z k bytes) (htn : P.underlying tn = some (.int .i64)) (h : Row w e k A n c xs) (q : Nat) (h0 : 0 < q) (hroom : c < n + q) (h63 : n + q ≤ maxLen) (hbytes : (n + q) * bytes ≤ 140737488355328) :
    ∃ c' w' zs, (Builtin.append_ #[t, tn] ty #[.slice A n c, .int .i64 (q : Int)]).run P w = .ok (.slice (some ⟨w.heap.size, 0, none⟩) (n + q) c') w' ∧ zs.length = q * k ∧ Row w' e k (some ⟨w.heap.size, 0, none⟩) (n + q) c' (xs ++ zs) ∧ Only (fun _ => False) w w' := by
  obtain ⟨i, hi, hz, hz1, hz2⟩ := info_parts E.info
  have hxl := h.1
  have hold : (Builtin.firstCells i.size n (.slice A n c)).run P w.drew = .ok xs.toArray w.drew := by
    rw [hz1]
    rcases h.2.2.2 with ⟨rfl, hc0⟩ | ⟨g, off, cur, rfl, _⟩
    · have hn := h.2.1
      obtain rfl : n = 0 := by omega
      have hx : xs = [] := List.eq_nil_of_length_eq_zero (by simpa using hxl)
      subst hx
      exact run_firstCells_none w.drew k 0 0 c
    · exact run_firstCells_some w.drew k n ⟨g, off, none⟩ n c xs hxl (fun j v hj => by
        obtain ⟨hj, e⟩ := List.getElem?_eq_some_iff.1 hj
        rw [← e, Addr.add_lit]
        exact h.cell j hj)
  have hq : q * bytes ≤ (n + q) * bytes := Nat.mul_le_mul_right _ (by omega)
  have hr := Lib.run_append_grow_zeros (P := P) w t tn ty e i z .i64 .i64 E.ty htn hi hz A n c xs hold q h0 (by rw [hz1]; exact E.pos) hroom (by unfold maxLen at h63; omega) (by rw [hz2]; omega) (by rw [hz2]; exact growslice_fits hroom hbytes)
  have hge := grownCap_ge w (n + q) c e
  have hsub : (grownCap w (n + q) c e - (n + q)) * k = grownCap w (n + q) c e * k - (n + q) * k := Nat.sub_mul _ _ _
  have hmul : (n + q) * k ≤ grownCap w (n + q) c e * k := Nat.mul_le_mul_right _ hge
  have hadd : (n + q) * k = n * k + q * k := Nat.add_mul _ _ _
  have hzl : (Builtin.zeroCells z.cells q).toList.length = q * k := by rw [Array.length_toList, size_zeros, E.zs]
  refine ⟨_, _, (Builtin.zeroCells z.cells q).toList, hr, hzl, ⟨by rw [List.length_append, hxl, hzl, hadd], hge, grownCap_le_maxLen w (n + q) c e h63, .inr ⟨_, 0, _, rfl, heap_alloc_new w.drew _, ?_, ?_⟩⟩, ⟨rfl, rfl, rfl, by simp, fun b hb _ => Below.heap_alloc w.drew _ b hb⟩⟩
  · rw [Array.size_append, Array.size_append, size_zeros, size_zeros, E.zs, hsub]
    simp only [List.size_toArray, hxl]
    omega
  · have hl : (n + q) * k = (xs ++ (Builtin.zeroCells z.cells q).toList).length := by rw [List.length_append, hxl, hzl, hadd]
    simp only [List.drop_zero, Array.toList_append]
    rw [hl]
    exact List.take_left
theorem app_room0 {e t : TypeId} {k n c bytes B m c2 : Nat} {A A2 : Option Addr} {xs news : List Value} {z : Value} {ty : TypeId} (E : Mem.El P t e z k bytes) (h : Row w e k A n c xs) (hs : Mem.Sl w B k A2 m news) (h1 : ∀ u ∈ news, u.oneCell' = true) (hroom : n + m ≤ c) :
    ∃ w', (Builtin.append_ #[t, t] ty #[.slice A n c, .slice A2 m c2]).run P w = .ok (.slice A (n + m) c) w' ∧ Row w' e k A (n + m) c (xs ++ news) ∧ Only (fun b => blk A = some b) w w' := by
  rcases Nat.eq_zero_or_pos m with rfl | hm
  · obtain ⟨i, hi, hz, hz1, hz2⟩ := info_parts E.info
    have hn : news = [] := List.eq_nil_of_length_eq_zero (by simpa using hs.1)
    subst hn
    refine ⟨w, ?_, by simpa using h, Only.refl _ _⟩
    have hnc := h.2.1
    rcases A with _ | a <;> rcases A2 with _ | a2 <;> simp [Builtin.append_, run_underlying E.ty, sizeOf, typeInfo, hi, Builtin.lenOf, Builtin.firstCells, hnc, storeCells, loadCells, loadCellsFrom]
  · exact app_room E h hs h1 hm hroom
theorem mem_zeros {zs : Array Value} {m : Nat} (h0 : 0 < zs.size) {v : Value} (hv : v ∈ (Builtin.zeroCells zs m).toList) : v ∈ zs.toList := by
  simp only [Builtin.zeroCells, Array.toList_map, List.mem_map] at hv
  obtain ⟨i, _, rfl⟩ := hv
  have hlt : i % zs.size < zs.size := Nat.mod_lt _ h0
  rw [getElem!_pos zs _ hlt]
  exact Array.getElem_mem_toList hlt
/-- the elements behind a row's end are made nil -/
theorem clear_row {e t : TypeId} {k n c bytes m cc g off : Nat} {xs : List Value} {z : Value} {ty : TypeId} (E : Mem.El P t e z k bytes) (hz1 : ∀ v ∈ z.cells.toList, v.oneCell' = true) (h : Row w e k (some ⟨g, off, none⟩) n c xs) (hm : 0 < m) (hroom : n + m ≤ c) :
    ∃ w', (Builtin.clear_ #[t] ty #[.slice (some ⟨g, off + n * k, none⟩) m cc]).run P w = .ok (.tuple #[]) w' ∧ Row w' e k (some ⟨g, off, none⟩) n c xs ∧ Only (fun b => b = g) w w' := by
  obtain ⟨i, hi, hz, hs1, hs2⟩ := info_parts E.info
  obtain ⟨ys, hy, ht⟩ := h.full
  have hle : (n + m) * k ≤ c * k := Nat.mul_le_mul_right _ hroom
  rw [Nat.add_mul] at hle
  have hzl : (Builtin.zeroCells z.cells m).toList.length = m * k := by rw [Array.length_toList, size_zeros, E.zs]
  obtain ⟨w', hr, hR, hO⟩ := hy.put (P := P) (n * k) (Builtin.zeroCells z.cells m).toList (by rw [hzl]; omega) (fun v hv => hz1 v (mem_zeros (by rw [E.zs]; exact E.pos) hv))
  refine ⟨w', ?_, ?_, hO⟩
  · obtain ⟨m, rfl⟩ : ∃ q, m = q + 1 := ⟨m - 1, by omega⟩
    simp [Builtin.clear_, run_underlying E.ty, zeroValue, typeInfo, hi, hz, hr]
  · have h2 := hR.cut n (by omega)
    unfold over at h2
    have hyl := hy.1
    rw [List.append_assoc, List.take_append_of_le_length (by simp; omega), List.take_take, Nat.min_self, ht] at h2
    exact h2
end Ro
end Go.Proofs.Ytnaidihoijociaa
