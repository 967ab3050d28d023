/- The plain law of layer 16 (world): the document's lists are the program's; what stays right. -/
import Derived.Test.YthccojfflmfggaaMgW7
import Derived.Test.YthccojfflmfggaaMgW6
import Derived.Test.YthccojfflmfggaaMgW5
namespace Go.Proofs.Ythccojfflmfggaa
open Go.RowKit
namespace Wo
section
variable {a b : ByteArray}
theorem cmp_ne (h : Str.cmp a b ≠ 0) : (a.toList == b.toList) = false := beq_eq_false_iff_ne.2 (fun e => h ((Str.cmp_eq _ _).2 (bytes_eq e)))
theorem cmp_is (h : Str.cmp a b = 0) : (a.toList == b.toList) = true := by rw [(Str.cmp_eq _ _).1 h]; simp
theorem less_t (h : Str.cmp a b < 0) : Op.bytesLess a.toList b.toList = true := by rw [less_cmp]; exact decide_eq_true h
theorem less_f (h : ¬ Str.cmp a b < 0) : Op.bytesLess a.toList b.toList = false := by rw [less_cmp]; exact decide_eq_false h
end
section
variable {l : List ByteArray} {s : ByteArray}
theorem not_has (hh : Str.has l s = false) {j : Nat} (hj : j < l.length) : Str.cmp l[j] s ≠ 0 := fun e => by
  rw [Str.has_iff.2 (by rw [← (Str.cmp_eq _ _).1 e]; exact List.getElem_mem hj)] at hh
  cases hh
theorem else_ne (hr : Str.Rises l) (hh : Str.has l s = true) {j : Nat} (hj : j < l.length) (h : j ≠ Str.pos l s) : Str.cmp l[j] s ≠ 0 := by
  obtain ⟨hp, e⟩ := Str.has_at hr hh
  rcases Nat.lt_or_gt_of_ne h with h | h
  · have := Str.pos_below j hj h
    omega
  · have := (List.pairwise_iff_getElem.1 hr) (Str.pos l s) j hp hj h
    rw [e] at this
    have := Str.cmp_neg s l[j]
    omega
theorem mid_rises (hr : Str.Rises l) (hh : Str.has l s = false) : Str.Rises (l.take (Str.pos l s) ++ s :: l.drop (Str.pos l s)) := by
  have hr2 : Str.Rises (l.take (Str.pos l s) ++ l.drop (Str.pos l s)) := by rw [List.take_append_drop]; exact hr
  obtain ⟨h1, h2, h3⟩ := List.pairwise_append.1 hr2
  refine List.pairwise_append.2 ⟨h1, List.pairwise_cons.2 ⟨fun x hx => ?_, h2⟩, fun x hx y hy => ?_⟩
  · obtain ⟨j, hj, rfl⟩ := List.getElem_of_mem hx
    rw [List.getElem_drop]
    have hj2 : Str.pos l s + j < l.length := by simp at hj; omega
    have c1 := Str.pos_above (s := s) hr (Str.pos l s + j) hj2 (by omega)
    have c2 := not_has hh hj2
    have := Str.cmp_neg l[Str.pos l s + j] s
    omega
  · have hxs : Str.cmp x s < 0 := by
      obtain ⟨j, hj, rfl⟩ := List.getElem_of_mem hx
      rw [List.getElem_take]
      have hj2 : j < Str.pos l s ∧ j < l.length := by simp at hj; omega
      exact Str.pos_below j hj2.2 hj2.1
    rcases List.mem_cons.1 hy with rfl | hy
    · exact hxs
    · exact h3 x hx y hy
end
theorem take_drop_snoc {α : Type} {l : List α} {P k : Nat} (hk : k < l.length) (h : P ≤ k) : (l.take (k + 1)).drop P = (l.take k).drop P ++ [l[k]] := by
  rw [Mem.take_snoc _ _ hk, List.drop_append_of_le_length (by simp; omega)]
section
variable {bx : List ConV} {im : List ImgV} {s : ByteArray} {size round : Int}
theorem id_at {j : Nat} (hj : j < bx.length) : (ids bx)[j]'(by rw [ids_len]; exact hj) = bx[j].id := ids_at hj _
theorem nm_at {j : Nat} (hj : j < im.length) : (nms im)[j]'(by rw [nms_len]; exact hj) = im[j].name := nms_at hj _
theorem id_below {j : Nat} (hj : j < bx.length) (h : j < Str.pos (ids bx) s) : Str.cmp bx[j].id s < 0 := by rw [← id_at hj]; exact Str.pos_below j _ h
theorem id_above (hr : Str.Rises (ids bx)) {j : Nat} (hj : j < bx.length) (h : Str.pos (ids bx) s ≤ j) : ¬ Str.cmp bx[j].id s < 0 := by rw [← id_at hj]; exact Str.pos_above hr j _ h
theorem id_not (hh : Str.has (ids bx) s = false) {j : Nat} (hj : j < bx.length) : Str.cmp bx[j].id s ≠ 0 := by rw [← id_at hj]; exact not_has hh _
theorem id_ne (hr : Str.Rises (ids bx)) (hh : Str.has (ids bx) s = true) {j : Nat} (hj : j < bx.length) (h : j ≠ Str.pos (ids bx) s) : Str.cmp bx[j].id s ≠ 0 := by rw [← id_at hj]; exact else_ne hr hh _ h
theorem nm_below {j : Nat} (hj : j < im.length) (h : j < Str.pos (nms im) s) : Str.cmp im[j].name s < 0 := by rw [← nm_at hj]; exact Str.pos_below j _ h
theorem nm_above (hr : Str.Rises (nms im)) {j : Nat} (hj : j < im.length) (h : Str.pos (nms im) s ≤ j) : ¬ Str.cmp im[j].name s < 0 := by rw [← nm_at hj]; exact Str.pos_above hr j _ h
theorem nm_not (hh : Str.has (nms im) s = false) {j : Nat} (hj : j < im.length) : Str.cmp im[j].name s ≠ 0 := by rw [← nm_at hj]; exact not_has hh _
theorem nm_ne (hr : Str.Rises (nms im)) (hh : Str.has (nms im) s = true) {j : Nat} (hj : j < im.length) (h : j ≠ Str.pos (nms im) s) : Str.cmp im[j].name s ≠ 0 := by rw [← nm_at hj]; exact else_ne hr hh _ h
theorem crTo_at (hr : Str.Rises (ids bx)) (hh : Str.has (ids bx) s = false) : ∀ k, k ≤ bx.length → crTo bx s round k = if k ≤ Str.pos (ids bx) s then (bx.take k, false) else (bx.take (Str.pos (ids bx) s) ++ ⟨s, 1, 0, round⟩ :: (bx.take k).drop (Str.pos (ids bx) s), true) := by
  intro k
  induction k with
  | zero => intro _; simp [crTo]
  | succ k ih =>
    intro hk
    rw [crTo, List.getElem?_eq_getElem hk]
    dsimp only
    rw [ih (by omega)]
    by_cases h1 : k + 1 ≤ Str.pos (ids bx) s
    · rw [if_pos (show k ≤ Str.pos (ids bx) s by omega), if_pos h1, less_t (id_below (s := s) hk (by omega)), Mem.take_snoc _ _ hk]
      simp
    · rw [if_neg h1]
      by_cases h2 : k ≤ Str.pos (ids bx) s
      · obtain rfl : k = Str.pos (ids bx) s := by omega
        rw [if_pos h2, less_f (id_above hr hk (Nat.le_refl _)), cmp_ne (id_not hh hk), take_drop_snoc hk (Nat.le_refl _)]
        simp
      · rw [if_neg h2, take_drop_snoc hk (by omega)]
        simp
theorem crB_is (hr : Str.Rises (ids bx)) (hh : Str.has (ids bx) s = false) : crB bx s round = insB bx s round := by
  have hp := Str.pos_le (ids bx) s
  rw [ids_len] at hp
  unfold crB insB
  rw [crTo_at hr hh _ (Nat.le_refl _)]
  by_cases h : bx.length ≤ Str.pos (ids bx) s
  · rw [if_pos h]
    have e : Str.pos (ids bx) s = bx.length := by omega
    rw [e]
    simp
  · rw [if_neg h]
    simp
theorem putTo_no (hr : Str.Rises (nms im)) (hh : Str.has (nms im) s = false) : ∀ k, k ≤ im.length → putTo im s size round k = if k ≤ Str.pos (nms im) s then (im.take k, false) else (im.take (Str.pos (nms im) s) ++ ⟨s, size, round⟩ :: (im.take k).drop (Str.pos (nms im) s), true) := by
  intro k
  induction k with
  | zero => intro _; simp [putTo]
  | succ k ih =>
    intro hk
    rw [putTo, List.getElem?_eq_getElem hk]
    dsimp only
    rw [ih (by omega)]
    by_cases h1 : k + 1 ≤ Str.pos (nms im) s
    · rw [if_pos (show k ≤ Str.pos (nms im) s by omega), if_pos h1, less_t (nm_below (s := s) hk (by omega)), Mem.take_snoc _ _ hk]
      simp
    · rw [if_neg h1]
      by_cases h2 : k ≤ Str.pos (nms im) s
      · obtain rfl : k = Str.pos (nms im) s := by omega
        rw [if_pos h2, less_f (nm_above hr hk (Nat.le_refl _)), cmp_ne (nm_not hh hk), take_drop_snoc hk (Nat.le_refl _)]
        simp
      · rw [if_neg h2, take_drop_snoc hk (by omega)]
        simp
theorem putTo_has (hr : Str.Rises (nms im)) (hl : Str.pos (nms im) s < im.length) (hn : im[Str.pos (nms im) s].name = s) : ∀ k, k ≤ im.length → putTo im s size round k = if k ≤ Str.pos (nms im) s then (im.take k, false) else (im.take (Str.pos (nms im) s) ++ ⟨s, im[Str.pos (nms im) s].size, round⟩ :: (im.take k).drop (Str.pos (nms im) s + 1), true) := by
  intro k
  induction k with
  | zero => intro _; simp [putTo]
  | succ k ih =>
    intro hk
    rw [putTo, List.getElem?_eq_getElem hk]
    dsimp only
    rw [ih (by omega)]
    by_cases h1 : k + 1 ≤ Str.pos (nms im) s
    · rw [if_pos (show k ≤ Str.pos (nms im) s by omega), if_pos h1, less_t (nm_below (s := s) hk (by omega)), Mem.take_snoc _ _ hk]
      simp
    · rw [if_neg h1]
      by_cases h2 : k ≤ Str.pos (nms im) s
      · obtain ⟨P, hP⟩ : ∃ P, P = Str.pos (nms im) s := ⟨_, rfl⟩
        obtain rfl : k = P := by omega
        have c0 : ¬ Str.cmp im[k].name s < 0 := nm_above hr hk (by omega)
        simp only [← hP] at *
        rw [if_pos h2, less_f c0, cmp_is (by rw [hn]; exact Str.cmp_self s), List.drop_of_length_le (by simp; omega)]
        simp [hn]
      · rw [if_neg h2, take_drop_snoc hk (by omega)]
        simp
theorem rputI_is (hr : Str.Rises (nms im)) : rputI im s size round = putI im s size round := by
  have hp := Str.pos_le (nms im) s
  rw [nms_len] at hp
  unfold rputI putI
  cases hh : Str.has (nms im) s
  · rw [putTo_no hr hh _ (Nat.le_refl _)]
    by_cases h : im.length ≤ Str.pos (nms im) s
    · rw [if_pos h]
      have e : Str.pos (nms im) s = im.length := by omega
      rw [e]
      simp
    · rw [if_neg h]
      simp
  · obtain ⟨hl, -, hn⟩ := theI_some hr hh
    have hx : putTo im s size round im.length = (im.take (Str.pos (nms im) s) ++ ⟨s, im[Str.pos (nms im) s].size, round⟩ :: im.drop (Str.pos (nms im) s + 1), true) := by
      rw [putTo_has hr hl hn _ (Nat.le_refl _), if_neg (by omega), List.take_length]
    rw [hx, if_pos rfl, if_pos rfl, List.getD_eq_getElem?_getD, List.getElem?_eq_getElem hl, List.set_eq_take_append_cons_drop, if_pos hl]
    rfl
theorem filter_ne {l : List ImgV} (h : ∀ p ∈ l, Str.cmp p.name s ≠ 0) : l.filter (neI s) = l := by
  rw [List.filter_eq_self]
  intro p hp
  unfold neI
  rw [cmp_ne (h p hp)]
  rfl
theorem dropI_is (hr : Str.Rises (nms im)) : im.filter (neI s) = dropI im s := by
  unfold dropI
  cases hh : Str.has (nms im) s
  · rw [if_neg (by decide)]
    refine filter_ne fun p hp => ?_
    obtain ⟨j, hj, rfl⟩ := List.getElem_of_mem hp
    exact nm_not hh hj
  · obtain ⟨hl, -, hn⟩ := theI_some hr hh
    rw [if_pos rfl]
    have h0 : im.filter (neI s) = (im.take (Str.pos (nms im) s) ++ im[Str.pos (nms im) s] :: im.drop (Str.pos (nms im) s + 1)).filter (neI s) := by
      rw [← List.drop_eq_getElem_cons hl, List.take_append_drop]
    rw [h0, List.filter_append, List.filter_cons, filter_ne, filter_ne, if_neg]
    · unfold neI
      rw [cmp_is (by rw [hn]; exact Str.cmp_self s)]
      decide
    · intro p hp
      obtain ⟨j, hj, rfl⟩ := List.getElem_of_mem hp
      rw [List.getElem_drop]
      exact nm_ne hr hh _ (by omega)
    · intro p hp
      obtain ⟨j, hj, rfl⟩ := List.getElem_of_mem hp
      rw [List.getElem_take]
      have hj2 : j < Str.pos (nms im) s := by simp at hj; omega
      exact nm_ne hr hh _ (by omega)
/-- one name is used -/
def fu (round : Int) (u : ByteArray) (p : ImgV) : ImgV := if Str.cmp p.name u = 0 then ⟨p.name, p.size, round⟩ else p
theorem fu_name (u : ByteArray) (p : ImgV) : (fu round u p).name = p.name := by unfold fu; split <;> rfl
theorem tchOne_is (hr : Str.Rises (nms im)) (u : ByteArray) : tchOne round im u = im.map (fu round u) := by
  unfold tchOne
  cases hh : Str.has (nms im) u
  · rw [if_neg (by decide)]
    refine (List.map_id im).symm.trans (List.map_congr_left fun p hp => ?_)
    obtain ⟨j, hj, rfl⟩ := List.getElem_of_mem hp
    unfold fu
    rw [if_neg (nm_not hh hj)]
    rfl
  · obtain ⟨hl, -, hn⟩ := theI_some hr hh
    rw [if_pos rfl, List.getElem?_eq_getElem hl]
    dsimp only
    apply List.ext_getElem (by simp)
    intro j h1 h2
    rw [List.getElem_set, List.getElem_map]
    have hj : j < im.length := by simpa using h2
    by_cases e : Str.pos (nms im) u = j
    · subst e
      rw [if_pos rfl]
      unfold fu
      rw [if_pos (by rw [hn]; exact Str.cmp_self u)]
    · rw [if_neg e]
      unfold fu
      rw [if_neg (nm_ne hr hh hj (by omega))]
theorem tch_fu (us : List ByteArray) (u : ByteArray) (p : ImgV) : tch us round (fu round u p) = tch (u :: us) round p := by
  have h1 : Str.has (u :: us) p.name = (Str.cmp u p.name == 0 || Str.has us p.name) := rfl
  have h2 := Str.cmp_neg p.name u
  unfold tch
  rw [fu_name, h1]
  by_cases e : Str.cmp p.name u = 0
  · have e2 : (Str.cmp u p.name == 0) = true := by rw [beq_iff_eq]; omega
    unfold fu
    rw [if_pos e, e2]
    cases Str.has us p.name <;> rfl
  · have e2 : (Str.cmp u p.name == 0) = false := beq_eq_false_iff_ne.2 (by omega)
    unfold fu
    rw [if_neg e, e2]
    rfl
theorem tchTo_is (us : List ByteArray) : ∀ {im : List ImgV}, Str.Rises (nms im) → tchTo round im us = im.map (tch us round) := by
  induction us with
  | nil =>
    intro im _
    show im = _
    refine (List.map_id im).symm.trans (List.map_congr_left fun p _ => ?_)
    rfl
  | cons u us ih =>
    intro im hr
    show tchTo round (tchOne round im u) us = _
    rw [ih (by rw [nms_one]; exact hr), tchOne_is hr, List.map_map]
    exact List.map_congr_left fun p _ => tch_fu us u p
end
/-! ### what stays right -/
structure Fine (k : Nat) (s : St) : Prop where
  good : Good s
  up : ∀ p ∈ s.bx, p.st ≠ 5
  lb : s.bx.length ≤ k
  li : s.im.length ≤ k
section
variable {k : Nat} {s : St} {id name : ByteArray} {size round q : Int} {well : Bool}
theorem Fine.nil (rt : Int) : Fine 0 ⟨rt, [], [], []⟩ := ⟨⟨List.Pairwise.nil, List.Pairwise.nil, fun p hp => (by cases hp), Nat.zero_le _, Nat.zero_le _, Nat.zero_le _⟩, fun p hp => (by cases hp), Nat.le_refl _, Nat.le_refl _⟩
theorem Fine.mono (h : Fine k s) : Fine (k + 1) s := ⟨h.good, h.up, by have := h.lb; omega, by have := h.li; omega⟩
theorem Fine.outs (h : Fine k s) {o : List Bool} (ho : o.length ≤ 4096) : Fine k { s with outs := o } := ⟨⟨h.good.rb, h.good.ri, h.good.ok, h.good.nb, h.good.ni, ho⟩, h.up, h.lb, h.li⟩
theorem Fine.next (h : Fine k s) : Fine k { s with outs := s.outs.tail } := h.outs (by have := h.good.no; simp; omega)
theorem ids_ins : ids (insB s.bx id round) = (ids s.bx).take (Str.pos (ids s.bx) id) ++ id :: (ids s.bx).drop (Str.pos (ids s.bx) id) := by
  unfold insB ids
  rw [List.map_append, List.map_cons, List.map_take, List.map_drop]
theorem Fine.ins (h : Fine k s) (hk : k < 1000) (hh : Str.has (ids s.bx) id = false) : Fine (k + 1) { s with bx := insB s.bx id round } := by
  have hl : (insB s.bx id round).length = s.bx.length + 1 := by unfold insB; simp; omega
  have hm : ∀ p ∈ insB s.bx id round, p = ⟨id, 1, 0, round⟩ ∨ p ∈ s.bx := by
    intro p hp
    unfold insB at hp
    rcases List.mem_append.1 hp with hp | hp
    · exact .inr (List.mem_of_mem_take hp)
    · rcases List.mem_cons.1 hp with hp | hp
      · exact .inl hp
      · exact .inr (List.mem_of_mem_drop hp)
  have h1 := h.lb
  refine ⟨⟨?_, h.good.ri, fun p hp => ?_, by show (insB s.bx id round).length ≤ _; omega, h.good.ni, h.good.no⟩, fun p hp => ?_, by show (insB s.bx id round).length ≤ _; omega, by have := h.li; show s.im.length ≤ _; omega⟩
  · show Str.Rises (ids (insB s.bx id round))
    rw [ids_ins]
    exact mid_rises h.good.rb hh
  · rcases hm p hp with rfl | hp
    · exact ⟨by show (0 : Int) ≤ 1; decide, by show (1 : Int) ≤ 6; decide, by show (0 : Int) ≤ 0; decide, by show (0 : Int) ≤ 9223372036854775807; decide⟩
    · exact h.good.ok p hp
  · rcases hm p hp with rfl | hp
    · show (1 : Int) ≠ 5
      decide
    · exact h.up p hp
theorem Fine.put (h : Fine k s) (hk : k < 1000) : Fine (k + 1) { s with im := putI s.im name size round } := by
  have hl : (putI s.im name size round).length ≤ s.im.length + 1 := by
    unfold putI
    split
    · simp
    · simp; omega
  have h1 := h.li
  refine ⟨⟨h.good.rb, ?_, h.good.ok, h.good.nb, by show (putI s.im name size round).length ≤ _; omega, h.good.no⟩, h.up, by have := h.lb; show s.bx.length ≤ _; omega, by show (putI s.im name size round).length ≤ _; omega⟩
  show Str.Rises (nms (putI s.im name size round))
  unfold putI
  cases hh : Str.has (nms s.im) name
  · rw [if_neg (by decide)]
    have := mid_rises h.good.ri hh
    unfold nms at *
    rw [List.map_append, List.map_cons, List.map_take, List.map_drop]
    exact this
  · obtain ⟨hl, -, hn⟩ := theI_some h.good.ri hh
    rw [if_pos rfl]
    have e : nms (s.im.set (Str.pos (nms s.im) name) ⟨name, (s.im.getD (Str.pos (nms s.im) name) ⟨name, 0, 0⟩).size, round⟩) = nms s.im := by
      generalize Str.pos (nms s.im) name = P at *
      unfold nms
      rw [List.map_set]
      apply List.ext_getElem (by simp)
      intro j h1 h2
      rw [List.getElem_set]
      split
      · rename_i e
        subst e
        simp [hn]
      · rfl
    rw [e]
    exact h.good.ri
theorem Fine.drop (h : Fine k s) : Fine k { s with im := dropI s.im name } := by
  have hs : (dropI s.im name).Sublist s.im := by
    rw [← dropI_is h.good.ri]
    exact List.filter_sublist
  have hl := hs.length_le
  have h1 := h.li
  have h2 := h.good.ni
  exact ⟨⟨h.good.rb, List.Pairwise.sublist (hs.map _) h.good.ri, h.good.ok, h.good.nb, by show (dropI s.im name).length ≤ _; omega, h.good.no⟩, h.up, h.lb, by show (dropI s.im name).length ≤ _; omega⟩
theorem Fine.tch (h : Fine k s) (us : List ByteArray) : Fine k { s with im := tchTo round s.im us } := by
  have hl := len_to round us s.im
  have h1 := h.li
  have h2 := h.good.ni
  exact ⟨⟨h.good.rb, by show Str.Rises (nms (tchTo round s.im us)); rw [nms_to]; exact h.good.ri, h.good.ok, h.good.nb, by show (tchTo round s.im us).length ≤ _; omega, h.good.no⟩, h.up, h.lb, by show (tchTo round s.im us).length ≤ _; omega⟩
theorem Fine.doB (h : Fine k s) (P : Nat) : Fine k { s with bx := doB s.bx P q well s.rt round } := by
  have h1 := h.lb
  have h2 := h.good.nb
  cases hp : s.bx[P]? with
  | none =>
    have e : Wo.doB s.bx P q well s.rt round = s.bx := by unfold Wo.doB; rw [hp]
    rw [e]
    exact h
  | some p =>
    obtain ⟨hl, hq⟩ := List.getElem?_eq_some_iff.1 hp
    have e : Wo.doB s.bx P q well s.rt round = if (doP p q well s.rt round).st = 5 then s.bx.take P ++ s.bx.drop (P + 1) else s.bx.set P (doP p q well s.rt round) := by unfold Wo.doB; rw [hp]
    rw [e]
    by_cases h5 : (doP p q well s.rt round).st = 5
    · rw [if_pos h5]
      have hs : (s.bx.take P ++ s.bx.drop (P + 1)).Sublist s.bx := by
        rw [← List.eraseIdx_eq_take_drop_succ]
        exact List.eraseIdx_sublist _ _
      have hll := hs.length_le
      exact ⟨⟨List.Pairwise.sublist (hs.map _) h.good.rb, h.good.ri, fun p hp => h.good.ok p (hs.subset hp), by show (s.bx.take P ++ s.bx.drop (P + 1)).length ≤ _; omega, h.good.ni, h.good.no⟩, fun p hp => h.up p (hs.subset hp), by show (s.bx.take P ++ s.bx.drop (P + 1)).length ≤ _; omega, h.li⟩
    · rw [if_neg h5]
      have hm : ∀ x ∈ s.bx.set P (doP p q well s.rt round), x = doP p q well s.rt round ∨ x ∈ s.bx := fun x hx => (List.mem_or_eq_of_mem_set hx).symm
      refine ⟨⟨?_, h.good.ri, fun x hx => ?_, by show (s.bx.set P _).length ≤ _; simp; omega, h.good.ni, h.good.no⟩, fun x hx => ?_, by show (s.bx.set P _).length ≤ _; simp; omega, h.li⟩
      · have e2 : ids (s.bx.set P (doP p q well s.rt round)) = ids s.bx := by
          unfold ids
          rw [List.map_set]
          apply List.ext_getElem (by simp)
          intro j h1 h2
          rw [List.getElem_set]
          split
          · rename_i e
            subst e
            simp [hq, doP]
          · rfl
        show Str.Rises (ids (s.bx.set P (doP p q well s.rt round)))
        rw [e2]
        exact h.good.rb
      · rcases hm x hx with rfl | hx
        · exact Box.step_ok (h.good.ok p (by rw [← hq]; exact List.getElem_mem hl)) q well s.rt
        · exact h.good.ok x hx
      · rcases hm x hx with rfl | hx
        · exact h5
        · exact h.up x hx
end
end Wo
end Go.Proofs.Ythccojfflmfggaa
/- The plain law of layer 16 (world): what the document does to a container is what the program does. -/
namespace Go.Proofs.Ythccojfflmfggaa
open Go.RowKit
namespace Wo
section
variable {bx : List ConV} {s : ByteArray} {q rt round : Int} {well : Bool}
theorem one_else {p : ConV} (h : Str.cmp p.id s ≠ 0) (h5 : p.st ≠ 5) : oneD s q well rt round p = [p] := by
  unfold oneD
  rw [cmp_ne h, if_neg (by decide), if_neg h5]
theorem flat_else {l : List ConV} (h : ∀ p ∈ l, Str.cmp p.id s ≠ 0) (h5 : ∀ p ∈ l, p.st ≠ 5) : l.flatMap (oneD s q well rt round) = l := by
  induction l with
  | nil => rfl
  | cons p l ih =>
    rw [List.flatMap_cons, one_else (h p (by simp)) (h5 p (by simp)), ih (fun x hx => h x (by simp [hx])) (fun x hx => h5 x (by simp [hx]))]
    rfl
theorem rdoB_is (hr : Str.Rises (ids bx)) (hh : Str.has (ids bx) s = true) (h5 : ∀ p ∈ bx, p.st ≠ 5) : rdoB bx s q well rt round = doB bx (Str.pos (ids bx) s) q well rt round := by
  obtain ⟨hl, -, hn⟩ := the_some hr hh
  have h0 : rdoB bx s q well rt round = (bx.take (Str.pos (ids bx) s) ++ bx[Str.pos (ids bx) s] :: bx.drop (Str.pos (ids bx) s + 1)).flatMap (oneD s q well rt round) := by
    rw [← List.drop_eq_getElem_cons hl, List.take_append_drop]
    rfl
  have e1 : oneD s q well rt round bx[Str.pos (ids bx) s] = if (doP bx[Str.pos (ids bx) s] q well rt round).st = 5 then [] else [doP bx[Str.pos (ids bx) s] q well rt round] := by
    unfold oneD
    rw [cmp_is (by rw [hn]; exact Str.cmp_self s), if_pos rfl]
  rw [h0, List.flatMap_append, List.flatMap_cons, flat_else, flat_else, e1]
  · unfold doB
    rw [List.getElem?_eq_getElem hl]
    dsimp only
    split
    · simp
    · rw [List.set_eq_take_append_cons_drop, if_pos hl]
      simp
  · intro p hp
    obtain ⟨j, hj, rfl⟩ := List.getElem_of_mem hp
    rw [List.getElem_drop]
    exact id_ne hr hh _ (by omega)
  · exact fun p hp => h5 p (List.mem_of_mem_drop hp)
  · intro p hp
    obtain ⟨j, hj, rfl⟩ := List.getElem_of_mem hp
    rw [List.getElem_take]
    have hj2 : j < Str.pos (ids bx) s := by simp at hj; omega
    exact id_ne hr hh _ (by omega)
  · exact fun p hp => h5 p (List.mem_of_mem_take hp)
end
end Wo
end Go.Proofs.Ythccojfflmfggaa
/- The walk of the document's layer 16: the next outcome, where some wait; runtimes as values. -/
namespace Go.Proofs.Ythccojfflmfggaa
open Go.RowKit
namespace Wo
/-- one append onto a new empty row -/
theorem one_app {w : World} {n c : Nat} {A : Option Addr} {xs : List Bool} (hs : Mem.Sl w w.heap.size 1 A n (xs.map Value.bool)) (hn : n ≤ 10000) {N : Nat} (hN : w.heap.size = N) :
    ∃ A1 c1 w1, (Builtin.append_ #[22, 22] 22 #[.slice (some ⟨N, 0, none⟩) 0 0, .slice A n c]).run Try.prog (w.alloc (.cells #[] 4)) = .ok (.slice A1 n c1) w1 ∧
      QRow w1 A1 n c1 xs ∧ Below w.heap.size w w1 ∧ ∀ k, Ro.blk A1 = some k → w.heap.size ≤ k := by
  subst hN
  have h0 : Below w.heap.size w (w.alloc (.cells #[] 4)) := (Below.refl _ _).alloc (Nat.le_refl _) _
  have hnew : Ro.Row (w.alloc (.cells #[] 4)) 4 1 (some ⟨w.heap.size, 0, none⟩) 0 0 [] := Ro.Row.new (cs := #[]) rfl (by decide)
  have one : ∀ l : List Bool, ∀ u ∈ l.map Value.bool, u.oneCell' = true := by intro l u hu; obtain ⟨b, _, rfl⟩ := List.mem_map.1 hu; rfl
  obtain ⟨A1, c1, w1, hr1, hR1, hO1, hA1⟩ := Ro.app (P := Try.prog) (ty := 22) (c2 := c) elb hnew (hs.below h0) (one _) (by unfold maxLen; omega) (by omega)
  simp only [Nat.zero_add, List.nil_append] at hr1 hR1
  refine ⟨A1, c1, w1, hr1, hR1, h0.trans (hO1.below (by simp) (fun k hk e => by
    have : w.heap.size = k := by simpa [Ro.blk] using e
    omega)), ?_⟩
  intro k hk
  rcases hA1 with e | e
  · rw [e] at hk
    have : w.heap.size = k := by simpa [Ro.blk] using hk
    omega
  · rw [e] at hk
    have : w.heap.size + 1 = k := by simpa using hk
    omega
set_option maxRecDepth 100000 in
set_option maxHeartbeats 4000000 in
theorem rnext1_c (rt : Int) (AO AB AI : Option Addr) (nO cO nB cB nI cI : Nat) (x : Bool) (os : List Bool) (w : World) (h : QRow w AO nO cO (x :: os)) (hn : nO ≤ 5000) :
    Calls Try.prog 60 #[.agg #[.int .i64 rt, .slice AO nO cO, .slice AB nB cB, .slice AI nI cI]] w fun e w' =>
      ∃ A' c', e = .returned (.tuple #[.bool x, .agg #[.int .i64 rt, .slice A' (nO - 1) c', .slice AB nB cB, .slice AI nI cI]]) ∧ QRow w' A' (nO - 1) c' os ∧ Below w.heap.size w w' ∧ ∀ b, Ro.blk A' = some b → w.heap.size ≤ b := by
  have hlen : os.length + 1 = nO := by have := h.1; simpa using this
  have hle := h.le
  obtain ⟨g', off, rfl⟩ := h.some_of (by omega)
  have hc0 : w.cell? ⟨g', off, none⟩ = some (.bool x) := h.cell 0 (by simp)
  have hcm := hle.2
  unfold maxLen at hcm
  have N3 : Mem.Blk ((w.alloc (.cells #[.int .i64 rt, .slice (some ⟨g', off, none⟩) nO cO, .slice AB nB cB, .slice AI nI cI] 64)).alloc (.cells #[.int .i64 0, .slice none 0 0, .slice none 0 0, .slice none 0 0] 64)) w.heap.size 64 #[.int .i64 rt, .slice (some ⟨g', off, none⟩) nO cO, .slice AB nB cB, .slice AI nI cI] := Mem.Blk.new.alloc
  have N6 : Mem.Blk ((w.alloc (.cells #[.int .i64 rt, .slice (some ⟨g', off, none⟩) nO cO, .slice AB nB cB, .slice AI nI cI] 64)).alloc (.cells #[.int .i64 0, .slice none 0 0, .slice none 0 0, .slice none 0 0] 64)) (w.heap.size + 1) 64 #[.int .i64 0, .slice none 0 0, .slice none 0 0, .slice none 0 0] := by
    have := Mem.Blk.new (w := w.alloc (.cells #[.int .i64 rt, .slice (some ⟨g', off, none⟩) nO cO, .slice AB nB cB, .slice AI nI cI] 64)) (t := 64) (cs := #[.int .i64 0, .slice none 0 0, .slice none 0 0, .slice none 0 0])
    simpa using this
  have L0 : Below w.heap.size w ((w.alloc (.cells #[.int .i64 rt, .slice (some ⟨g', off, none⟩) nO cO, .slice AB nB cB, .slice AI nI cI] 64)).alloc (.cells #[.int .i64 0, .slice none 0 0, .slice none 0 0, .slice none 0 0] 64)) := ((Below.refl _ _).alloc (Nat.le_refl _) _).alloc (by simp) _
  have d : ((nO : Int) == 0) = false := beq_eq_false_iff_ne.2 (by omega)
  have hg : g' < w.heap.size := h.lt rfl
  have hz := L0.size
  have hfrom : QRow w (if cO = 1 then some (⟨g', off, none⟩ : Addr) else some ⟨g', off + 1, none⟩) (nO - 1) (cO - 1) os := by
    have hf := h.from_ 1 (by omega)
    have e : ((x :: os).map Value.bool).drop (1 * 1) = os.map Value.bool := by simp
    rw [Nat.one_mul] at hf e
    rw [e] at hf
    exact hf
  have hc1 : ((w.alloc (.cells #[.int .i64 rt, .slice (some ⟨g', off, none⟩) nO cO, .slice AB nB cB, .slice AI nI cI] 64)).alloc (.cells #[.int .i64 0, .slice none 0 0, .slice none 0 0, .slice none 0 0] 64)).cell? ⟨g', off, none⟩ = some (.bool x) := (L0.cell (p := ⟨g', off, none⟩) hg).trans hc0
  obtain ⟨A1, c1, w1, hr1, hR, hb1, hfr⟩ := one_app (c := cO - 1) ((hfrom.sl.below L0).more hz) (by omega) (N := w.heap.size + 1 + 1) (by simp)
  have M3 := N3.below hb1 N3.lt
  have M6 := N6.below hb1 N6.lt
  have q0 : w1.cell? ⟨w.heap.size, 0, none⟩ = some (.int .i64 rt) := M3.cell 0
  have q1 : w1.cell? ⟨w.heap.size, 1, none⟩ = some (.slice (some ⟨g', off, none⟩) nO cO) := M3.cell 1
  have q2 : w1.cell? ⟨w.heap.size, 2, none⟩ = some (.slice AB nB cB) := M3.cell 2
  have q3 : w1.cell? ⟨w.heap.size, 3, none⟩ = some (.slice AI nI cI) := M3.cell 3
  have r0 : w1.cell? ⟨w.heap.size + 1, 0, none⟩ = some (.int .i64 0) := M6.cell 0
  have r1 : w1.cell? ⟨w.heap.size + 1, 1, none⟩ = some (.slice none 0 0) := M6.cell 1
  have r2 : w1.cell? ⟨w.heap.size + 1, 2, none⟩ = some (.slice none 0 0) := M6.cell 2
  have r3 : w1.cell? ⟨w.heap.size + 1, 3, none⟩ = some (.slice none 0 0) := M6.cell 3
  have f3 := M3.frozen
  have f6 := M6.frozen
  have HE : Hid (∀ u, Ro.Only (fun b => b = w.heap.size ∨ b = w.heap.size + 1) w1 u → QRow u A1 (nO - 1) c1 os ∧ Below w.heap.size w u ∧ ∀ b, Ro.blk A1 = some b → w.heap.size ≤ b) := fun u hu =>
    ⟨hR.only hu (fun b hb e => by have := hfr b hb; simp at this; omega), (L0.trans (hb1.mono hz)).trans (hu.below (by have := hb1.size; omega) (fun b hb e => by omega)), fun b hb => by have := hfr b hb; omega⟩
  clear L0 N3 N6 h hb1 hR hfr M3 M6 hz hfrom
  by_cases h1 : cO = 1
  · rw [if_pos h1] at hr1
    subst h1
    obtain rfl : nO = 1 := by omega
    go_enter Try.func60, Try.ntmps60
    go_wp2_with (at_builtin; refine Ro.wpList_app rfl _ _ _ _ rfl _ _ rfl rfl hr1 ?_)
    go_region
    all_goals
      go_wp2_with fail
      obtain ⟨e1, e2, e3⟩ := HE.out _ (only5 w1 w.heap.size 1 (.slice A1 (1 - 1) c1) (.int .i64 rt) (.slice A1 (1 - 1) c1) (.slice AB nB cB) (.slice AI nI cI)).drew
      refine bodyPost_ret (v := .tuple #[.bool x, .agg #[.int .i64 rt, .slice A1 (1 - 1) c1, .slice AB nB cB, .slice AI nI cI]]) (by simp [results, Try.results60, go_sem, r0, r1, r2, r3]) rfl ⟨A1, c1, rfl, e1, e2, e3⟩
  · rw [if_neg h1] at hr1
    go_enter Try.func60, Try.ntmps60
    go_wp2_with (at_builtin; refine Ro.wpList_app rfl _ _ _ _ rfl _ _ rfl rfl hr1 ?_)
    go_region
    all_goals
      go_wp2_with fail
      obtain ⟨e1, e2, e3⟩ := HE.out _ (only5 w1 w.heap.size 1 (.slice A1 (nO - 1) c1) (.int .i64 rt) (.slice A1 (nO - 1) c1) (.slice AB nB cB) (.slice AI nI cI)).drew
      refine bodyPost_ret (v := .tuple #[.bool x, .agg #[.int .i64 rt, .slice A1 (nO - 1) c1, .slice AB nB cB, .slice AI nI cI]]) (by simp [results, Try.results60, go_sem, r0, r1, r2, r3]) rfl ⟨A1, c1, rfl, e1, e2, e3⟩
end Wo
end Go.Proofs.Ythccojfflmfggaa
/- The walk of the document's layer 16: runtimes as values; ask. -/
namespace Go.Proofs.Ythccojfflmfggaa
open Go.RowKit
namespace Wo
/-- a runtime as the document's value -/
def RV (w : World) (T : Nat → Prop) (v : Value) (s : St) : Prop := ∃ (AO AB AI : Option Addr) (cO cB cI : Nat), v = .agg #[.int .i64 s.rt, .slice AO s.outs.length cO, .slice AB s.bx.length cB, .slice AI s.im.length cI] ∧
  QRow w AO s.outs.length cO s.outs ∧ CRow w AB s.bx.length cB s.bx ∧ IRow w AI s.im.length cI s.im ∧ (∀ k, Ro.blk AO = some k → T k) ∧ (∀ k, Ro.blk AB = some k → T k) ∧ (∀ k, Ro.blk AI = some k → T k)
section
variable {w w' : World} {T T' : Nat → Prop} {v : Value} {s : St}
theorem RV.keep (h : RV w T v s) (hk : ∀ k, k < w.heap.size → T k → w'.heap[k]? = w.heap[k]?) : RV w' T v s := by
  obtain ⟨AO, AB, AI, cO, cB, cI, e, h1, h2, h3, t1, t2, t3⟩ := h
  exact ⟨AO, AB, AI, cO, cB, cI, e, Ro.Row.keep h1 fun b hb => hk b (Ro.Row.lt h1 hb) (t1 b hb), Ro.Row.keep h2 fun b hb => hk b (Ro.Row.lt h2 hb) (t2 b hb), Ro.Row.keep h3 fun b hb => hk b (Ro.Row.lt h3 hb) (t3 b hb), t1, t2, t3⟩
theorem RV.below (h : RV w T v s) (hb : Below w.heap.size w w') : RV w' T v s := h.keep fun k hk _ => hb.block k hk
theorem RV.mono (h : RV w T v s) (ht : ∀ k, k < w.heap.size → T k → T' k) : RV w T' v s := by
  obtain ⟨AO, AB, AI, cO, cB, cI, e, h1, h2, h3, t1, t2, t3⟩ := h
  exact ⟨AO, AB, AI, cO, cB, cI, e, h1, h2, h3, fun b hb => ht b (Ro.Row.lt h1 hb) (t1 b hb), fun b hb => ht b (Ro.Row.lt h2 hb) (t2 b hb), fun b hb => ht b (Ro.Row.lt h3 hb) (t3 b hb)⟩
end
/-- two blocks, one behind the other -/
theorem two_blocks (w : World) (cs zs : Array Value) (t : TypeId) : Below w.heap.size w ((w.alloc (.cells cs t)).alloc (.cells zs t)) ∧ Mem.Blk ((w.alloc (.cells cs t)).alloc (.cells zs t)) w.heap.size t cs ∧ Mem.Blk ((w.alloc (.cells cs t)).alloc (.cells zs t)) (w.heap.size + 1) t zs := by
  refine ⟨((Below.refl _ _).alloc (Nat.le_refl _) _).alloc (by simp) _, Mem.Blk.new.alloc, ?_⟩
  have := Mem.Blk.new (w := w.alloc (.cells cs t)) (t := t) (cs := zs)
  simpa using this
theorem blk4 {w : World} {g : Nat} {t : TypeId} {a b c d : Value} (h : Mem.Blk w g t #[a, b, c, d]) : w.cell? ⟨g, 0, none⟩ = some a ∧ w.cell? ⟨g, 1, none⟩ = some b ∧ w.cell? ⟨g, 2, none⟩ = some c ∧ w.cell? ⟨g, 3, none⟩ = some d ∧ ∀ o, w.frozen? ⟨g, o, none⟩ = false :=
  ⟨h.cell 0, h.cell 1, h.cell 2, h.cell 3, h.frozen⟩
/-- behind a call of the document's: a new runtime -/
def NewV (w : World) (T : Nat → Prop) (s : St) (f : Value → Ending) (e : Ending) (w' : World) : Prop :=
  ∃ v, e = f v ∧ RV w' (fun k => T k ∨ w.heap.size ≤ k) v s ∧ Below w.heap.size w w'
theorem rnextV {w : World} {T : Nat → Prop} {v : Value} {s : St} (h : RV w T v s) (ho : s.outs.length ≤ 5000) :
    Calls Try.prog 60 #[v] w (NewV w T { s with outs := s.outs.tail } fun v' => .returned (.tuple #[.bool (tk s.outs), v'])) := by
  obtain ⟨rt, outs, bx, im⟩ := s
  obtain ⟨AO, AB, AI, cO, cB, cI, rfl, h1, h2, h3, t1, t2, t3⟩ := h
  dsimp only at *
  cases outs with
  | nil =>
    refine (rnext0_c rt AO AB AI cO bx.length cB im.length cI w).mono ?_
    rintro e w' ⟨rfl, hb⟩
    exact ⟨_, rfl, ⟨AO, AB, AI, cO, cB, cI, rfl, Ro.Row.keep h1 fun b hk => hb.block b (Ro.Row.lt h1 hk), Ro.Row.keep h2 fun b hk => hb.block b (Ro.Row.lt h2 hk), Ro.Row.keep h3 fun b hk => hb.block b (Ro.Row.lt h3 hk), fun k hk => .inl (t1 k hk), fun k hk => .inl (t2 k hk), fun k hk => .inl (t3 k hk)⟩, hb⟩
  | cons x os =>
    refine (rnext1_c rt AO AB AI (x :: os).length cO bx.length cB im.length cI x os w h1 ho).mono ?_
    rintro e w' ⟨A', c', rfl, hR, hb, hf⟩
    exact ⟨_, rfl, ⟨A', AB, AI, c', cB, cI, rfl, hR, Ro.Row.keep h2 fun b hk => hb.block b (Ro.Row.lt h2 hk), Ro.Row.keep h3 fun b hk => hb.block b (Ro.Row.lt h3 hk), fun k hk => .inr (hf k hk), fun k hk => .inl (t2 k hk), fun k hk => .inl (t3 k hk)⟩, hb⟩
theorem rwdoV {w : World} {T : Nat → Prop} {v : Value} {s : St} {k : Nat} {id : ByteArray} {q round : Int} {well : Bool} (h : RV w T v s) (hs : Fine k s) (hk : k ≤ 1000) (hh : Str.has (ids s.bx) id = true) :
    Calls Try.prog 61 #[v, .string id, .int .i64 q, .bool well, .int .i64 round] w (NewV w T { s with bx := doB s.bx (Str.pos (ids s.bx) id) q well s.rt round } fun v' => .returned v') := by
  have hbi := rdoB_is (q := q) (well := well) (rt := s.rt) (round := round) hs.good.rb hh hs.up
  have hl := hs.lb
  have hok := hs.good.ok
  obtain ⟨rt, outs, bx, im⟩ := s
  obtain ⟨AO, AB, AI, cO, cB, cI, rfl, h1, h2, h3, t1, t2, t3⟩ := h
  dsimp only at *
  refine (rwdo_c rt AO AB AI outs.length cO bx.length cB im.length cI bx id q well round w (Ro.Row.sl h2) rfl (by omega) (fun p hp => (hok p hp).2.2.2)).mono ?_
  rintro e w' ⟨A', c', rfl, hR, hb, hf⟩
  rw [hbi] at hR ⊢
  exact ⟨_, rfl, ⟨AO, A', AI, cO, c', cI, rfl, Ro.Row.keep h1 fun b hk => hb.block b (Ro.Row.lt h1 hk), hR, Ro.Row.keep h3 fun b hk => hb.block b (Ro.Row.lt h3 hk), fun k hk => .inl (t1 k hk), fun k hk => .inr (hf k hk), fun k hk => .inl (t3 k hk)⟩, hb⟩
theorem rmayV {w : World} {T : Nat → Prop} {v : Value} {s : St} {k : Nat} {id : ByteArray} {q : Int} (h : RV w T v s) (hs : Fine k s) (hk : k ≤ 1000) :
    Calls Try.prog 59 #[v, .string id, .int .i64 q] w fun e w' => e = .returned (.int .i64 (errM s.bx id q)) ∧ Below w.heap.size w w' := by
  have hl := hs.lb
  have hr := hs.good.rb
  obtain ⟨rt, outs, bx, im⟩ := s
  obtain ⟨AO, AB, AI, cO, cB, cI, rfl, h1, h2, h3, t1, t2, t3⟩ := h
  dsimp only at *
  exact rmay_c rt _ _ AB bx.length cB bx id q w (Ro.Row.sl h2) hr rfl (by omega)
end Wo
end Go.Proofs.Ythccojfflmfggaa
/- The walk of the document's layer 16: ask. -/
namespace Go.Proofs.Ythccojfflmfggaa
open Go.RowKit
namespace Wo
section
variable {w w' w3 u : World} {T T' : Nat → Prop} {v : Value} {s : St}
theorem RV.shape (h : RV w T v s) : ∃ (rt : Int) (AO : Option Addr) (nO cO : Nat) (AB : Option Addr) (nB cB : Nat) (AI : Option Addr) (nI cI : Nat), v = .agg #[.int .i64 rt, .slice AO nO cO, .slice AB nB cB, .slice AI nI cI] := by
  obtain ⟨AO, AB, AI, cO, cB, cI, e, -⟩ := h
  exact ⟨_, _, _, _, _, _, _, _, _, _, e⟩
theorem RV.own {S : Nat → Prop} (h : RV w T v s) (ho : Ro.Only S w u) (hS : ∀ k, k < w.heap.size → T k → ¬ S k) : RV u T v s := h.keep fun k hk ht => ho.block k hk (hS k hk ht)
/-- what T names, of the blocks that are there -/
theorem RV.old (h : RV w T v s) : RV w (fun k => T k ∧ k < w.heap.size) v s := h.mono fun _k hk ht => ⟨ht, hk⟩
theorem fin_V {B : Nat} (hB : w.heap.size + 2 ≤ B) (hV : RV w3 (fun k => (T k ∧ k < w.heap.size) ∨ B ≤ k) v s) (hb : Below w.heap.size w w3) (hu : Ro.Only (fun k => k = w.heap.size ∨ k = w.heap.size + 1) w3 u) :
    RV u (fun k => T k ∨ w.heap.size ≤ k) v s ∧ Below w.heap.size w u := by
  refine ⟨(hV.own hu (fun k hk ht c => by omega)).mono fun k hk ht => ?_, hb.trans (hu.below hb.size (fun k hk e => by omega))⟩
  rcases ht with ht | ht
  · exact .inl ht.1
  · exact .inr (by omega)
theorem only4' (w : World) (g : Nat) (b c d e : Value) : Ro.Only (fun k => k = g ∨ k = g + 1) w ((((w.setCell ⟨g + 1, 0, none⟩ b).setCell ⟨g + 1, 1, none⟩ c).setCell ⟨g + 1, 2, none⟩ d).setCell ⟨g + 1, 3, none⟩ e) :=
  (only4 w (g + 1) b c d e).mono fun _ _ h => .inr h
end
set_option maxRecDepth 100000 in
set_option maxHeartbeats 4000000 in
theorem raskV {w : World} {T : Nat → Prop} {v : Value} {s : St} {k : Nat} {id : ByteArray} {q round : Int} (h : RV w T v s) (hs : Fine k s) (hk : k ≤ 1000) :
    Calls Try.prog 42 #[v, .string id, .int .i64 q, .int .i64 round] w fun e w' =>
      (askE s id q ≠ 0 → e = .returned (.tuple #[.bool false, v, .int .i64 (askE s id q)]) ∧ Below w.heap.size w w') ∧
      (askE s id q = 0 → NewV w T (askS s id q round) (fun v' => .returned (.tuple #[.bool (tk s.outs), v', .int .i64 0])) e w') := by
  obtain ⟨rt, AO, nO, cO, AB, nB, cB, AI, nI, cI, rfl⟩ := h.shape
  obtain ⟨L0, N3, N6⟩ := two_blocks w #[.int .i64 rt, .slice AO nO cO, .slice AB nB cB, .slice AI nI cI] #[.int .i64 0, .slice none 0 0, .slice none 0 0, .slice none 0 0] 64
  have N3 := Lib.hid N3
  have N6 := Lib.hid N6
  have hM := Lib.hid (fun (X : World) (hX : Below w.heap.size w X) => rmayV (q := q) (id := id) (h.below hX) hs hk)
  have hN := Lib.hid (fun (X : World) (hX : Below w.heap.size w X) => rnextV (h.old.below hX) (by have := hs.good.no; omega))
  have hD := Lib.hid (fun (X : World) (T' : Nat → Prop) (v' : Value) (hV : RV X T' v' { s with outs := s.outs.tail }) (hh : Str.has (ids s.bx) id = true) => rwdoV (q := q) (well := tk s.outs) (round := round) hV hs.next hk hh)
  have hv := errM_val s.bx id q
  by_cases h0 : errM s.bx id q = 0
  · obtain ⟨hh, -⟩ := errM_zero hs.good.rb h0
    rw [h0] at hM
    by_cases h1 : q = 1
    · have hE : askE s id q = 7 := by unfold askE; rw [if_pos h0, if_pos h1]
      rw [hE]
      subst h1
      clear hE h0 hv hs hk hh
      have HL := Lib.hid L0
      have hbl : ∀ u, Ro.Only (fun k => k = w.heap.size ∨ k = w.heap.size + 1) ((w.alloc (.cells #[.int .i64 rt, .slice AO nO cO, .slice AB nB cB, .slice AI nI cI] 64)).alloc (.cells #[.int .i64 0, .slice none 0 0, .slice none 0 0, .slice none 0 0] 64)) u → True := fun _ _ => trivial
      clear L0 hbl h hN hD
      go_enter Try.func42, Try.ntmps42
      go_wp2_with fail
      generalize ((w.alloc (.cells #[.int .i64 rt, .slice AO nO cO, .slice AB nB cB, .slice AI nI cI] 64)).alloc (.cells #[.int .i64 0, .slice none 0 0, .slice none 0 0, .slice none 0 0] 64)) = X at *
      refine (hM.out X HL.out).mono ?_
      rintro e w1 ⟨rfl, hb1⟩
      obtain ⟨q0, q1, q2, q3, f3⟩ := blk4 (N3.out.below hb1 N3.out.lt)
      obtain ⟨r0, r1, r2, r3, f6⟩ := blk4 (N6.out.below hb1 N6.out.lt)
      have HB := Lib.hid (HL.out.trans (hb1.mono HL.out.size))
      clear hM hb1 N3 N6 HL
      go_wp2_with fail
      go_region
      all_goals
        go_wp2_with fail
        refine bodyPost_ret (v := .tuple #[.bool false, .agg #[.int .i64 rt, .slice AO nO cO, .slice AB nB cB, .slice AI nI cI], .int .i64 7]) (by simp [results, Try.results42, go_sem, r0, r1, r2, r3]) rfl ⟨fun _ => ⟨rfl, ?_⟩, fun c => absurd c (by decide)⟩
        exact HB.out.trans (Ro.Only.below (only4' w1 w.heap.size _ _ _ _).drew HB.out.size (fun k hk e => by omega))
    · have hE : askE s id q = 0 := by unfold askE; rw [if_pos h0, if_neg h1]
      rw [hE, show askS s id q round = ⟨s.rt, s.outs.tail, doB s.bx (Str.pos (ids s.bx) id) q (tk s.outs) s.rt round, s.im⟩ from rfl]
      have h1' : (q == 1) = false := beq_eq_false_iff_ne.2 h1
      have HL := Lib.hid L0
      have HH := Lib.hid hh
      clear hE h0 hv hs hk hh h L0
      generalize tk s.outs = tkv at *
      go_enter Try.func42, Try.ntmps42
      go_wp2_with fail
      generalize ((w.alloc (.cells #[.int .i64 rt, .slice AO nO cO, .slice AB nB cB, .slice AI nI cI] 64)).alloc (.cells #[.int .i64 0, .slice none 0 0, .slice none 0 0, .slice none 0 0] 64)) = X at *
      refine (hM.out X HL.out).mono ?_
      rintro e w1 ⟨rfl, hb1⟩
      obtain ⟨q0, q1, q2, q3, f3⟩ := blk4 (N3.out.below hb1 N3.out.lt)
      have HB := Lib.hid (HL.out.trans (hb1.mono HL.out.size))
      have N6 := Lib.hid (N6.out.below hb1 N6.out.lt)
      clear hM hb1 N3 HL
      go_wp2_with fail
      refine (hN.out w1 HB.out).mono ?_
      rintro e w2 ⟨v2, rfl, hV, hb2⟩
      obtain ⟨rt2, AO2, nO2, cO2, AB2, nB2, cB2, AI2, nI2, cI2, rfl⟩ := hV.shape
      have HV := Lib.hid hV
      have l6 := N6.out.lt
      have N6 := Lib.hid (N6.out.below hb2 N6.out.lt)
      have HB2 := Lib.hid (HB.out.trans (hb2.mono HB.out.size))
      have z2 := hb2.size
      clear hN hV q0 q1 q2 q3 f3 hb2 HB
      go_wp2_with fail
      refine (hD.out _ _ _ (HV.out.below ((Below.refl _ _).alloc (Nat.le_refl _) _)) HH.out).mono ?_
      rintro e w3 ⟨v3, rfl, hV3, hb3⟩
      obtain ⟨rt3, AO3, nO3, cO3, AB3, nB3, cB3, AI3, nI3, cI3, rfl⟩ := hV3.shape
      have hb23 := ((Below.refl w2.heap.size w2).alloc (Nat.le_refl _) (.cells #[.int .i64 rt2, .slice AO2 nO2 cO2, .slice AB2 nB2 cB2, .slice AI2 nI2 cI2] 64)).trans (hb3.mono (by simp))
      obtain ⟨r0, r1, r2, r3, f6⟩ := blk4 (N6.out.below hb23 N6.out.lt)
      have HV3 := Lib.hid (hV3.mono (T' := fun k => (T k ∧ k < w.heap.size) ∨ w1.heap.size ≤ k) (fun k _ ht => by
        rcases ht with (ht | ht) | ht
        · exact .inl ht
        · exact .inr ht
        · simp at ht; exact .inr (by omega)))
      have HB3 := Lib.hid (HB2.out.trans (hb23.mono HB2.out.size))
      clear hD hV3 hb3 hb23 HV HB2 HH N6
      go_wp2_with fail
      obtain ⟨e1, e2⟩ := fin_V (by omega) HV3.out HB3.out (only4' w3 w.heap.size (.int .i64 rt3) (.slice AO3 nO3 cO3) (.slice AB3 nB3 cB3) (.slice AI3 nI3 cI3))
      refine bodyPost_ret (v := .tuple #[.bool tkv, .agg #[.int .i64 rt3, .slice AO3 nO3 cO3, .slice AB3 nB3 cB3, .slice AI3 nI3 cI3], .int .i64 0]) (by simp [results, Try.results42, go_sem, r0, r1, r2, r3]) rfl ⟨fun c => absurd rfl c, fun _ => ⟨_, rfl, e1, e2⟩⟩
  · have hE : askE s id q = errM s.bx id q := by unfold askE; rw [if_neg h0]
    rw [hE]
    generalize errM s.bx id q = E at *
    have h0' : (E == 0) = false := beq_eq_false_iff_ne.2 h0
    have h0n : (E != 0) = true := by simpa using h0
    have HE := Lib.hid h0
    clear hE h0 hv hs hk
    have HL := Lib.hid L0
    have hbl : ∀ u, Ro.Only (fun k => k = w.heap.size ∨ k = w.heap.size + 1) ((w.alloc (.cells #[.int .i64 rt, .slice AO nO cO, .slice AB nB cB, .slice AI nI cI] 64)).alloc (.cells #[.int .i64 0, .slice none 0 0, .slice none 0 0, .slice none 0 0] 64)) u → True := fun _ _ => trivial
    clear L0 hbl h hN hD
    go_enter Try.func42, Try.ntmps42
    go_wp2_with fail
    generalize ((w.alloc (.cells #[.int .i64 rt, .slice AO nO cO, .slice AB nB cB, .slice AI nI cI] 64)).alloc (.cells #[.int .i64 0, .slice none 0 0, .slice none 0 0, .slice none 0 0] 64)) = X at *
    refine (hM.out X HL.out).mono ?_
    rintro e w1 ⟨rfl, hb1⟩
    obtain ⟨q0, q1, q2, q3, f3⟩ := blk4 (N3.out.below hb1 N3.out.lt)
    obtain ⟨r0, r1, r2, r3, f6⟩ := blk4 (N6.out.below hb1 N6.out.lt)
    have HB := Lib.hid (HL.out.trans (hb1.mono HL.out.size))
    clear hM hb1 N3 N6 HL
    go_wp2_with fail
    go_region
    all_goals
      go_wp2_with fail
      refine bodyPost_ret (v := .tuple #[.bool false, .agg #[.int .i64 rt, .slice AO nO cO, .slice AB nB cB, .slice AI nI cI], .int .i64 E]) (by simp [results, Try.results42, go_sem, r0, r1, r2, r3]) rfl ⟨fun _ => ⟨rfl, ?_⟩, fun c => absurd c HE.out⟩
      exact HB.out.trans (Ro.Only.below (only4' w1 w.heap.size _ _ _ _).drew HB.out.size (fun k hk e => by omega))
end Wo
end Go.Proofs.Ythccojfflmfggaa
/- The walk of the document's layer 16: drop. -/
namespace Go.Proofs.Ythccojfflmfggaa
open Go.RowKit
namespace Wo
section
variable {w w' w3 u : World} {T T' TT : Nat → Prop} {v : Value} {s : St} {rt : Int} {AO AB AI A' : Option Addr} {nO cO nB cB nI cI n' c' : Nat}
theorem RV.parts (h : RV w T (.agg #[.int .i64 rt, .slice AO nO cO, .slice AB nB cB, .slice AI nI cI]) s) : (rt = s.rt ∧ nO = s.outs.length ∧ nB = s.bx.length ∧ nI = s.im.length) ∧ QRow w AO nO cO s.outs ∧ CRow w AB nB cB s.bx ∧ IRow w AI nI cI s.im ∧ (∀ k, Ro.blk AO = some k → T k) ∧ (∀ k, Ro.blk AB = some k → T k) ∧ (∀ k, Ro.blk AI = some k → T k) := by
  obtain ⟨AO', AB', AI', cO', cB', cI', e, h1, h2, h3, t1, t2, t3⟩ := h
  simp only [Value.agg.injEq, Array.mk.injEq, List.cons.injEq, Value.slice.injEq, Value.int.injEq, and_true, true_and] at e
  obtain ⟨rfl, ⟨rfl, rfl, rfl⟩, ⟨rfl, rfl, rfl⟩, rfl, rfl, rfl⟩ := e
  exact ⟨⟨rfl, rfl, rfl, rfl⟩, h1, h2, h3, t1, t2, t3⟩
theorem RV.setI {im' : List ImgV} (h : RV w T (.agg #[.int .i64 rt, .slice AO nO cO, .slice AB nB cB, .slice AI nI cI]) s) (hn : im'.length = n') (hR : IRow w A' n' c' im') (hA : ∀ k, Ro.blk A' = some k → T k) : RV w T (.agg #[.int .i64 rt, .slice AO nO cO, .slice AB nB cB, .slice A' n' c']) { s with im := im' } := by
  obtain ⟨⟨rfl, rfl, rfl, rfl⟩, h1, h2, h3, t1, t2, t3⟩ := h.parts
  subst hn
  exact ⟨AO, AB, A', cO, cB, c', rfl, h1, h2, hR, t1, t2, hA⟩
theorem fin_V2 {g2 : Nat} (hg : w.heap.size ≤ g2) (hV : RV w3 TT v s) (hT : ∀ k, TT k → k ≠ w.heap.size ∧ k ≠ w.heap.size + 1 ∧ k ≠ g2 ∧ (T k ∨ w.heap.size ≤ k)) (hb : Below w.heap.size w w3) (hu : Ro.Only (fun k => k = w.heap.size ∨ k = w.heap.size + 1 ∨ k = g2) w3 u) :
    RV u (fun k => T k ∨ w.heap.size ≤ k) v s ∧ Below w.heap.size w u := by
  refine ⟨(hV.own hu (fun k hk ht c => by have := hT k ht; omega)).mono fun k hk ht => (hT k ht).2.2.2, hb.trans (hu.below hb.size (fun k hk e => by omega))⟩
theorem only_one (w : World) (g g2 o : Nat) (a b c d e : Value) : Ro.Only (fun k => k = g ∨ k = g + 1 ∨ k = g2) w (((((w.setCell ⟨g2, o, none⟩ a).setCell ⟨g + 1, 0, none⟩ b).setCell ⟨g + 1, 1, none⟩ c).setCell ⟨g + 1, 2, none⟩ d).setCell ⟨g + 1, 3, none⟩ e) :=
  ((Ro.Only.setCell w ⟨g2, o, none⟩ a).mono (T := fun k => k = g ∨ k = g + 1 ∨ k = g2) (fun _ _ e => .inr (.inr e))).trans (only4 _ (g + 1) b c d e) (fun _ _ e => .inr (.inl e))
end
set_option maxRecDepth 100000 in
set_option maxHeartbeats 4000000 in
theorem rwdropV {w : World} {T : Nat → Prop} {v : Value} {s : St} {k : Nat} {name : ByteArray} (h : RV w T v s) (hs : Fine k s) (hk : k ≤ 1000) :
    Calls Try.prog 44 #[v, .string name] w fun e w' =>
      (Str.has (nms s.im) name = false → e = .returned (.tuple #[.bool false, v, .int .i64 4]) ∧ Below w.heap.size w w') ∧
      (Str.has (nms s.im) name = true → NewV w T (dropS s name) (fun v' => .returned (.tuple #[.bool (tk s.outs), v', .int .i64 0])) e w') := by
  obtain ⟨rt, AO, nO, cO, AB, nB, cB, AI, nI, cI, rfl⟩ := h.shape
  obtain ⟨L0, N3, N6⟩ := two_blocks w #[.int .i64 rt, .slice AO nO cO, .slice AB nB cB, .slice AI nI cI] #[.int .i64 0, .slice none 0 0, .slice none 0 0, .slice none 0 0] 64
  have N3 := Lib.hid N3
  have N6 := Lib.hid N6
  have hli := hs.li
  have hM := Lib.hid (fun (X : World) (hX : Below w.heap.size w X) => iplace_c AI nI cI w.heap.size s.im name X (h.parts.2.2.2.1.sl.below hX) hs.good.ri h.parts.1.2.2.2.symm (by have := h.parts.1.2.2.2; omega))
  have hN := Lib.hid (fun (X : World) (hX : Below w.heap.size w X) => rnextV (h.old.below hX) (by have := hs.good.no; omega))
  have HL := Lib.hid L0
  cases hh : Str.has (nms s.im) name
  · have e1 : plc (nms s.im) name = -1 := by unfold plc; rw [hh]; rfl
    rw [e1] at hM
    clear e1 L0 h hN hs hk hh hli
    go_enter Try.func44, Try.ntmps44
    go_wp2_with fail
    generalize ((w.alloc (.cells #[.int .i64 rt, .slice AO nO cO, .slice AB nB cB, .slice AI nI cI] 64)).alloc (.cells #[.int .i64 0, .slice none 0 0, .slice none 0 0, .slice none 0 0] 64)) = X at *
    refine (hM.out X HL.out).mono ?_
    rintro e w1 ⟨rfl, rfl⟩
    obtain ⟨q0, q1, q2, q3, f3⟩ := blk4 N3.out
    obtain ⟨r0, r1, r2, r3, f6⟩ := blk4 N6.out
    clear hM N3 N6
    go_wp2_with fail
    go_region
    all_goals
      go_wp2_with fail
      refine bodyPost_ret (v := .tuple #[.bool false, .agg #[.int .i64 rt, .slice AO nO cO, .slice AB nB cB, .slice AI nI cI], .int .i64 4]) (by simp [results, Try.results44, go_sem, r0, r1, r2, r3]) rfl ⟨fun _ => ⟨rfl, ?_⟩, fun c => (by cases c)⟩
      exact HL.out.trans (Ro.Only.below (only4' _ w.heap.size _ _ _ _).drew HL.out.size (fun k hk e => by omega))
  · have e1 : plc (nms s.im) name = (Str.pos (nms s.im) name : Int) := by unfold plc; rw [hh]; rfl
    rw [e1] at hM
    have hd := dropI_is (im := s.im) (s := name) hs.good.ri
    have hS : Hid (∀ b, tk s.outs = b → dropS s name = ⟨s.rt, s.outs.tail, s.bx, if b then dropI s.im name else s.im⟩) := by
      rintro _ rfl
      rfl
    have hD := Lib.hid (fun (X : World) (T' : Nat → Prop) (rt2 : Int) (AO2 AB2 AI2 : Option Addr) (nO2 cO2 nB2 cB2 nI2 cI2 : Nat) (hV : RV X T' (.agg #[.int .i64 rt2, .slice AO2 nO2 cO2, .slice AB2 nB2 cB2, .slice AI2 nI2 cI2]) ⟨s.rt, s.outs.tail, s.bx, s.im⟩) => rdrop_c AI2 nI2 cI2 s.im name X hV.parts.2.2.2.1.sl hV.parts.1.2.2.2.symm (by have := hV.parts.1.2.2.2; dsimp only at this; omega))
    rw [hd] at hD
    generalize Str.pos (nms s.im) name = P at *
    obtain ⟨tkv, htk⟩ : ∃ b, tk s.outs = b := ⟨_, rfl⟩
    have eS := hS.out tkv htk
    rw [htk] at hN ⊢
    rw [eS]
    clear e1 L0 h hs hk hh hS eS htk hd hli
    cases tkv
    · go_enter Try.func44, Try.ntmps44
      go_wp2_with fail
      generalize ((w.alloc (.cells #[.int .i64 rt, .slice AO nO cO, .slice AB nB cB, .slice AI nI cI] 64)).alloc (.cells #[.int .i64 0, .slice none 0 0, .slice none 0 0, .slice none 0 0] 64)) = X at *
      refine (hM.out X HL.out).mono ?_
      rintro e w1 ⟨rfl, rfl⟩
      obtain ⟨q0, q1, q2, q3, f3⟩ := blk4 N3.out
      have l6 := N6.out.lt
      clear hM N3
      go_wp2_with fail
      refine (hN.out _ HL.out).mono ?_
      rintro e w2 ⟨v2, rfl, hV, hb2⟩
      obtain ⟨rt2, AO2, nO2, cO2, AB2, nB2, cB2, AI2, nI2, cI2, rfl⟩ := hV.shape
      have HV := Lib.hid hV
      obtain ⟨r0, r1, r2, r3, f6⟩ := blk4 (N6.out.below hb2 N6.out.lt)
      have HB2 := Lib.hid (HL.out.trans (hb2.mono HL.out.size))
      have z2 := hb2.size
      have l7 : w.heap.size + 1 < w2.heap.size := Nat.lt_of_lt_of_le l6 z2
      clear hN hV hb2 HL hD q0 q1 q2 q3 f3 N6
      go_wp2_with fail
      go_region
      all_goals
        go_wp2_with fail
        obtain ⟨e1, e2⟩ := fin_V (by omega) HV.out HB2.out ((only4' w2 w.heap.size (.int .i64 rt2) (.slice AO2 nO2 cO2) (.slice AB2 nB2 cB2) (.slice AI2 nI2 cI2)).alloc _).drew
        refine bodyPost_ret (v := .tuple #[.bool false, .agg #[.int .i64 rt2, .slice AO2 nO2 cO2, .slice AB2 nB2 cB2, .slice AI2 nI2 cI2], .int .i64 0]) (by simp [results, Try.results44, go_sem, r0, r1, r2, r3, l7]) rfl (by first | exact ⟨_, rfl, e1, e2⟩ | exact ⟨fun c => (by cases c), fun _ => ⟨_, rfl, e1, e2⟩⟩ | exact fun _ => ⟨_, rfl, e1, e2⟩)
    · go_enter Try.func44, Try.ntmps44
      go_wp2_with fail
      generalize ((w.alloc (.cells #[.int .i64 rt, .slice AO nO cO, .slice AB nB cB, .slice AI nI cI] 64)).alloc (.cells #[.int .i64 0, .slice none 0 0, .slice none 0 0, .slice none 0 0] 64)) = X at *
      refine (hM.out X HL.out).mono ?_
      rintro e w1 ⟨rfl, rfl⟩
      obtain ⟨q0, q1, q2, q3, f3⟩ := blk4 N3.out
      have l6 := N6.out.lt
      clear hM N3
      go_wp2_with fail
      refine (hN.out _ HL.out).mono ?_
      rintro e w2 ⟨v2, rfl, hV, hb2⟩
      obtain ⟨rt2, AO2, nO2, cO2, AB2, nB2, cB2, AI2, nI2, cI2, rfl⟩ := hV.shape
      have hal : Below w2.heap.size w2 (w2.alloc (.cells #[.int .i64 rt2, .slice AO2 nO2 cO2, .slice AB2 nB2 cB2, .slice AI2 nI2 cI2] 64)) := (Below.refl _ _).alloc (Nat.le_refl _) _
      have HV := Lib.hid (hV.old.below hal)
      have N6 := Lib.hid (N6.out.below hb2 N6.out.lt)
      have HB2 := Lib.hid ((HL.out.trans (hb2.mono HL.out.size)).trans (hal.mono (by have := hb2.size; have := HL.out.size; omega)))
      have z2 := hb2.size
      have N8 := Lib.hid (Mem.Blk.new (w := w2) (t := 64) (cs := #[.int .i64 rt2, .slice AO2 nO2 cO2, .slice AB2 nB2 cB2, .slice AI2 nI2 cI2]))
      clear hN hV hb2 HL q0 q1 q2 q3 f3
      go_wp2_with fail
      refine (hD.out _ _ _ _ _ _ _ _ _ _ _ _ HV.out).mono ?_
      rintro e w3 ⟨A', c', rfl, hR, hb3, hA⟩
      have hz3 : w2.heap.size + 1 ≤ w3.heap.size := by have := hb3.size; simpa using this
      have l6' := N6.out.lt
      obtain ⟨r0, r1, r2, r3, f6⟩ := blk4 ((N6.out.below hal N6.out.lt).below hb3 (by have := N6.out.lt; simp; omega))
      obtain ⟨x0, x1, x2, x3, f8⟩ := blk4 (N8.out.below hb3 N8.out.lt)
      have HV3 := Lib.hid ((((HV.out.below hb3).mono (T' := fun k => (((T k ∧ k < w.heap.size) ∨ w1.heap.size ≤ k) ∧ k < w2.heap.size) ∨ w2.heap.size + 1 ≤ k) (fun k _ ht => .inl ht)).setI rfl hR (fun k hk => .inr (by have := hA k hk; simpa using this))))
      have HB3 := Lib.hid (HB2.out.trans (hb3.mono HB2.out.size))
      clear hD hR hb3 hA HV HB2 N6 N8 hal
      generalize (dropI s.im name).length = nn at *
      go_wp2_with fail
      go_region
      all_goals
        go_wp2_with fail
        obtain ⟨e1, e2⟩ := fin_V2 (g2 := w2.heap.size) (T := T) (by omega) HV3.out (fun k ht => by
          rcases ht with ⟨⟨h1, h2⟩ | h1, h3⟩ | h1
          · exact ⟨by omega, by omega, by omega, .inl h1⟩
          · exact ⟨by omega, by omega, by omega, .inr (by omega)⟩
          · exact ⟨by omega, by omega, by omega, .inr (by omega)⟩) HB3.out (only_one w3 w.heap.size w2.heap.size 3 (.slice A' nn c') (.int .i64 rt2) (.slice AO2 nO2 cO2) (.slice AB2 nB2 cB2) (.slice A' nn c')).drew
        refine bodyPost_ret (v := .tuple #[.bool true, .agg #[.int .i64 rt2, .slice AO2 nO2 cO2, .slice AB2 nB2 cB2, .slice A' nn c'], .int .i64 0]) (by simp [results, Try.results44, go_sem, r0, r1, r2, r3]) rfl (by first | exact ⟨_, rfl, e1, e2⟩ | exact ⟨fun c => (by cases c), fun _ => ⟨_, rfl, e1, e2⟩⟩ | exact fun _ => ⟨_, rfl, e1, e2⟩)
end Wo
end Go.Proofs.Ythccojfflmfggaa
