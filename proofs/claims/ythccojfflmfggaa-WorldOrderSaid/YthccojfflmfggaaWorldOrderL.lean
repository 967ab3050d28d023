/- WorldOrder: the plain law. -/
import Derived.Test.YthccojfflmfggaaWorldFull
namespace Go.Proofs.Ythccojfflmfggaa.worldOrder
open Go.RowKit Wo
def idN (i : Nat) : ByteArray := ⟨#[UInt8.ofNat (i / 100), UInt8.ofNat (i % 100)]⟩
theorem id_lt {j i : Nat} (h : j < i) (hi : i < 300) : Str.cmp (idN j) (idN i) < 0 := by
  have e1 : (UInt8.ofNat (j / 100)).toNat = j / 100 := by simp [UInt8.toNat_ofNat]; omega
  have e2 : (UInt8.ofNat (i / 100)).toNat = i / 100 := by simp [UInt8.toNat_ofNat]; omega
  have e3 : (UInt8.ofNat (j % 100)).toNat = j % 100 := by simp [UInt8.toNat_ofNat]; omega
  have e4 : (UInt8.ofNat (i % 100)).toNat = i % 100 := by simp [UInt8.toNat_ofNat]; omega
  show Lib.compareBytes [UInt8.ofNat (j / 100), UInt8.ofNat (j % 100)] [UInt8.ofNat (i / 100), UInt8.ofNat (i % 100)] < 0
  generalize UInt8.ofNat (j / 100) = a at *
  generalize UInt8.ofNat (j % 100) = b at *
  generalize UInt8.ofNat (i / 100) = c at *
  generalize UInt8.ofNat (i % 100) = d at *
  unfold Lib.compareBytes
  by_cases h1 : a < c
  · simp [h1]
  · have hac : a = c := by
      rw [UInt8.lt_iff_toNat_lt] at h1
      apply UInt8.toNat_inj.1
      omega
    subst hac
    have h2 : b < d := by rw [UInt8.lt_iff_toNat_lt]; omega
    simp [Lib.compareBytes, h2]
section
variable {l : List ByteArray} {s : ByteArray}
theorem pos_all (h : ∀ x ∈ l, Str.cmp x s < 0) : Str.pos l s = l.length := by
  induction l with
  | nil => rfl
  | cons x l ih =>
    rw [Str.pos_cons, if_pos (h x (by simp)), ih (fun y hy => h y (by simp [hy]))]
    rfl
theorem has_all (h : ∀ x ∈ l, Str.cmp x s < 0) : Str.has l s = false := Str.has_end (pos_all h)
theorem pos_snoc (h : ∀ x ∈ l, Str.cmp x s < 0) : Str.pos (l ++ [s]) s = l.length := by
  induction l with
  | nil => rw [List.nil_append, Str.pos_cons, Str.cmp_self]; rfl
  | cons x l ih =>
    rw [List.cons_append, Str.pos_cons, if_pos (h x (by simp)), ih (fun y hy => h y (by simp [hy]))]
    rfl
theorem has_snoc : Str.has (l ++ [s]) s = true := Str.has_iff.2 (by simp)
end
def cB (os : List Bool) (k : Nat) : ConV := ⟨idN k, if os.getD k true then 2 else 1, if os.getD k true then 0 else 1, if os.getD k true then k else 0⟩
def bxs (os : List Bool) (i : Nat) : List ConV := (List.range i).map (cB os)
def ims (os : List Bool) (i : Nat) : List ImgV := ((List.range i).filter fun k => os.getD k true).map fun k => ⟨idN k, 1, k⟩
def sO (os : List Bool) (i : Nat) : St := ⟨1, os.drop i, bxs os i, ims os i⟩
def sM (os : List Bool) (i : Nat) : St := ⟨1, os.drop i, bxs os i ++ [⟨idN i, 1, 0, 0⟩], ims os i⟩
variable {os : List Bool} {i : Nat}
theorem ids_b : ids (bxs os i) = (List.range i).map idN := by
  unfold ids bxs
  rw [List.map_map]
  rfl
theorem ids_m {x : ConV} (hx : x.id = idN i) : ids (bxs os i ++ [x]) = (List.range i).map idN ++ [idN i] := by
  rw [← ids_b (os := os)]
  unfold ids
  rw [List.map_append, List.map_cons, List.map_nil, hx]
theorem ids_below (hi : i < 300) : ∀ x ∈ (List.range i).map idN, Str.cmp x (idN i) < 0 := by
  intro x hx
  obtain ⟨j, hj, rfl⟩ := List.mem_map.1 hx
  exact id_lt (List.mem_range.1 hj) hi
theorem nms_below (hi : i < 300) : ∀ x ∈ nms (ims os i), Str.cmp x (idN i) < 0 := by
  intro x hx
  unfold nms ims at hx
  rw [List.map_map] at hx
  obtain ⟨j, hj, rfl⟩ := List.mem_map.1 hx
  exact id_lt (List.mem_range.1 (List.mem_filter.1 hj).1) hi
theorem len_b : (bxs os i).length = i := by simp [bxs]
theorem rises_ids (hi : i ≤ 300) : Str.Rises ((List.range i).map idN) := by
  refine List.pairwise_map.2 ?_
  refine List.pairwise_iff_getElem.2 fun a b ha hb hab => ?_
  simp only [List.getElem_range]
  exact id_lt hab (by simp at hb; omega)
theorem rises_nms (hi : i ≤ 300) : Str.Rises (nms (ims os i)) := by
  unfold nms ims
  rw [List.map_map]
  have h := (rises_ids hi)
  have h2 := List.pairwise_map.1 h
  exact List.pairwise_map.2 (h2.filter _)
theorem len_i : (ims os i).length ≤ i := by
  unfold ims
  rw [List.length_map]
  have := List.length_filter_le (fun k => os.getD k true) (List.range i)
  simpa using this
theorem ok_b : ∀ p ∈ bxs os i, Box.Ok (p.st, p.tr) := by
  intro p hp
  obtain ⟨k, _, rfl⟩ := List.mem_map.1 hp
  unfold cB
  dsimp only
  cases os.getD k true
  · show Box.Ok (1, 1)
    exact ⟨by decide, by decide, by decide, by decide⟩
  · show Box.Ok (2, 0)
    exact ⟨by decide, by decide, by decide, by decide⟩
theorem good_o (hi : i ≤ 300) (ho : os.length ≤ 4096) : Wo.Good (sO os i) where
  rb := by show Str.Rises (ids (bxs os i)); rw [ids_b]; exact rises_ids hi
  ri := rises_nms hi
  ok := ok_b
  nb := by show (bxs os i).length ≤ 100000; rw [len_b]; omega
  ni := by show (ims os i).length ≤ 100000; have := len_i (os := os) (i := i); omega
  no := by show (os.drop i).length ≤ 4096; simp; omega
theorem good_m (hi : i < 300) (ho : os.length ≤ 4096) : Wo.Good (sM os i) where
  rb := by
    show Str.Rises (ids (bxs os i ++ [⟨idN i, 1, 0, 0⟩]))
    rw [ids_m rfl]
    have := rises_ids (i := i + 1) (by omega)
    rwa [List.range_succ, List.map_append] at this
  ri := rises_nms (by omega)
  ok := by
    intro p hp
    rcases List.mem_append.1 hp with h | h
    · exact ok_b p h
    · obtain rfl : p = _ := by simpa using h
      exact ⟨by show (0 : Int) ≤ 1; decide, by show (1 : Int) ≤ 6; decide, by show (0 : Int) ≤ 0; decide, by show (0 : Int) ≤ 9223372036854775807; decide⟩
  nb := by show (bxs os i ++ [_]).length ≤ 100000; simp [len_b]; omega
  ni := by show (ims os i).length ≤ 100000; have := len_i (os := os) (i := i); omega
  no := by show (os.drop i).length ≤ 4096; simp; omega
theorem create_o (hi : i < 300) : Str.has (ids (sO os i).bx) (idN i) = false ∧ ({ sO os i with bx := insB (sO os i).bx (idN i) 0 } : St) = sM os i := by
  constructor
  · show Str.has (ids (bxs os i)) (idN i) = false
    rw [ids_b]
    exact has_all (ids_below hi)
  · unfold sM sO insB
    dsimp only
    rw [ids_b, pos_all (ids_below hi), List.length_map, List.length_range, List.take_of_length_le (l := bxs os i) (by rw [len_b]; exact Nat.le_refl _), List.drop_of_length_le (l := bxs os i) (by rw [len_b]; exact Nat.le_refl _)]
theorem tk_drop : tk (os.drop i) = os.getD i true := by
  rw [List.getD_eq_getElem?_getD]
  rcases Nat.lt_or_ge i os.length with h | h
  · rw [List.drop_eq_getElem_cons h, List.getElem?_eq_getElem h]
    rfl
  · rw [List.drop_of_length_le h, List.getElem?_eq_none h]
    rfl
theorem pull_o (hi : i < 300) : errM (sM os i).bx (idN i) 1 = 0 ∧ pullW (sM os i) (idN i) = os.getD i true ∧ Str.has (nms (sM os i).im) (idN i) = false ∧ pullS (sM os i) (idN i) (idN i) 1 i = sO os (i + 1) := by
  have hp : Str.pos (ids (bxs os i ++ [⟨idN i, 1, 0, 0⟩])) (idN i) = i := by
    rw [ids_m rfl, pos_snoc (ids_below hi), List.length_map, List.length_range]
  have hh : Str.has (ids (bxs os i ++ [⟨idN i, 1, 0, 0⟩])) (idN i) = true := by
    rw [ids_m rfl, has_snoc]
  have hg : (bxs os i ++ [(⟨idN i, 1, 0, 0⟩ : ConV)])[i]? = some ⟨idN i, 1, 0, 0⟩ := by
    rw [List.getElem?_append_right (by rw [len_b]; exact Nat.le_refl _), len_b, Nat.sub_self]
    rfl
  have hn : Str.has (nms (ims os i)) (idN i) = false := has_all (nms_below hi)
  have hw : pullW (sM os i) (idN i) = os.getD i true := by
    unfold pullW sM
    dsimp only
    rw [hn, if_neg (by decide), tk_drop]
  refine ⟨?_, hw, hn, ?_⟩
  · show errM (bxs os i ++ [⟨idN i, 1, 0, 0⟩]) (idN i) 1 = 0
    unfold errM the
    rw [hh, hp, if_pos rfl, hg]
    rfl
  · unfold pullS
    rw [hw]
    unfold sM sO
    dsimp only
    rw [hn, if_neg (by decide), hp]
    have e1 : (os.drop i).tail = os.drop (i + 1) := by rw [List.tail_drop]
    have e2 : doB (bxs os i ++ [⟨idN i, 1, 0, 0⟩]) i 1 (os.getD i true) 1 i = bxs os (i + 1) := by
      have e3 : doP ⟨idN i, 1, 0, 0⟩ 1 (os.getD i true) 1 i = cB os i := by
        unfold doP cB
        cases os.getD i true <;> rfl
      have e6 : ¬ (cB os i).st = 5 := by
        unfold cB
        dsimp only
        cases os.getD i true <;> simp
      unfold doB
      rw [hg]
      dsimp only
      rw [e3, if_neg e6, List.set_append_right _ _ (by rw [len_b]; exact Nat.le_refl _), len_b, Nat.sub_self]
      unfold bxs
      rw [List.range_succ, List.map_append]
      rfl
    have e4 : (if os.getD i true then putI (ims os i) (idN i) 1 i else ims os i) = ims os (i + 1) := by
      have e5 : ims os (i + 1) = ims os i ++ (if os.getD i true then [⟨idN i, 1, i⟩] else []) := by
        unfold ims
        rw [List.range_succ, List.filter_append, List.map_append, List.filter_cons]
        cases os.getD i true <;> rfl
      rw [e5]
      cases os.getD i true
      · rw [if_neg (by decide), if_neg (by decide), List.append_nil]
      · rw [if_pos rfl, if_pos rfl]
        unfold putI
        rw [hn, if_neg (by decide), pos_all (nms_below hi)]
        have hl : (nms (ims os i)).length = (ims os i).length := nms_len _
        rw [hl, List.take_length, List.drop_length]
    rw [e1, e2, e4]
end Go.Proofs.Ythccojfflmfggaa.worldOrder
