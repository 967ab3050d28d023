/- Words for bilge/api.Image: its parts; a slice of them; cells in memory. -/
import Derived.Test.YthccojfflmfggaaRows
import Derived.WalkKit
import Derived.Test.YthccojfflmfggaaMem
import Derived.Test.YthccojfflmfggaaFrame
namespace Go.Proofs.Ythccojfflmfggaa
open Go.RowKit
structure ImgV where
  name : ByteArray
  size : Int
  last : Int
namespace ImgV
/-- a number that an int holds -/
def I64 (n : Int) : Prop := -9223372036854775808 ≤ n ∧ n ≤ 9223372036854775807
def arr (p : ImgV) : Array Value := #[.string p.name, .int .i64 p.size, .int .i64 p.last]
def cells (p : ImgV) : List Value := [.string p.name, .int .i64 p.size, .int .i64 p.last]
theorem arr_cells (p : ImgV) : p.arr.toList = p.cells := rfl
/-- its numbers are ints, its texts are texts -/
structure ok (p : ImgV) : Prop where
  name : p.name.size ≤ maxLen
  size : I64 p.size
  last : I64 p.last
/-- their cells, one behind the other -/
def flat (ps : List ImgV) : List Value := (ps.map cells).flatten
theorem flat_app (ps qs : List ImgV) : flat (ps ++ qs) = flat ps ++ flat qs := by simp [flat]
theorem flat_cons (p : ImgV) (qs : List ImgV) : flat (p :: qs) = p.cells ++ flat qs := by simp [flat]
theorem flat_take (ps : List ImgV) (i : Nat) : (flat ps).take (i * 3) = flat (ps.take i) := by
  induction ps generalizing i with
  | nil => simp [flat]
  | cons p ps ih =>
    cases i with
    | zero => simp [flat]
    | succ i =>
      rw [flat_cons, List.take_succ_cons, flat_cons, ← ih i, List.take_append, List.take_of_length_le (show p.cells.length ≤ (i + 1) * 3 by simp [cells]; omega)]
      congr 2
      simp [cells]
      omega
theorem flat_drop (ps : List ImgV) (i : Nat) : (flat ps).drop (i * 3) = flat (ps.drop i) := by
  induction ps generalizing i with
  | nil => simp [flat]
  | cons p ps ih =>
    cases i with
    | zero => simp [flat]
    | succ i =>
      rw [flat_cons, List.drop_succ_cons, ← ih i, List.drop_append, List.drop_of_length_le (show p.cells.length ≤ (i + 1) * 3 by simp [cells]; omega)]
      simp only [List.nil_append]
      congr 1
      simp [cells]
      omega
theorem flat_len (ps : List ImgV) : (flat ps).length = ps.length * 3 := by
  unfold flat
  rw [Frame.flatten_len (size := 3) _ (by intro xs hx; obtain ⟨p, _, rfl⟩ := List.mem_map.1 hx; rfl)]
  simp
theorem flat_get (ps : List ImgV) (i j : Nat) (hi : i < ps.length) (hj : j < 3) : (flat ps)[i * 3 + j]? = (ps[i].cells)[j]? := by
  unfold flat
  exact Frame.flatten_get (size := 3) _ (by intro xs hx; obtain ⟨p, _, rfl⟩ := List.mem_map.1 hx; rfl) i j hj _ (by simp [hi])
theorem flat_one (ps : List ImgV) : ∀ u ∈ flat ps, u.oneCell' = true := by
  intro u hu
  unfold flat at hu
  obtain ⟨l, hl, hul⟩ := List.mem_flatten.1 hu
  obtain ⟨p, _, rfl⟩ := List.mem_map.1 hl
  simp only [cells, List.mem_cons, List.not_mem_nil, or_false] at hul
  rcases hul with rfl | rfl | rfl <;> rfl
/-- at an address lie the cells -/
structure At (w : World) (ad : Addr) (p : ImgV) : Prop where
  c0 : w.cell? ad = some (.string p.name)
  c1 : w.cell? { block := ad.block, off := ad.off + 1 } = some (.int .i64 p.size)
  c2 : w.cell? { block := ad.block, off := ad.off + 2 } = some (.int .i64 p.last)
theorem add_off (ad : Addr) (j : Nat) (h : j ≠ 0) : ad.add j = { block := ad.block, off := ad.off + j } := by unfold Addr.add; rw [if_neg h]
theorem at_ {w : World} {B n : Nat} {A : Option Addr} {ps : List ImgV} (h : Mem.Sl w B 3 A n (flat ps)) {k : Nat} (hk : k < n) :
    ∃ (ad : Addr) (hl : k < ps.length), A = some ad ∧ ad.block < B ∧ (ad.add (k * 3)).block < B ∧ At w (ad.add (k * 3)) ps[k] := by
  obtain ⟨ad, e, hb, hc⟩ := h.2 (by omega)
  have hn : ps.length * 3 = n * 3 := by rw [← flat_len]; exact h.1
  have hl : k < ps.length := by omega
  refine ⟨ad, hl, e, hb, by rw [Mem.add_block]; exact hb, ?_⟩
  have key : ∀ (j : Nat) (hj : j < 3), w.cell? ((ad.add (k * 3)).add j) = (ps[k].cells)[j]? := by
    intro j hj
    have hlt : k * 3 + j < (flat ps).length := by rw [flat_len]; omega
    rw [Mem.add_add, hc (k * 3 + j) hlt, ← flat_get ps k j hl hj]
    exact (List.getElem?_eq_getElem hlt).symm
  have k0 := key 0 (by decide)
  rw [show (ad.add (k * 3)).add 0 = ad.add (k * 3) from by simp [Addr.add]] at k0
  have kj : ∀ (j : Nat) (hj : j < 3) (h0 : j ≠ 0), w.cell? { block := (ad.add (k * 3)).block, off := (ad.add (k * 3)).off + j } = (ps[k].cells)[j]? := fun j hj h0 => by rw [← add_off _ _ h0]; exact key j hj
  exact ⟨k0, kj 1 (by decide) (by decide), kj 2 (by decide) (by decide)⟩
theorem At.below {w w' : World} {B : Nat} {ad : Addr} {p : ImgV} (h : At w ad p) (hb : Below B w w') (hg : ad.block < B) : At w' ad p :=
  ⟨(hb.cell (p := ad) hg).trans h.c0, (hb.cell (p := { block := ad.block, off := ad.off + 1 }) hg).trans h.c1, (hb.cell (p := { block := ad.block, off := ad.off + 2 }) hg).trans h.c2⟩
theorem At.drew {w : World} {ad : Addr} {p : ImgV} (h : At w ad p) : At w.drew ad p := ⟨h.c0, h.c1, h.c2⟩
/-- a block holds them -/
structure AtB (w : World) (g : Nat) (p : ImgV) : Prop where
  c0 : w.cell? ⟨g, 0, none⟩ = some (.string p.name)
  c1 : w.cell? ⟨g, 1, none⟩ = some (.int .i64 p.size)
  c2 : w.cell? ⟨g, 2, none⟩ = some (.int .i64 p.last)
theorem of_blk {w : World} {g : Nat} {t : TypeId} {p : ImgV} (h : Mem.Blk w g t p.arr) : AtB w g p :=
  ⟨h.cell 0, h.cell 1, h.cell 2⟩
theorem AtB.below {w w' : World} {g : Nat} {p : ImgV} (h : AtB w g p) (hb : Below w.heap.size w w') (hg : g < w.heap.size) : AtB w' g p :=
  ⟨(hb.cell (p := ⟨g, 0, none⟩) hg).trans h.c0, (hb.cell (p := ⟨g, 1, none⟩) hg).trans h.c1, (hb.cell (p := ⟨g, 2, none⟩) hg).trans h.c2⟩
theorem AtB.drew {w : World} {g : Nat} {p : ImgV} (h : AtB w g p) : AtB w.drew g p := ⟨h.c0, h.c1, h.c2⟩
end ImgV
end Go.Proofs.Ythccojfflmfggaa
