/- Words for bilge/api.Op: its parts; a slice of them; cells in memory. -/
import Derived.Test.YtnaidihoijociaaRows
import Derived.WalkKit
import Derived.Test.YtnaidihoijociaaMem
import Derived.Test.YtnaidihoijociaaDatS
import Derived.Test.YtnaidihoijociaaDatB
namespace Go.Proofs.Ytnaidihoijociaa
open Go.RowKit
structure OpV where
  kind : Int
  name : ByteArray
  nto : ByteArray
  bytes : List Crc.Byte
  bytesA : Option Addr
  bytesn : Nat
  bytesc : Nat
namespace OpV
/-- a number that an int holds -/
def I64 (n : Int) : Prop := -9223372036854775808 ≤ n ∧ n ≤ 9223372036854775807
def arr (p : OpV) : Array Value := #[.int .i64 p.kind, .string p.name, .string p.nto, .slice p.bytesA p.bytesn p.bytesc]
def cells (p : OpV) : List Value := [.int .i64 p.kind, .string p.name, .string p.nto, .slice p.bytesA p.bytesn p.bytesc]
theorem arr_cells (p : OpV) : p.arr.toList = p.cells := rfl
/-- its numbers are ints, its texts are texts, its slices have their lengths -/
structure ok (p : OpV) : Prop where
  kind : I64 p.kind
  name : p.name.size ≤ maxLen
  nto : p.nto.size ≤ maxLen
  bytes : p.bytesn ≤ p.bytesc ∧ p.bytesc ≤ maxLen ∧ p.bytes.length = p.bytesn ∧ ∀ a ∈ p.bytes, True
/-- what its slices hold lies in memory, below B -/
structure lies (w : World) (B : Nat) (p : OpV) : Prop where
  bytes : Mem.Sl w B 1 p.bytesA p.bytesn (p.bytes.map Bs.bv)
theorem lies.below {w w' : World} {B : Nat} {p : OpV} (h : lies w B p) (hb : Below B w w') : lies w' B p := ⟨h.bytes.below hb⟩
theorem lies.more {w : World} {B B' : Nat} {p : OpV} (h : lies w B p) (hb : B ≤ B') : lies w B' p := ⟨h.bytes.more hb⟩
section
variable {W : World}
set_option maxRecDepth 100000 in
theorem of_dat {cs : List Value} (h : Frame.Dat Try.prog W 29 cs) : ∃ p : OpV, cs = p.cells ∧ p.ok ∧ lies W W.heap.size p := by
  obtain ⟨hl, hf⟩ := h.struct Try.underlying29
  have cN : (Try.prog).cellsOf 29 = 4 := by kernel_rfl
  have c_0 : (Try.prog).cellsOf 27 = 1 := by kernel_rfl
  have c_1 : (Try.prog).cellsOf 3 = 1 := by kernel_rfl
  have c_2 : (Try.prog).cellsOf 9 = 1 := by kernel_rfl
  rw [cN] at hl
  match cs, hl with
  | [a0, a1, a2, a3], _ =>
    have f0 : Frame.Dat Try.prog W 3 [a0] := by simpa [c_1] using hf 0 _ rfl
    obtain ⟨x0, e0, b0⟩ := f0.int Try.underlying3
    have f1 : Frame.Dat Try.prog W 9 [a1] := by simpa [c_2] using hf 1 _ rfl
    obtain ⟨x1, e1, b1⟩ := f1.string Try.underlying9
    have f2 : Frame.Dat Try.prog W 9 [a2] := by simpa [c_2] using hf 2 _ rfl
    obtain ⟨x2, e2, b2⟩ := f2.string Try.underlying9
    have f3 : Frame.Dat Try.prog W 27 [a3] := by simpa [c_0] using hf 3 _ rfl
    obtain ⟨A3, n3, c3, x3, e3, b3, b3', b3'', b3''', l3⟩ := f3.bytes Try.underlying27 Try.underlying5 (by kernel_rfl)
    simp only [List.cons.injEq, and_true] at e0 e1 e2 e3
    subst e0 e1 e2 e3
    exact ⟨⟨x0, x1, x2, x3, A3, n3, c3⟩, rfl, ⟨Frame.bd_i64 b0, b1, b2, ⟨b3, b3', b3'', b3'''⟩⟩, ⟨l3⟩⟩
theorem of_arg {v : Value} (h : Frame.Arg Try.prog W 29 v) : ∃ p : OpV, v = .agg p.arr ∧ p.ok ∧ lies W W.heap.size p := by
  obtain ⟨cs, rfl⟩ := h.agg Try.underlying29
  obtain ⟨p, e, hp⟩ := of_dat h.dat
  refine ⟨p, ?_, hp⟩
  congr 1
  exact Array.toList_inj.1 e
/-- their cells, one behind the other -/
def flat (ps : List OpV) : List Value := (ps.map cells).flatten
theorem of_slice_dat {cs : List Value} (h : Frame.Dat Try.prog W 22 cs) :
    ∃ (A : Option Addr) (n c : Nat) (ps : List OpV), cs = [.slice A n c] ∧ n ≤ c ∧ c ≤ maxLen ∧ ps.length = n ∧ (∀ p ∈ ps, p.ok ∧ lies W W.heap.size p) ∧ Mem.Sl W W.heap.size 4 A n (flat ps) := by
  obtain ⟨A, n, c, xss, hcs, h1, h2, h3, h4, h5, _⟩ := h.slice (size := 4) Try.underlying22 (by kernel_rfl) (by omega)
  have key : ∀ xss : List (List Value), (∀ xs ∈ xss, xs.length = 4 ∧ Frame.Dat Try.prog W 29 xs) → ∃ ps : List OpV, ps.length = xss.length ∧ (∀ p ∈ ps, p.ok ∧ lies W W.heap.size p) ∧ xss = ps.map cells := by
    intro xss
    induction xss with
    | nil => intro _; exact ⟨[], rfl, by simp, rfl⟩
    | cons xs xss ih =>
      intro hx
      obtain ⟨ps, hb1, hb2, hb3⟩ := ih (fun y hy => hx y (by simp [hy]))
      obtain ⟨p, rfl, hp⟩ := of_dat (hx xs (by simp)).2
      exact ⟨p :: ps, by simp [hb1], by simpa using ⟨hp, hb2⟩, by simp [hb3]⟩
  obtain ⟨ps, hb1, hb2, hb3⟩ := key xss h4
  exact ⟨A, n, c, ps, hcs, h1, h2, by omega, hb2, by unfold flat; rw [← hb3]; exact h5⟩
theorem of_slice {v : Value} (h : Frame.Arg Try.prog W 22 v) :
    ∃ (A : Option Addr) (n c : Nat) (ps : List OpV), v = .slice A n c ∧ n ≤ c ∧ c ≤ maxLen ∧ ps.length = n ∧ (∀ p ∈ ps, p.ok ∧ lies W W.heap.size p) ∧ Mem.Sl W W.heap.size 4 A n (flat ps) := by
  obtain ⟨A, n, c, rfl⟩ := h.one Try.underlying22
  obtain ⟨A', n', c', ps, hcs, h1⟩ := of_slice_dat h.dat
  simp [Value.cells] at hcs
  obtain ⟨rfl, rfl, rfl⟩ := hcs
  exact ⟨A, n, c, ps, rfl, h1⟩
end
theorem flat_app (ps qs : List OpV) : flat (ps ++ qs) = flat ps ++ flat qs := by simp [flat]
theorem flat_cons (p : OpV) (qs : List OpV) : flat (p :: qs) = p.cells ++ flat qs := by simp [flat]
theorem flat_take (ps : List OpV) (i : Nat) : (flat ps).take (i * 4) = flat (ps.take i) := by
  induction ps generalizing i with
  | nil => simp [flat]
  | cons p ps ih =>
    cases i with
    | zero => simp [flat]
    | succ i =>
      rw [flat_cons, List.take_succ_cons, flat_cons, ← ih i, List.take_append, List.take_of_length_le (show p.cells.length ≤ (i + 1) * 4 by simp [cells]; omega)]
      congr 2
      simp [cells]
      omega
theorem flat_drop (ps : List OpV) (i : Nat) : (flat ps).drop (i * 4) = flat (ps.drop i) := by
  induction ps generalizing i with
  | nil => simp [flat]
  | cons p ps ih =>
    cases i with
    | zero => simp [flat]
    | succ i =>
      rw [flat_cons, List.drop_succ_cons, ← ih i, List.drop_append, List.drop_of_length_le (show p.cells.length ≤ (i + 1) * 4 by simp [cells]; omega)]
      simp only [List.nil_append]
      congr 1
      simp [cells]
      omega
theorem flat_len (ps : List OpV) : (flat ps).length = ps.length * 4 := by
  unfold flat
  rw [Frame.flatten_len (size := 4) _ (by intro xs hx; obtain ⟨p, _, rfl⟩ := List.mem_map.1 hx; rfl)]
  simp
theorem flat_get (ps : List OpV) (i j : Nat) (hi : i < ps.length) (hj : j < 4) : (flat ps)[i * 4 + j]? = (ps[i].cells)[j]? := by
  unfold flat
  exact Frame.flatten_get (size := 4) _ (by intro xs hx; obtain ⟨p, _, rfl⟩ := List.mem_map.1 hx; rfl) i j hj _ (by simp [hi])
theorem flat_one (ps : List OpV) : ∀ u ∈ flat ps, u.oneCell' = true := by
  intro u hu
  unfold flat at hu
  obtain ⟨l, hl, hul⟩ := List.mem_flatten.1 hu
  obtain ⟨p, _, rfl⟩ := List.mem_map.1 hl
  simp only [cells, List.mem_cons, List.not_mem_nil, or_false] at hul
  rcases hul with rfl | rfl | rfl | rfl <;> rfl
/-- at an address lie the cells -/
structure At (w : World) (ad : Addr) (p : OpV) : Prop where
  c0 : w.cell? ad = some (.int .i64 p.kind)
  c1 : w.cell? { block := ad.block, off := ad.off + 1 } = some (.string p.name)
  c2 : w.cell? { block := ad.block, off := ad.off + 2 } = some (.string p.nto)
  c3 : w.cell? { block := ad.block, off := ad.off + 3 } = some (.slice p.bytesA p.bytesn p.bytesc)
theorem add_off (ad : Addr) (j : Nat) (h : j ≠ 0) : ad.add j = { block := ad.block, off := ad.off + j } := by unfold Addr.add; rw [if_neg h]
theorem at_ {w : World} {B n : Nat} {A : Option Addr} {ps : List OpV} (h : Mem.Sl w B 4 A n (flat ps)) {k : Nat} (hk : k < n) :
    ∃ (ad : Addr) (hl : k < ps.length), A = some ad ∧ ad.block < B ∧ (ad.add (k * 4)).block < B ∧ At w (ad.add (k * 4)) ps[k] := by
  obtain ⟨ad, e, hb, hc⟩ := h.2 (by omega)
  have hn : ps.length * 4 = n * 4 := by rw [← flat_len]; exact h.1
  have hl : k < ps.length := by omega
  refine ⟨ad, hl, e, hb, by rw [Mem.add_block]; exact hb, ?_⟩
  have key : ∀ (j : Nat) (hj : j < 4), w.cell? ((ad.add (k * 4)).add j) = (ps[k].cells)[j]? := by
    intro j hj
    have hlt : k * 4 + j < (flat ps).length := by rw [flat_len]; omega
    rw [Mem.add_add, hc (k * 4 + j) hlt, ← flat_get ps k j hl hj]
    exact (List.getElem?_eq_getElem hlt).symm
  have k0 := key 0 (by decide)
  rw [show (ad.add (k * 4)).add 0 = ad.add (k * 4) from by simp [Addr.add]] at k0
  have kj : ∀ (j : Nat) (hj : j < 4) (h0 : j ≠ 0), w.cell? { block := (ad.add (k * 4)).block, off := (ad.add (k * 4)).off + j } = (ps[k].cells)[j]? := fun j hj h0 => by rw [← add_off _ _ h0]; exact key j hj
  exact ⟨k0, kj 1 (by decide) (by decide), kj 2 (by decide) (by decide), kj 3 (by decide) (by decide)⟩
theorem At.below {w w' : World} {B : Nat} {ad : Addr} {p : OpV} (h : At w ad p) (hb : Below B w w') (hg : ad.block < B) : At w' ad p :=
  ⟨(hb.cell (p := ad) hg).trans h.c0, (hb.cell (p := { block := ad.block, off := ad.off + 1 }) hg).trans h.c1, (hb.cell (p := { block := ad.block, off := ad.off + 2 }) hg).trans h.c2, (hb.cell (p := { block := ad.block, off := ad.off + 3 }) hg).trans h.c3⟩
theorem At.drew {w : World} {ad : Addr} {p : OpV} (h : At w ad p) : At w.drew ad p := ⟨h.c0, h.c1, h.c2, h.c3⟩
/-- a block holds them -/
structure AtB (w : World) (g : Nat) (p : OpV) : Prop where
  c0 : w.cell? ⟨g, 0, none⟩ = some (.int .i64 p.kind)
  c1 : w.cell? ⟨g, 1, none⟩ = some (.string p.name)
  c2 : w.cell? ⟨g, 2, none⟩ = some (.string p.nto)
  c3 : w.cell? ⟨g, 3, none⟩ = some (.slice p.bytesA p.bytesn p.bytesc)
theorem of_blk {w : World} {g : Nat} {t : TypeId} {p : OpV} (h : Mem.Blk w g t p.arr) : AtB w g p :=
  ⟨h.cell 0, h.cell 1, h.cell 2, h.cell 3⟩
theorem AtB.below {w w' : World} {g : Nat} {p : OpV} (h : AtB w g p) (hb : Below w.heap.size w w') (hg : g < w.heap.size) : AtB w' g p :=
  ⟨(hb.cell (p := ⟨g, 0, none⟩) hg).trans h.c0, (hb.cell (p := ⟨g, 1, none⟩) hg).trans h.c1, (hb.cell (p := ⟨g, 2, none⟩) hg).trans h.c2, (hb.cell (p := ⟨g, 3, none⟩) hg).trans h.c3⟩
theorem AtB.drew {w : World} {g : Nat} {p : OpV} (h : AtB w g p) : AtB w.drew g p := ⟨h.c0, h.c1, h.c2, h.c3⟩
end OpV
end Go.Proofs.Ytnaidihoijociaa
