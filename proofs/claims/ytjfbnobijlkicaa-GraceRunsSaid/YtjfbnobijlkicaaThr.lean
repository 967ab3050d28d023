/- Words for bilge/api.Threshold: its parts; a slice of them; cells in memory. -/
import Derived.Test.YtjfbnobijlkicaaRows
import Derived.WalkKit
import Derived.Test.YtjfbnobijlkicaaMem
import Derived.Test.YtjfbnobijlkicaaFrame
namespace Go.Proofs.Ytjfbnobijlkicaa
open Go.RowKit
structure ThrV where
  sig : Int
  pct : Int
  amt : Int
  soft : Bool
  grace : Int
namespace ThrV
/-- a number that an int holds -/
def I64 (n : Int) : Prop := -9223372036854775808 ≤ n ∧ n ≤ 9223372036854775807
def arr (p : ThrV) : Array Value := #[.int .i64 p.sig, .int .i64 p.pct, .int .i64 p.amt, .bool p.soft, .int .i64 p.grace]
def cells (p : ThrV) : List Value := [.int .i64 p.sig, .int .i64 p.pct, .int .i64 p.amt, .bool p.soft, .int .i64 p.grace]
theorem arr_cells (p : ThrV) : p.arr.toList = p.cells := rfl
/-- its numbers are ints, its texts are texts -/
structure ok (p : ThrV) : Prop where
  sig : I64 p.sig
  pct : I64 p.pct
  amt : I64 p.amt
  grace : I64 p.grace
section
variable {W : World}
set_option maxRecDepth 100000 in
theorem of_dat {cs : List Value} (h : Frame.Dat Try.prog W 67 cs) : ∃ p : ThrV, cs = p.cells ∧ p.ok := by
  obtain ⟨hl, hf⟩ := h.struct Try.underlying67
  have cN : (Try.prog).cellsOf 67 = 5 := by kernel_rfl
  have c_bool : (Try.prog).cellsOf 4 = 1 := by kernel_rfl
  have c_int : (Try.prog).cellsOf 3 = 1 := by kernel_rfl
  rw [cN] at hl
  match cs, hl with
  | [a0, a1, a2, a3, a4], _ =>
    have f0 : Frame.Dat Try.prog W 3 [a0] := by simpa [c_int] using hf 0 _ rfl
    obtain ⟨x0, e0, b0⟩ := f0.int Try.underlying3
    have f1 : Frame.Dat Try.prog W 3 [a1] := by simpa [c_int] using hf 1 _ rfl
    obtain ⟨x1, e1, b1⟩ := f1.int Try.underlying3
    have f2 : Frame.Dat Try.prog W 3 [a2] := by simpa [c_int] using hf 2 _ rfl
    obtain ⟨x2, e2, b2⟩ := f2.int Try.underlying3
    have f3 : Frame.Dat Try.prog W 4 [a3] := by simpa [c_bool] using hf 3 _ rfl
    obtain ⟨x3, e3⟩ := f3.bool Try.underlying4
    have f4 : Frame.Dat Try.prog W 3 [a4] := by simpa [c_int] using hf 4 _ rfl
    obtain ⟨x4, e4, b4⟩ := f4.int Try.underlying3
    simp only [List.drop_zero, List.drop_succ_cons, List.take_succ_cons, List.take_zero, List.cons.injEq, and_true, Nat.zero_mul, Nat.one_mul] at e0 e1 e2 e3 e4
    subst e0 e1 e2 e3 e4
    exact ⟨⟨x0, x1, x2, x3, x4⟩, rfl, ⟨Frame.bd_i64 b0, Frame.bd_i64 b1, Frame.bd_i64 b2, Frame.bd_i64 b4⟩⟩
theorem of_arg {v : Value} (h : Frame.Arg Try.prog W 67 v) : ∃ p : ThrV, v = .agg p.arr ∧ p.ok := by
  obtain ⟨cs, rfl⟩ := h.agg Try.underlying67
  obtain ⟨p, e, hp⟩ := of_dat h.dat
  refine ⟨p, ?_, hp⟩
  congr 1
  exact Array.toList_inj.1 e
/-- their cells, one behind the other -/
def flat (ps : List ThrV) : List Value := (ps.map cells).flatten
theorem of_slice_dat {cs : List Value} (h : Frame.Dat Try.prog W 45 cs) :
    ∃ (A : Option Addr) (n c : Nat) (ps : List ThrV), cs = [.slice A n c] ∧ n ≤ c ∧ c ≤ maxLen ∧ ps.length = n ∧ (∀ p ∈ ps, p.ok) ∧ Mem.Sl W W.heap.size 5 A n (flat ps) := by
  obtain ⟨A, n, c, xss, hcs, h1, h2, h3, h4, h5, _⟩ := h.slice (size := 5) Try.underlying45 (by kernel_rfl) (by omega)
  have key : ∀ xss : List (List Value), (∀ xs ∈ xss, xs.length = 5 ∧ Frame.Dat Try.prog W 67 xs) → ∃ ps : List ThrV, ps.length = xss.length ∧ (∀ p ∈ ps, p.ok) ∧ xss = ps.map cells := by
    intro xss
    induction xss with
    | nil => intro _; exact ⟨[], rfl, by simp, rfl⟩
    | cons xs xss ih =>
      intro hx
      obtain ⟨ps, hb1, hb2, hb3⟩ := ih (fun y hy => hx y (by simp [hy]))
      obtain ⟨p, rfl, hp⟩ := of_dat (hx xs (by simp)).2
      exact ⟨p :: ps, by simp [hb1], by simpa using ⟨hp, hb2⟩, by simp [hb3]⟩
  obtain ⟨ps, hb1, hb2, hb3⟩ := key xss h4
  exact ⟨A, n, c, ps, hcs, h1, h2, by omega, hb2, by unfold flat; rw [← hb3]; exact h5⟩
theorem of_slice {v : Value} (h : Frame.Arg Try.prog W 45 v) :
    ∃ (A : Option Addr) (n c : Nat) (ps : List ThrV), v = .slice A n c ∧ n ≤ c ∧ c ≤ maxLen ∧ ps.length = n ∧ (∀ p ∈ ps, p.ok) ∧ Mem.Sl W W.heap.size 5 A n (flat ps) := by
  obtain ⟨A, n, c, rfl⟩ := h.one Try.underlying45
  obtain ⟨A', n', c', ps, hcs, h1⟩ := of_slice_dat h.dat
  simp [Value.cells] at hcs
  obtain ⟨rfl, rfl, rfl⟩ := hcs
  exact ⟨A, n, c, ps, rfl, h1⟩
end
theorem flat_len (ps : List ThrV) : (flat ps).length = ps.length * 5 := by
  unfold flat
  rw [Frame.flatten_len (size := 5) _ (by intro xs hx; obtain ⟨p, _, rfl⟩ := List.mem_map.1 hx; rfl)]
  simp
theorem flat_get (ps : List ThrV) (i j : Nat) (hi : i < ps.length) (hj : j < 5) : (flat ps)[i * 5 + j]? = (ps[i].cells)[j]? := by
  unfold flat
  exact Frame.flatten_get (size := 5) _ (by intro xs hx; obtain ⟨p, _, rfl⟩ := List.mem_map.1 hx; rfl) i j hj _ (by simp [hi])
theorem flat_one (ps : List ThrV) : ∀ u ∈ flat ps, u.oneCell' = true := by
  intro u hu
  unfold flat at hu
  obtain ⟨l, hl, hul⟩ := List.mem_flatten.1 hu
  obtain ⟨p, _, rfl⟩ := List.mem_map.1 hl
  simp only [cells, List.mem_cons, List.not_mem_nil, or_false] at hul
  rcases hul with rfl | rfl | rfl | rfl | rfl <;> rfl
/-- at an address lie the cells -/
structure At (w : World) (ad : Addr) (p : ThrV) : Prop where
  c0 : w.cell? ad = some (.int .i64 p.sig)
  c1 : w.cell? { block := ad.block, off := ad.off + 1 } = some (.int .i64 p.pct)
  c2 : w.cell? { block := ad.block, off := ad.off + 2 } = some (.int .i64 p.amt)
  c3 : w.cell? { block := ad.block, off := ad.off + 3 } = some (.bool p.soft)
  c4 : w.cell? { block := ad.block, off := ad.off + 4 } = some (.int .i64 p.grace)
theorem add_off (ad : Addr) (j : Nat) (h : j ≠ 0) : ad.add j = { block := ad.block, off := ad.off + j } := by unfold Addr.add; rw [if_neg h]
theorem at_ {w : World} {B n : Nat} {A : Option Addr} {ps : List ThrV} (h : Mem.Sl w B 5 A n (flat ps)) {k : Nat} (hk : k < n) :
    ∃ (ad : Addr) (hl : k < ps.length), A = some ad ∧ ad.block < B ∧ (ad.add (k * 5)).block < B ∧ At w (ad.add (k * 5)) ps[k] := by
  obtain ⟨ad, e, hb, hc⟩ := h.2 (by omega)
  have hn : ps.length * 5 = n * 5 := by rw [← flat_len]; exact h.1
  have hl : k < ps.length := by omega
  refine ⟨ad, hl, e, hb, by rw [Mem.add_block]; exact hb, ?_⟩
  have key : ∀ (j : Nat) (hj : j < 5), w.cell? ((ad.add (k * 5)).add j) = (ps[k].cells)[j]? := by
    intro j hj
    have hlt : k * 5 + j < (flat ps).length := by rw [flat_len]; omega
    rw [Mem.add_add, hc (k * 5 + j) hlt, ← flat_get ps k j hl hj]
    exact (List.getElem?_eq_getElem hlt).symm
  have k0 := key 0 (by decide)
  rw [show (ad.add (k * 5)).add 0 = ad.add (k * 5) from by simp [Addr.add]] at k0
  have kj : ∀ (j : Nat) (hj : j < 5) (h0 : j ≠ 0), w.cell? { block := (ad.add (k * 5)).block, off := (ad.add (k * 5)).off + j } = (ps[k].cells)[j]? := fun j hj h0 => by rw [← add_off _ _ h0]; exact key j hj
  exact ⟨k0, kj 1 (by decide) (by decide), kj 2 (by decide) (by decide), kj 3 (by decide) (by decide), kj 4 (by decide) (by decide)⟩
theorem At.below {w w' : World} {B : Nat} {ad : Addr} {p : ThrV} (h : At w ad p) (hb : Below B w w') (hg : ad.block < B) : At w' ad p :=
  ⟨(hb.cell (p := ad) hg).trans h.c0, (hb.cell (p := { block := ad.block, off := ad.off + 1 }) hg).trans h.c1, (hb.cell (p := { block := ad.block, off := ad.off + 2 }) hg).trans h.c2, (hb.cell (p := { block := ad.block, off := ad.off + 3 }) hg).trans h.c3, (hb.cell (p := { block := ad.block, off := ad.off + 4 }) hg).trans h.c4⟩
theorem At.drew {w : World} {ad : Addr} {p : ThrV} (h : At w ad p) : At w.drew ad p := ⟨h.c0, h.c1, h.c2, h.c3, h.c4⟩
/-- a block holds them -/
structure AtB (w : World) (g : Nat) (p : ThrV) : Prop where
  c0 : w.cell? ⟨g, 0, none⟩ = some (.int .i64 p.sig)
  c1 : w.cell? ⟨g, 1, none⟩ = some (.int .i64 p.pct)
  c2 : w.cell? ⟨g, 2, none⟩ = some (.int .i64 p.amt)
  c3 : w.cell? ⟨g, 3, none⟩ = some (.bool p.soft)
  c4 : w.cell? ⟨g, 4, none⟩ = some (.int .i64 p.grace)
theorem of_blk {w : World} {g : Nat} {t : TypeId} {p : ThrV} (h : Mem.Blk w g t p.arr) : AtB w g p :=
  ⟨h.cell 0, h.cell 1, h.cell 2, h.cell 3, h.cell 4⟩
theorem AtB.below {w w' : World} {g : Nat} {p : ThrV} (h : AtB w g p) (hb : Below w.heap.size w w') (hg : g < w.heap.size) : AtB w' g p :=
  ⟨(hb.cell (p := ⟨g, 0, none⟩) hg).trans h.c0, (hb.cell (p := ⟨g, 1, none⟩) hg).trans h.c1, (hb.cell (p := ⟨g, 2, none⟩) hg).trans h.c2, (hb.cell (p := ⟨g, 3, none⟩) hg).trans h.c3, (hb.cell (p := ⟨g, 4, none⟩) hg).trans h.c4⟩
theorem AtB.drew {w : World} {g : Nat} {p : ThrV} (h : AtB w g p) : AtB w.drew g p := ⟨h.c0, h.c1, h.c2, h.c3, h.c4⟩
end ThrV
end Go.Proofs.Ytjfbnobijlkicaa
