/- Words for pods: a pod as data; a slice of pods. -/
import Derived.Test.YtgdbpjaebdlnjaaRows
import Derived.WalkKit
import Derived.Test.YtgdbpjaebdlnjaaMem
import Derived.Test.YtgdbpjaebdlnjaaFrame
import Derived.ChangeKeysEq
import Derived.WalkLawsBesides
namespace Go.Proofs.Ytgdbpjaebdlnjaa
open Go.RowKit
/-- a pod's parts -/
structure PodV where
  id : ByteArray
  prio : Int
  crit : Bool
  r0 : Int
  r1 : Int
  r2 : Int
  l0 : Int
  l1 : Int
  l2 : Int
  img : ByteArray
  size : Int
/-- a number that an int holds -/
def I64 (n : Int) : Prop := -9223372036854775808 ≤ n ∧ n ≤ 9223372036854775807
namespace PodV
def arr (p : PodV) : Array Value := #[.string p.id, .int .i64 p.prio, .bool p.crit, .int .i64 p.r0, .int .i64 p.r1, .int .i64 p.r2, .int .i64 p.l0, .int .i64 p.l1, .int .i64 p.l2, .string p.img, .int .i64 p.size]
def cells (p : PodV) : List Value := [.string p.id, .int .i64 p.prio, .bool p.crit, .int .i64 p.r0, .int .i64 p.r1, .int .i64 p.r2, .int .i64 p.l0, .int .i64 p.l1, .int .i64 p.l2, .string p.img, .int .i64 p.size]
theorem arr_cells (p : PodV) : p.arr.toList = p.cells := rfl
/-- its numbers are ints, its texts are texts -/
structure ok (p : PodV) : Prop where
  prio : I64 p.prio
  r0 : I64 p.r0
  r1 : I64 p.r1
  r2 : I64 p.r2
  l0 : I64 p.l0
  l1 : I64 p.l1
  l2 : I64 p.l2
  size : I64 p.size
  id : p.id.size ≤ maxLen
  img : p.img.size ≤ maxLen
section
variable {W : World}
theorem of_dat {cs : List Value} (h : Frame.Dat Try.prog W 24 cs) : ∃ p : PodV, cs = p.cells ∧ p.ok := by
  obtain ⟨hl, hf⟩ := h.struct Try.underlying24
  have c11 : (Try.prog).cellsOf 24 = 11 := by kernel_rfl
  have cs1 : (Try.prog).cellsOf 9 = 1 := by kernel_rfl
  have ci1 : (Try.prog).cellsOf 3 = 1 := by kernel_rfl
  have cb1 : (Try.prog).cellsOf 4 = 1 := by kernel_rfl
  have ca3 : (Try.prog).cellsOf 22 = 3 := by kernel_rfl
  rw [c11] at hl
  match cs, hl with
  | [a0, a1, a2, a3, a4, a5, a6, a7, a8, a9, a10], _ =>
    have f0 : Frame.Dat Try.prog W 9 [a0] := by simpa [cs1] using hf 0 _ rfl
    have f1 : Frame.Dat Try.prog W 3 [a1] := by simpa [ci1] using hf 1 _ rfl
    have f2 : Frame.Dat Try.prog W 4 [a2] := by simpa [cb1] using hf 2 _ rfl
    have f3 : Frame.Dat Try.prog W 22 [a3, a4, a5] := by simpa [ca3] using hf 3 _ rfl
    have f4 : Frame.Dat Try.prog W 22 [a6, a7, a8] := by simpa [ca3] using hf 4 _ rfl
    have f5 : Frame.Dat Try.prog W 9 [a9] := by simpa [cs1] using hf 5 _ rfl
    have f6 : Frame.Dat Try.prog W 3 [a10] := by simpa [ci1] using hf 6 _ rfl
    obtain ⟨x0, e0, b0⟩ := f0.string Try.underlying9
    obtain ⟨x1, e1, b1⟩ := f1.int Try.underlying3
    obtain ⟨x2, e2⟩ := f2.bool Try.underlying4
    obtain ⟨_, g3⟩ := f3.array Try.underlying22
    obtain ⟨_, g4⟩ := f4.array Try.underlying22
    obtain ⟨x9, e9, b9⟩ := f5.string Try.underlying9
    obtain ⟨x10, e10, b10⟩ := f6.int Try.underlying3
    rw [ci1] at g3 g4
    obtain ⟨x3, e3, b3⟩ := (g3 0 (by decide)).int Try.underlying3
    obtain ⟨x4, e4, b4⟩ := (g3 1 (by decide)).int Try.underlying3
    obtain ⟨x5, e5, b5⟩ := (g3 2 (by decide)).int Try.underlying3
    obtain ⟨x6, e6, b6⟩ := (g4 0 (by decide)).int Try.underlying3
    obtain ⟨x7, e7, b7⟩ := (g4 1 (by decide)).int Try.underlying3
    obtain ⟨x8, e8, b8⟩ := (g4 2 (by decide)).int Try.underlying3
    simp only [List.drop_zero, List.drop_succ_cons, List.take_succ_cons, List.take_zero, List.cons.injEq, and_true, Nat.zero_mul, Nat.one_mul] at e0 e1 e2 e3 e4 e5 e6 e7 e8 e9 e10
    subst e0 e1 e2 e3 e4 e5 e6 e7 e8 e9 e10
    exact ⟨⟨x0, x1, x2, x3, x4, x5, x6, x7, x8, x9, x10⟩, rfl, ⟨Frame.bd_i64 b1, Frame.bd_i64 b3, Frame.bd_i64 b4, Frame.bd_i64 b5, Frame.bd_i64 b6, Frame.bd_i64 b7, Frame.bd_i64 b8, Frame.bd_i64 b10, b0, b9⟩⟩
theorem of_arg {v : Value} (h : Frame.Arg Try.prog W 24 v) : ∃ p : PodV, v = .agg p.arr ∧ p.ok := by
  obtain ⟨cs, rfl⟩ := h.agg Try.underlying24
  obtain ⟨p, e, hp⟩ := of_dat h.dat
  refine ⟨p, ?_, hp⟩
  congr 1
  exact Array.toList_inj.1 e
/-- the cells of pods, one behind the other -/
def flat (ps : List PodV) : List Value := (ps.map cells).flatten
theorem of_slice {v : Value} (h : Frame.Arg Try.prog W 33 v) :
    ∃ (A : Option Addr) (n c : Nat) (ps : List PodV), v = .slice A n c ∧ n ≤ c ∧ c ≤ maxLen ∧ ps.length = n ∧ (∀ p ∈ ps, p.ok) ∧ Mem.Sl W W.heap.size 11 A n (flat ps) := by
  obtain ⟨A, n, c, rfl⟩ := h.one Try.underlying33
  obtain ⟨A', n', c', xss, hcs, h1, h2, h3, h4, h5, _⟩ := h.dat.slice (size := 11) Try.underlying33 (by kernel_rfl) (by omega)
  simp [Value.cells] at hcs
  obtain ⟨rfl, rfl, rfl⟩ := hcs
  have key : ∀ xss : List (List Value), (∀ xs ∈ xss, xs.length = 11 ∧ Frame.Dat Try.prog W 24 xs) → ∃ ps : List PodV, ps.length = xss.length ∧ (∀ p ∈ ps, p.ok) ∧ xss = ps.map cells := by
    intro xss
    induction xss with
    | nil => intro _; exact ⟨[], rfl, by simp, rfl⟩
    | cons xs xss ih =>
      intro hx
      obtain ⟨ps, hb1, hb2, hb3⟩ := ih (fun y hy => hx y (by simp [hy]))
      obtain ⟨p, rfl, hp⟩ := of_dat (hx xs (by simp)).2
      exact ⟨p :: ps, by simp [hb1], by simpa using ⟨hp, hb2⟩, by simp [hb3]⟩
  obtain ⟨ps, hb1, hb2, hb3⟩ := key xss h4
  exact ⟨A, n, c, ps, rfl, h1, h2, by omega, hb2, by unfold flat; rw [← hb3]; exact h5⟩
end
theorem flat_len (ps : List PodV) : (flat ps).length = ps.length * 11 := by
  unfold flat
  rw [Frame.flatten_len (size := 11) _ (by intro xs hx; obtain ⟨p, _, rfl⟩ := List.mem_map.1 hx; rfl)]
  simp
/-- a cell of pod number i -/
theorem flat_get (ps : List PodV) (i j : Nat) (hi : i < ps.length) (hj : j < 11) : (flat ps)[i * 11 + j]? = (ps[i].cells)[j]? := by
  unfold flat
  exact Frame.flatten_get (size := 11) _ (by intro xs hx; obtain ⟨p, _, rfl⟩ := List.mem_map.1 hx; rfl) i j hj _ (by simp [hi])
/-- at an address lie a pod's cells -/
structure At (w : World) (ad : Addr) (p : PodV) : Prop where
  c0 : w.cell? ad = some (.string p.id)
  c1 : w.cell? { block := ad.block, off := ad.off + 1 } = some (.int .i64 p.prio)
  c2 : w.cell? { block := ad.block, off := ad.off + 2 } = some (.bool p.crit)
  c3 : w.cell? { block := ad.block, off := ad.off + 3 } = some (.int .i64 p.r0)
  c4 : w.cell? { block := ad.block, off := ad.off + 4 } = some (.int .i64 p.r1)
  c5 : w.cell? { block := ad.block, off := ad.off + 5 } = some (.int .i64 p.r2)
  c6 : w.cell? { block := ad.block, off := ad.off + 6 } = some (.int .i64 p.l0)
  c7 : w.cell? { block := ad.block, off := ad.off + 7 } = some (.int .i64 p.l1)
  c8 : w.cell? { block := ad.block, off := ad.off + 8 } = some (.int .i64 p.l2)
  c9 : w.cell? { block := ad.block, off := ad.off + 9 } = some (.string p.img)
  c10 : w.cell? { block := ad.block, off := ad.off + 10 } = some (.int .i64 p.size)
theorem add_off (ad : Addr) (j : Nat) (h : j ≠ 0) : ad.add j = { block := ad.block, off := ad.off + j } := by unfold Addr.add; rw [if_neg h]
theorem at_ {w : World} {B n : Nat} {A : Option Addr} {ps : List PodV} (h : Mem.Sl w B 11 A n (flat ps)) {k : Nat} (hk : k < n) :
    ∃ (ad : Addr) (hl : k < ps.length), A = some ad ∧ ad.block < B ∧ (ad.add (k * 11)).block < B ∧ At w (ad.add (k * 11)) ps[k] := by
  obtain ⟨ad, e, hb, hc⟩ := h.2 (by omega)
  have hn : ps.length * 11 = n * 11 := by rw [← flat_len]; exact h.1
  have hl : k < ps.length := by omega
  refine ⟨ad, hl, e, hb, by rw [Mem.add_block]; exact hb, ?_⟩
  have key : ∀ (j : Nat) (hj : j < 11), w.cell? ((ad.add (k * 11)).add j) = (ps[k].cells)[j]? := by
    intro j hj
    have hlt : k * 11 + j < (flat ps).length := by rw [flat_len]; omega
    rw [Mem.add_add, hc (k * 11 + j) hlt, ← flat_get ps k j hl hj]
    exact (List.getElem?_eq_getElem hlt).symm
  have k0 := key 0 (by decide)
  rw [show (ad.add (k * 11)).add 0 = ad.add (k * 11) from by simp [Addr.add]] at k0
  have kj : ∀ (j : Nat) (hj : j < 11) (h0 : j ≠ 0), w.cell? { block := (ad.add (k * 11)).block, off := (ad.add (k * 11)).off + j } = (ps[k].cells)[j]? := fun j hj h0 => by rw [← add_off _ _ h0]; exact key j hj
  exact ⟨k0, kj 1 (by decide) (by decide), kj 2 (by decide) (by decide), kj 3 (by decide) (by decide), kj 4 (by decide) (by decide), kj 5 (by decide) (by decide), kj 6 (by decide) (by decide), kj 7 (by decide) (by decide), kj 8 (by decide) (by decide), kj 9 (by decide) (by decide), kj 10 (by decide) (by decide)⟩
end PodV
/-! ### arrays compared -/
theorem run_eq3 (d : Nat) (a0 a1 a2 b0 b1 b2 : Int) (w : World) :
    (Op.equalIn (d + 2) 22 (.agg #[.int .i64 a0, .int .i64 a1, .int .i64 a2]) (.agg #[.int .i64 b0, .int .i64 b1, .int .i64 b2])).run Try.prog w = .ok (a0 == b0 && (a1 == b1 && (a2 == b2))) w := by
  obtain ⟨i, hi⟩ := Option.isSome_iff_exists.1 (show ((Try.prog).info? 3).isSome = true from by kernel_rfl)
  rw [run_equalIn_array w (d + 1) _ _ Try.underlying22 hi]
  have hc : (Try.prog).cellsOf 3 = 1 := by kernel_rfl
  rw [hc]
  have hr : List.range 3 = [0, 1, 2] := rfl
  rw [hr]
  simp only [Op.eqItems]
  go_simp
  by_cases h0 : a0 = b0 <;> by_cases h1 : a1 = b1 <;> by_cases h2 : a2 = b2 <;> simp [h0, h1, h2]
theorem run_eq4 (d : Nat) (a0 a1 a2 a3 b0 b1 b2 b3 : Int) (w : World) :
    (Op.equalIn (d + 2) 35 (.agg #[.int .i64 a0, .int .i64 a1, .int .i64 a2, .int .i64 a3]) (.agg #[.int .i64 b0, .int .i64 b1, .int .i64 b2, .int .i64 b3])).run Try.prog w = .ok (a0 == b0 && (a1 == b1 && (a2 == b2 && (a3 == b3)))) w := by
  obtain ⟨i, hi⟩ := Option.isSome_iff_exists.1 (show ((Try.prog).info? 3).isSome = true from by kernel_rfl)
  rw [run_equalIn_array w (d + 1) _ _ Try.underlying35 hi]
  have hc : (Try.prog).cellsOf 3 = 1 := by kernel_rfl
  rw [hc]
  have hr : List.range 4 = [0, 1, 2, 3] := rfl
  rw [hr]
  simp only [Op.eqItems]
  go_simp
  by_cases h0 : a0 = b0 <;> by_cases h1 : a1 = b1 <;> by_cases h2 : a2 = b2 <;> by_cases h3 : a3 = b3 <;> simp [h0, h1, h2, h3]
theorem eq3in (a0 a1 a2 b0 b1 b2 : Int) (w : World) :
    (Op.equalIn 9999 22 (.agg #[.int .i64 a0, .int .i64 a1, .int .i64 a2]) (.agg #[.int .i64 b0, .int .i64 b1, .int .i64 b2])).run Try.prog w = .ok (a0 == b0 && (a1 == b1 && a2 == b2)) w := run_eq3 9997 a0 a1 a2 b0 b1 b2 w
end Go.Proofs.Ytgdbpjaebdlnjaa
