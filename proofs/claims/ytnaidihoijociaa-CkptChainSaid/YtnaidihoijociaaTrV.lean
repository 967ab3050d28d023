/- Words for bilge/bilgelaw11.Try: its parts; a slice of them; cells in memory. -/
import Derived.Test.YtnaidihoijociaaRows
import Derived.WalkKit
import Derived.Test.YtnaidihoijociaaMem
import Derived.Test.YtnaidihoijociaaDatS
import Derived.Test.YtnaidihoijociaaDatS
import Derived.Test.YtnaidihoijociaaDatB
namespace Go.Proofs.Ytnaidihoijociaa
open Go.RowKit
structure TrV where
  body : List Crc.Byte
  bodyA : Option Addr
  bodyn : Nat
  bodyc : Nat
  steps : Int
  keep : List Int
  keepA : Option Addr
  keepn : Nat
  keepc : Nat
namespace TrV
/-- a number that an int holds -/
def I64 (n : Int) : Prop := -9223372036854775808 ≤ n ∧ n ≤ 9223372036854775807
def arr (p : TrV) : Array Value := #[.slice p.bodyA p.bodyn p.bodyc, .int .i64 p.steps, .slice p.keepA p.keepn p.keepc]
def cells (p : TrV) : List Value := [.slice p.bodyA p.bodyn p.bodyc, .int .i64 p.steps, .slice p.keepA p.keepn p.keepc]
theorem arr_cells (p : TrV) : p.arr.toList = p.cells := rfl
/-- its numbers are ints, its texts are texts, its slices have their lengths -/
structure ok (p : TrV) : Prop where
  body : p.bodyn ≤ p.bodyc ∧ p.bodyc ≤ maxLen ∧ p.body.length = p.bodyn ∧ ∀ a ∈ p.body, True
  steps : I64 p.steps
  keep : p.keepn ≤ p.keepc ∧ p.keepc ≤ maxLen ∧ p.keep.length = p.keepn ∧ ∀ a ∈ p.keep, I64 a
/-- what its slices hold lies in memory, below B -/
structure lies (w : World) (B : Nat) (p : TrV) : Prop where
  body : Mem.Sl w B 1 p.bodyA p.bodyn (p.body.map Bs.bv)
  keep : Mem.Sl w B 1 p.keepA p.keepn (p.keep.map (Value.int .i64))
theorem lies.below {w w' : World} {B : Nat} {p : TrV} (h : lies w B p) (hb : Below B w w') : lies w' B p := ⟨h.body.below hb, h.keep.below hb⟩
theorem lies.more {w : World} {B B' : Nat} {p : TrV} (h : lies w B p) (hb : B ≤ B') : lies w B' p := ⟨h.body.more hb, h.keep.more hb⟩
section
variable {W : World}
set_option maxRecDepth 100000 in
theorem of_dat {cs : List Value} (h : Frame.Dat Try.prog W 70 cs) : ∃ p : TrV, cs = p.cells ∧ p.ok ∧ lies W W.heap.size p := by
  obtain ⟨hl, hf⟩ := h.struct Try.underlying70
  have cN : (Try.prog).cellsOf 70 = 3 := by kernel_rfl
  have c_0 : (Try.prog).cellsOf 27 = 1 := by kernel_rfl
  have c_1 : (Try.prog).cellsOf 40 = 1 := by kernel_rfl
  have c_2 : (Try.prog).cellsOf 3 = 1 := by kernel_rfl
  rw [cN] at hl
  match cs, hl with
  | [a0, a1, a2], _ =>
    have f0 : Frame.Dat Try.prog W 27 [a0] := by simpa [c_0] using hf 0 _ rfl
    obtain ⟨A0, n0, c0, x0, e0, b0, b0', b0'', b0''', l0⟩ := f0.bytes Try.underlying27 Try.underlying5 (by kernel_rfl)
    have f1 : Frame.Dat Try.prog W 3 [a1] := by simpa [c_2] using hf 1 _ rfl
    obtain ⟨x1, e1, b1⟩ := f1.int Try.underlying3
    have f2 : Frame.Dat Try.prog W 40 [a2] := by simpa [c_1] using hf 2 _ rfl
    obtain ⟨A2, n2, c2, x2, e2, b2, b2', b2'', b2''', l2⟩ := f2.ints Try.underlying40 Try.underlying3 (by kernel_rfl)
    simp only [List.cons.injEq, and_true] at e0 e1 e2
    subst e0 e1 e2
    exact ⟨⟨x0, A0, n0, c0, x1, x2, A2, n2, c2⟩, rfl, ⟨⟨b0, b0', b0'', b0'''⟩, Frame.bd_i64 b1, ⟨b2, b2', b2'', fun a ha => Frame.bd_i64 (b2''' a ha)⟩⟩, ⟨l0, l2⟩⟩
theorem of_arg {v : Value} (h : Frame.Arg Try.prog W 70 v) : ∃ p : TrV, v = .agg p.arr ∧ p.ok ∧ lies W W.heap.size p := by
  obtain ⟨cs, rfl⟩ := h.agg Try.underlying70
  obtain ⟨p, e, hp⟩ := of_dat h.dat
  refine ⟨p, ?_, hp⟩
  congr 1
  exact Array.toList_inj.1 e
/-- their cells, one behind the other -/
def flat (ps : List TrV) : List Value := (ps.map cells).flatten
theorem of_slice_dat {cs : List Value} (h : Frame.Dat Try.prog W 68 cs) :
    ∃ (A : Option Addr) (n c : Nat) (ps : List TrV), cs = [.slice A n c] ∧ n ≤ c ∧ c ≤ maxLen ∧ ps.length = n ∧ (∀ p ∈ ps, p.ok ∧ lies W W.heap.size p) ∧ Mem.Sl W W.heap.size 3 A n (flat ps) := by
  obtain ⟨A, n, c, xss, hcs, h1, h2, h3, h4, h5, _⟩ := h.slice (size := 3) Try.underlying68 (by kernel_rfl) (by omega)
  have key : ∀ xss : List (List Value), (∀ xs ∈ xss, xs.length = 3 ∧ Frame.Dat Try.prog W 70 xs) → ∃ ps : List TrV, ps.length = xss.length ∧ (∀ p ∈ ps, p.ok ∧ lies W W.heap.size p) ∧ xss = ps.map cells := by
    intro xss
    induction xss with
    | nil => intro _; exact ⟨[], rfl, by simp, rfl⟩
    | cons xs xss ih =>
      intro hx
      obtain ⟨ps, hb1, hb2, hb3⟩ := ih (fun y hy => hx y (by simp [hy]))
      obtain ⟨p, rfl, hp⟩ := of_dat (hx xs (by simp)).2
      exact ⟨p :: ps, by simp [hb1], by simpa using ⟨hp, hb2⟩, by simp [hb3]⟩
  obtain ⟨ps, hb1, hb2, hb3⟩ := key xss h4
  exact ⟨A, n, c, ps, hcs, h1, h2, by omega, hb2, by unfold flat; rw [← hb3]; exact h5⟩
theorem of_slice {v : Value} (h : Frame.Arg Try.prog W 68 v) :
    ∃ (A : Option Addr) (n c : Nat) (ps : List TrV), v = .slice A n c ∧ n ≤ c ∧ c ≤ maxLen ∧ ps.length = n ∧ (∀ p ∈ ps, p.ok ∧ lies W W.heap.size p) ∧ Mem.Sl W W.heap.size 3 A n (flat ps) := by
  obtain ⟨A, n, c, rfl⟩ := h.one Try.underlying68
  obtain ⟨A', n', c', ps, hcs, h1⟩ := of_slice_dat h.dat
  simp [Value.cells] at hcs
  obtain ⟨rfl, rfl, rfl⟩ := hcs
  exact ⟨A, n, c, ps, rfl, h1⟩
end
theorem flat_app (ps qs : List TrV) : flat (ps ++ qs) = flat ps ++ flat qs := by simp [flat]
theorem flat_cons (p : TrV) (qs : List TrV) : flat (p :: qs) = p.cells ++ flat qs := by simp [flat]
theorem flat_take (ps : List TrV) (i : Nat) : (flat ps).take (i * 3) = flat (ps.take i) := by
  induction ps generalizing i with
  | nil => simp [flat]
  | cons p ps ih =>
    cases i with
    | zero => simp [flat]
    | succ i =>
      rw [flat_cons, List.take_succ_cons, flat_cons, ← ih i, List.take_append, List.take_of_length_le (show p.cells.length ≤ (i + 1) * 3 by simp [cells]; omega)]
      congr 2
      simp [cells]
      omega
theorem flat_drop (ps : List TrV) (i : Nat) : (flat ps).drop (i * 3) = flat (ps.drop i) := by
  induction ps generalizing i with
  | nil => simp [flat]
  | cons p ps ih =>
    cases i with
    | zero => simp [flat]
    | succ i =>
      rw [flat_cons, List.drop_succ_cons, ← ih i, List.drop_append, List.drop_of_length_le (show p.cells.length ≤ (i + 1) * 3 by simp [cells]; omega)]
      simp only [List.nil_append]
      congr 1
      simp [cells]
      omega
theorem flat_len (ps : List TrV) : (flat ps).length = ps.length * 3 := by
  unfold flat
  rw [Frame.flatten_len (size := 3) _ (by intro xs hx; obtain ⟨p, _, rfl⟩ := List.mem_map.1 hx; rfl)]
  simp
theorem flat_get (ps : List TrV) (i j : Nat) (hi : i < ps.length) (hj : j < 3) : (flat ps)[i * 3 + j]? = (ps[i].cells)[j]? := by
  unfold flat
  exact Frame.flatten_get (size := 3) _ (by intro xs hx; obtain ⟨p, _, rfl⟩ := List.mem_map.1 hx; rfl) i j hj _ (by simp [hi])
theorem flat_one (ps : List TrV) : ∀ u ∈ flat ps, u.oneCell' = true := by
  intro u hu
  unfold flat at hu
  obtain ⟨l, hl, hul⟩ := List.mem_flatten.1 hu
  obtain ⟨p, _, rfl⟩ := List.mem_map.1 hl
  simp only [cells, List.mem_cons, List.not_mem_nil, or_false] at hul
  rcases hul with rfl | rfl | rfl <;> rfl
/-- at an address lie the cells -/
structure At (w : World) (ad : Addr) (p : TrV) : Prop where
  c0 : w.cell? ad = some (.slice p.bodyA p.bodyn p.bodyc)
  c1 : w.cell? { block := ad.block, off := ad.off + 1 } = some (.int .i64 p.steps)
  c2 : w.cell? { block := ad.block, off := ad.off + 2 } = some (.slice p.keepA p.keepn p.keepc)
theorem add_off (ad : Addr) (j : Nat) (h : j ≠ 0) : ad.add j = { block := ad.block, off := ad.off + j } := by unfold Addr.add; rw [if_neg h]
theorem at_ {w : World} {B n : Nat} {A : Option Addr} {ps : List TrV} (h : Mem.Sl w B 3 A n (flat ps)) {k : Nat} (hk : k < n) :
    ∃ (ad : Addr) (hl : k < ps.length), A = some ad ∧ ad.block < B ∧ (ad.add (k * 3)).block < B ∧ At w (ad.add (k * 3)) ps[k] := by
  obtain ⟨ad, e, hb, hc⟩ := h.2 (by omega)
  have hn : ps.length * 3 = n * 3 := by rw [← flat_len]; exact h.1
  have hl : k < ps.length := by omega
  refine ⟨ad, hl, e, hb, by rw [Mem.add_block]; exact hb, ?_⟩
  have key : ∀ (j : Nat) (hj : j < 3), w.cell? ((ad.add (k * 3)).add j) = (ps[k].cells)[j]? := by
    intro j hj
    have hlt : k * 3 + j < (flat ps).length := by rw [flat_len]; omega
    rw [Mem.add_add, hc (k * 3 + j) hlt, ← flat_get ps k j hl hj]
    exact (List.getElem?_eq_getElem hlt).symm
  have k0 := key 0 (by decide)
  rw [show (ad.add (k * 3)).add 0 = ad.add (k * 3) from by simp [Addr.add]] at k0
  have kj : ∀ (j : Nat) (hj : j < 3) (h0 : j ≠ 0), w.cell? { block := (ad.add (k * 3)).block, off := (ad.add (k * 3)).off + j } = (ps[k].cells)[j]? := fun j hj h0 => by rw [← add_off _ _ h0]; exact key j hj
  exact ⟨k0, kj 1 (by decide) (by decide), kj 2 (by decide) (by decide)⟩
theorem At.below {w w' : World} {B : Nat} {ad : Addr} {p : TrV} (h : At w ad p) (hb : Below B w w') (hg : ad.block < B) : At w' ad p :=
  ⟨(hb.cell (p := ad) hg).trans h.c0, (hb.cell (p := { block := ad.block, off := ad.off + 1 }) hg).trans h.c1, (hb.cell (p := { block := ad.block, off := ad.off + 2 }) hg).trans h.c2⟩
theorem At.drew {w : World} {ad : Addr} {p : TrV} (h : At w ad p) : At w.drew ad p := ⟨h.c0, h.c1, h.c2⟩
/-- a block holds them -/
structure AtB (w : World) (g : Nat) (p : TrV) : Prop where
  c0 : w.cell? ⟨g, 0, none⟩ = some (.slice p.bodyA p.bodyn p.bodyc)
  c1 : w.cell? ⟨g, 1, none⟩ = some (.int .i64 p.steps)
  c2 : w.cell? ⟨g, 2, none⟩ = some (.slice p.keepA p.keepn p.keepc)
theorem of_blk {w : World} {g : Nat} {t : TypeId} {p : TrV} (h : Mem.Blk w g t p.arr) : AtB w g p :=
  ⟨h.cell 0, h.cell 1, h.cell 2⟩
theorem AtB.below {w w' : World} {g : Nat} {p : TrV} (h : AtB w g p) (hb : Below w.heap.size w w') (hg : g < w.heap.size) : AtB w' g p :=
  ⟨(hb.cell (p := ⟨g, 0, none⟩) hg).trans h.c0, (hb.cell (p := ⟨g, 1, none⟩) hg).trans h.c1, (hb.cell (p := ⟨g, 2, none⟩) hg).trans h.c2⟩
theorem AtB.drew {w : World} {g : Nat} {p : TrV} (h : AtB w g p) : AtB w.drew g p := ⟨h.c0, h.c1, h.c2⟩
end TrV
end Go.Proofs.Ytnaidihoijociaa
