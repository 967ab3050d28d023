/- The plain law of layer 18 (grace): thresholds, configs; rows of the call's own, filled place by place. -/
import Derived.Test.YtjfbnobijlkicaaThr
import Derived.Test.YtjfbnobijlkicaaWideD
import Derived.Laws.OwnMore
import Derived.Laws.MakeOwn
namespace Go.Proofs.Ytjfbnobijlkicaa
open Go.RowKit
namespace Grc
/-- one of three -/
def pick3 (x0 x1 x2 s : Int) : Int := if s = 0 then x0 else if s = 1 then x1 else x2
def metT (t : ThrV) (cap av : Int) : Bool := if 0 < t.pct then Wide.below av cap t.pct else decide (av < t.amt)
def edgeT (t : ThrV) (cap : Int) : Int := if 0 < t.pct then Wide.share cap t.pct else t.amt
/-- a right threshold -/
structure RightT (t : ThrV) : Prop where
  s0 : 0 ≤ t.sig
  s2 : t.sig ≤ 2
  p0 : 0 ≤ t.pct
  p1 : t.pct ≤ 100
  a0 : 0 ≤ t.amt
  one : (t.pct = 0 ∧ 0 < t.amt) ∨ (0 < t.pct ∧ t.amt = 0)
  g0 : 0 ≤ t.grace
  g1 : t.grace ≤ 1000
  soft : t.soft = true → 1 ≤ t.grace
  hard : t.soft = false → t.grace = 0
end Grc
/-- a config's parts; its thresholds lie behind A -/
structure CfgV where
  c0 : Int
  c1 : Int
  c2 : Int
  a0 : Int
  a1 : Int
  a2 : Int
  A : Option Addr
  n : Nat
  c : Nat
  per : Int
  ret : Int
  age : Int
  dead : Int
namespace CfgV
def arr (p : CfgV) : Array Value := #[.int .i64 p.c0, .int .i64 p.c1, .int .i64 p.c2, .int .i64 p.a0, .int .i64 p.a1, .int .i64 p.a2, .slice p.A p.n p.c, .int .i64 p.per, .int .i64 p.ret, .int .i64 p.age, .int .i64 p.dead]
/-- its numbers are ints; the thresholds -/
structure ok (W : World) (B : Nat) (p : CfgV) (ths : List ThrV) : Prop where
  c0 : ThrV.I64 p.c0
  c1 : ThrV.I64 p.c1
  c2 : ThrV.I64 p.c2
  a0 : ThrV.I64 p.a0
  a1 : ThrV.I64 p.a1
  a2 : ThrV.I64 p.a2
  per : ThrV.I64 p.per
  ret : ThrV.I64 p.ret
  age : ThrV.I64 p.age
  dead : ThrV.I64 p.dead
  nc : p.n ≤ p.c
  cm : p.c ≤ maxLen
  len : ths.length = p.n
  each : ∀ t ∈ ths, t.ok
  sl : Mem.Sl W B 5 p.A p.n (ThrV.flat ths)
set_option maxRecDepth 100000 in
theorem of_arg {W : World} {v : Value} (h : Frame.Arg Try.prog W 47 v) : ∃ (p : CfgV) (ths : List ThrV), v = .agg p.arr ∧ p.ok W W.heap.size ths := by
  obtain ⟨vs, rfl⟩ := h.agg Try.underlying47
  obtain ⟨hl, hf⟩ := h.dat.struct Try.underlying47
  have cN : (Try.prog).cellsOf 47 = 11 := by kernel_rfl
  have c_int : (Try.prog).cellsOf 3 = 1 := by kernel_rfl
  have c_int3 : (Try.prog).cellsOf 44 = 3 := by kernel_rfl
  have c_sl : (Try.prog).cellsOf 45 = 1 := by kernel_rfl
  rw [cN] at hl
  have hvs : (Value.agg vs).cells.toList = vs.toList := rfl
  rw [hvs] at hl hf
  obtain ⟨cs, hcs⟩ : ∃ cs, cs = vs.toList := ⟨_, rfl⟩
  rw [← hcs] at hl hf
  match cs, hl with
  | [x0, x1, x2, x3, x4, x5, x6, x7, x8, x9, x10], _ =>
    have f0 : Frame.Dat Try.prog W 44 [x0, x1, x2] := by simpa [c_int3] using hf 0 _ rfl
    have f1 : Frame.Dat Try.prog W 44 [x3, x4, x5] := by simpa [c_int3] using hf 1 _ rfl
    have f2 : Frame.Dat Try.prog W 45 [x6] := by simpa [c_sl] using hf 2 _ rfl
    have f3 : Frame.Dat Try.prog W 3 [x7] := by simpa [c_int] using hf 3 _ rfl
    have f4 : Frame.Dat Try.prog W 3 [x8] := by simpa [c_int] using hf 4 _ rfl
    have f5 : Frame.Dat Try.prog W 3 [x9] := by simpa [c_int] using hf 5 _ rfl
    have f6 : Frame.Dat Try.prog W 3 [x10] := by simpa [c_int] using hf 6 _ rfl
    obtain ⟨_, g0⟩ := f0.array Try.underlying44
    obtain ⟨_, g1⟩ := f1.array Try.underlying44
    rw [c_int] at g0 g1
    obtain ⟨y0, e0, b0⟩ := (g0 0 (by decide)).int Try.underlying3
    obtain ⟨y1, e1, b1⟩ := (g0 1 (by decide)).int Try.underlying3
    obtain ⟨y2, e2, b2⟩ := (g0 2 (by decide)).int Try.underlying3
    obtain ⟨y3, e3, b3⟩ := (g1 0 (by decide)).int Try.underlying3
    obtain ⟨y4, e4, b4⟩ := (g1 1 (by decide)).int Try.underlying3
    obtain ⟨y5, e5, b5⟩ := (g1 2 (by decide)).int Try.underlying3
    obtain ⟨A, n, c, ths, e6, h1, h2, h3, h4, h5⟩ := ThrV.of_slice_dat f2
    obtain ⟨y7, e7, b7⟩ := f3.int Try.underlying3
    obtain ⟨y8, e8, b8⟩ := f4.int Try.underlying3
    obtain ⟨y9, e9, b9⟩ := f5.int Try.underlying3
    obtain ⟨y10, e10, b10⟩ := f6.int Try.underlying3
    simp only [List.drop_zero, List.drop_succ_cons, List.take_succ_cons, List.take_zero, List.cons.injEq, and_true, Nat.zero_mul, Nat.one_mul] at e0 e1 e2 e3 e4 e5 e6 e7 e8 e9 e10
    subst e0 e1 e2 e3 e4 e5 e6 e7 e8 e9 e10
    refine ⟨⟨y0, y1, y2, y3, y4, y5, A, n, c, y7, y8, y9, y10⟩, ths, ?_, ⟨Frame.bd_i64 b0, Frame.bd_i64 b1, Frame.bd_i64 b2, Frame.bd_i64 b3, Frame.bd_i64 b4, Frame.bd_i64 b5, Frame.bd_i64 b7, Frame.bd_i64 b8, Frame.bd_i64 b9, Frame.bd_i64 b10, h1, h2, h3, h4, h5⟩⟩
    congr 1
    exact Array.toList_inj.1 hcs.symm
theorem ok.below {W W' : World} {B : Nat} {p : CfgV} {ths : List ThrV} (h : p.ok W B ths) (hb : Below B W W') : p.ok W' B ths :=
  ⟨h.c0, h.c1, h.c2, h.a0, h.a1, h.a2, h.per, h.ret, h.age, h.dead, h.nc, h.cm, h.len, h.each, h.sl.below hb⟩
theorem ok.more {W : World} {B B' : Nat} {p : CfgV} {ths : List ThrV} (h : p.ok W B ths) (hb : B ≤ B') : p.ok W B' ths :=
  ⟨h.c0, h.c1, h.c2, h.a0, h.a1, h.a2, h.per, h.ret, h.age, h.dead, h.nc, h.cm, h.len, h.each, h.sl.more hb⟩
end CfgV
namespace Grc
/-- a right config -/
structure RightC (p : CfgV) (ths : List ThrV) : Prop where
  c0 : 1 ≤ p.c0
  c1 : 1 ≤ p.c1
  c2 : 1 ≤ p.c2
  n : p.n ≤ 12
  each : ∀ t ∈ ths, RightT t
/-! ### rows of the call's own, filled place by place -/
/-- the first k of l, then z -/
def part (l : List Value) (z : Value) (k : Nat) : List Value := l.take k ++ List.replicate (l.length - k) z
theorem part_zero (l : List Value) (z : Value) : part l z 0 = List.replicate l.length z := by simp [part]
theorem part_all (l : List Value) (z : Value) : part l z l.length = l := by simp [part]
theorem part_len (l : List Value) (z : Value) (k : Nat) (h : k ≤ l.length) : (part l z k).length = l.length := by simp [part]; omega
theorem part_set (l : List Value) (z : Value) (k : Nat) (h : k < l.length) : (part l z k).set k l[k] = part l z (k + 1) := by
  apply List.ext_getElem
  · simp [part]; omega
  · intro i h1 h2
    simp only [part, List.getElem_set, List.getElem_append, List.length_take]
    by_cases hk : k = i
    · subst hk
      have : k < min (k + 1) l.length := by omega
      simp [this]
    · rw [if_neg hk]
      by_cases hi : i < k
      · have e1 : i < min k l.length := by omega
        have e2 : i < min (k + 1) l.length := by omega
        simp [e1, e2]
      · have e1 : ¬ i < min k l.length := by omega
        have e2 : ¬ i < min (k + 1) l.length := by omega
        simp [e1, e2]
section
variable {w : World} {B n c k : Nat} {e : TypeId} {A : Option Addr} {xs : List Value}
theorem own_at (h : w.ownsRow B e 1 (.slice A n c) n xs) (hk : k < n) :
    ∃ (g : Nat) (hl : k < xs.length), A = some ⟨g, 0, none⟩ ∧ B ≤ g ∧ g < w.heap.size ∧ w.cell? ⟨g, k, none⟩ = some xs[k] ∧ w.frozen? ⟨g, k, none⟩ = false ∧
      ∀ y : Value, (w.setCell ⟨g, k, none⟩ y).ownsRow B e 1 (.slice A n c) n (xs.set k y) := by
  have hl : k < xs.length := by have := h.1; simp at this; omega
  rcases h.2 with ⟨_, h0⟩ | ⟨g, cap, cur, hv, hg, hh, _⟩
  · omega
  · simp only [Value.slice.injEq, true_and] at hv
    obtain ⟨rfl, rfl⟩ := hv
    refine ⟨g, hl, rfl, hg, (Array.getElem?_eq_some_iff.1 hh).1, ?_, World.ownsRow.frozenAt h k, fun y => ?_⟩
    · rw [World.ownsRow.cellAt h k (by omega)]
      simp [hl]
    · exact (World.ownsRow.stored h k y).1
theorem own_le (h : w.ownsRow B e 1 (.slice A n c) n xs) : n ≤ c ∧ c ≤ maxLen := by
  obtain ⟨A', c', e, _, _, h1, h2⟩ := Mem.own_form h
  obtain ⟨rfl, _, rfl⟩ : A = A' ∧ n = n ∧ c = c' := by simpa using e
  exact ⟨h1, h2⟩
theorem own_sl (h : w.ownsRow B e 1 (.slice A n c) n xs) : Mem.Sl w w.heap.size 1 A n xs := by
  obtain ⟨A', c', e, hs, _⟩ := Mem.own_form h
  obtain ⟨rfl, _, rfl⟩ : A = A' ∧ n = n ∧ c = c' := by simpa using e
  exact hs
theorem own_below {w' : World} {B' : Nat} (h : w.ownsRow B e 1 (.slice A n c) n xs) (hb : Below B' w w') (hB : w.heap.size ≤ B') : w'.ownsRow B e 1 (.slice A n c) n xs := by
  obtain ⟨h1, h2⟩ := h
  refine ⟨h1, ?_⟩
  rcases h2 with h2 | ⟨g, cap, cur, hv, hg, hh, r⟩
  · exact .inl h2
  · have hlt := (Array.getElem?_eq_some_iff.1 hh).1
    exact .inr ⟨g, cap, cur, hv, hg, (hb.block g (by omega)).trans hh, r⟩
theorem own_far (h : w.ownsRow B e 1 (.slice A n c) n xs) {p : Addr} (hp : ∀ g, A = some ⟨g, 0, none⟩ → g ≠ p.block) (u : Value) : (w.setCell p u).ownsRow B e 1 (.slice A n c) n xs := by
  obtain ⟨h1, h2⟩ := h
  refine ⟨h1, ?_⟩
  rcases h2 with h2 | ⟨g, cap, cur, hv, hg, hh, r⟩
  · exact .inl h2
  · refine .inr ⟨g, cap, cur, hv, hg, ?_, r⟩
    simp only [Value.slice.injEq, true_and] at hv
    rw [Below.heap_setCell _ _ _ _ (hp g hv.1)]
    exact hh
theorem own_low {B' : Nat} (h : w.ownsRow B' e 1 (.slice A n c) n xs) (hb : B ≤ B') : w.ownsRow B e 1 (.slice A n c) n xs := by
  obtain ⟨h1, h2⟩ := h
  refine ⟨h1, ?_⟩
  rcases h2 with h2 | ⟨g, cap, cur, hv, hg, r⟩
  · exact .inl h2
  · exact .inr ⟨g, cap, cur, hv, by omega, r⟩
end
theorem made_one (z : Value) (hz : z.cells = #[z]) (n : Nat) : (madeCells z.cells (n * 1)).toList = List.replicate n z := by
  rw [hz]
  apply List.ext_getElem
  · simp [madeCells]
  · intro i h1 h2
    simp [madeCells, Nat.mod_one]
/-- make of n: n noughts of the call's own -/
theorem make_of {P : Program} {t e : TypeId} {z : Value} {bytes : Nat} (E : Mem.El P t e z 1 bytes) (hz1 : z.cells = #[z]) (n : Nat) (hn : n ≤ 1000000) (hb : bytes ≤ 1000) (w : World) :
    ∃ w', (Instr.makeSlice t (.int .i64 (n : Int)) (.int .i64 (n : Int))).run P w = .ok (.slice (some ⟨w.heap.size, 0, none⟩) n n) w' ∧
      w'.ownsRow w.heap.size e 1 (.slice (some ⟨w.heap.size, 0, none⟩) n n) n (List.replicate n z) ∧ Below w.heap.size w w' ∧ w'.heap.size = w.heap.size + 1 := by
  obtain ⟨i, hi, hz, hs, hby⟩ := info_parts E.info
  have hbb : bytes * n ≤ 1000 * 1000000 := Nat.mul_le_mul hb hn
  have hbi : (bytes : Int) * (n : Int) ≤ 281474976710656 := by
    have : ((bytes * n : Nat) : Int) ≤ 281474976710656 := by omega
    rwa [Int.natCast_mul] at this
  have hr := run_makeSlice (P := P) w t e i z E.ty hi hz .i64 .i64 (n : Int) (n : Int) (by omega) (by omega) (by rw [hs]; simp; omega) (by rw [hby]; exact hbi) (by omega)
  obtain ⟨w', h1, h2, h3⟩ := run_makeSlice_full (P := P) w w.heap.size t e i z 1 E.ty hi hz hs .i64 .i64 n (by omega) (by rw [hby]; have : bytes * n ≤ 1000 * 1000000 := Nat.mul_le_mul hb hn; omega) (by unfold maxLen; omega) (Nat.le_refl _)
  rw [made_one z hz1] at h2
  have hw : w' = w.alloc (.cells (madeCells z.cells ((n : Int).toNat * i.size)) e) := by
    rw [h1] at hr
    injection hr
  exact ⟨w', h1, h2, (Below.refl _ _).grown h3 (Nat.le_refl _) (by simp), by rw [hw]; simp⟩
end Grc
end Go.Proofs.Ytjfbnobijlkicaa
