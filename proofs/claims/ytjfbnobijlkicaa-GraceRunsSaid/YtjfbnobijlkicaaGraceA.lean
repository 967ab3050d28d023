/- The walks of layer 18 (grace): what the laws ask ahead of all. -/
import Derived.Test.YtjfbnobijlkicaaGraceE
import Derived.Test.YtjfbnobijlkicaaGraceQ2
import Derived.ChangeKeysEq
namespace Go.Proofs.Ytjfbnobijlkicaa
open Go.RowKit
namespace Grc
instance (n : Int) : Decidable (ThrV.I64 n) := by unfold ThrV.I64; infer_instance
def cfgS (g : Nat) : CfgV := ⟨100, 50, 10, 9, 9, 9, some ⟨g, 0, none⟩, 2, 2, 1, 0, 1, 0⟩
def thsS : List ThrV := [⟨0, 10, 0, false, 0⟩, ⟨1, 0, 20, true, 2⟩]
theorem thsS_right : ∀ t ∈ thsS, RightT t := by
  intro t ht
  simp only [thsS, List.mem_cons, List.not_mem_nil, or_false] at ht
  rcases ht with rfl | rfl
  · exact ⟨by decide, by decide, by decide, by decide, by decide, .inr ⟨by decide, rfl⟩, by decide, by decide, fun h => (by cases h), fun _ => rfl⟩
  · exact ⟨by decide, by decide, by decide, by decide, by decide, .inl ⟨rfl, by decide⟩, by decide, by decide, fun _ => (by decide), fun h => (by cases h)⟩
theorem thsS_ok : ∀ t ∈ thsS, t.ok := by
  intro t ht
  simp only [thsS, List.mem_cons, List.not_mem_nil, or_false] at ht
  rcases ht with rfl | rfl
  · exact ⟨by decide, by decide, by decide, by decide⟩
  · exact ⟨by decide, by decide, by decide, by decide⟩
theorem step_S : stepL (metL (cfgS 0) 9 19 9 thsS) [-1, -1] 5 = [5, 5] := by decide +kernel
theorem hold5_S : holdL thsS [5, 5] 5 = [true, false] := by decide +kernel
theorem hold7_S : holdL thsS [5, 5] 7 = [true, true] := by decide +kernel
theorem met_S : metL (cfgS 0) 10 19 9 thsS = [false, true] := by decide +kernel
theorem sig_S : sigF thsS [true, false] false false false = (true, false, false) := by decide +kernel
theorem edge1_S : edgeF 50 1 thsS [true, true] 0 = 20 := by decide +kernel
theorem edge0_S : edgeF 100 0 thsS [true, true] 0 = 10 := by decide +kernel
theorem metL_g (g : Nat) (x0 x1 x2 : Int) (ths : List ThrV) : metL (cfgS g) x0 x1 x2 ths = metL (cfgS 0) x0 x1 x2 ths := rfl
def SomeSaid (W : World) (e : Ending) (w' : World) : Prop := ∃ g, e = .returned (.agg (cfgS g).arr) ∧ (cfgS g).ok w' w'.heap.size thsS ∧ Below W.heap.size W w'
set_option maxRecDepth 100000 in
theorem some_c (w : World) : Calls Try.prog 58 #[] w (SomeSaid w) := by
  go_enter Try.func58, Try.ntmps58
  go_wp2_with fail
  refine bodyPost_ret (v := .agg (cfgS (w.heap.size + 1)).arr) (by simp [results, Try.results58, go_sem, cfgS, CfgV.arr]) rfl ?_
  refine ⟨w.heap.size + 1, rfl, ⟨by show ThrV.I64 100; decide, by show ThrV.I64 50; decide, by show ThrV.I64 10; decide, by show ThrV.I64 9; decide, by show ThrV.I64 9; decide, by show ThrV.I64 9; decide, by show ThrV.I64 1; decide, by show ThrV.I64 0; decide, by show ThrV.I64 1; decide, by show ThrV.I64 0; decide, Nat.le_refl 2, by show (2 : Nat) ≤ maxLen; decide, rfl, thsS_ok, ?_⟩, ((Below.refl _ _).alloc (Nat.le_refl _) _).alloc (by simp) _⟩
  exact (Mem.new_sl (n := 2) (size := 5) (by simp) rfl rfl).more (by simp)
theorem ints2 {w : World} {B c : Nat} {A : Option Addr} {x y : Int} (h : IRow w B A 2 c ([x, y].map (.int .i64))) : ∃ g, A = some ⟨g, 0, none⟩ ∧ B ≤ g ∧ g < w.heap.size ∧ 2 ≤ c ∧ c ≤ 9223372036854775807 ∧ w.cell? ⟨g, 0, none⟩ = some (.int .i64 x) ∧ w.cell? ⟨g, 1, none⟩ = some (.int .i64 y) := by
  obtain ⟨g, _, rfl, h1, h2, c0, _⟩ := own_at h (k := 0) (by decide)
  obtain ⟨g', _, e, _, _, c1, _⟩ := own_at h (k := 1) (by decide)
  obtain rfl : g = g' := by simpa using e
  have hc := own_le h
  unfold maxLen at hc
  exact ⟨g, rfl, h1, h2, hc.1, by omega, c0, c1⟩
theorem bools2 {w : World} {B c : Nat} {A : Option Addr} {x y : Bool} (h : BRow w B A 2 c ([x, y].map .bool)) : ∃ g, A = some ⟨g, 0, none⟩ ∧ B ≤ g ∧ g < w.heap.size ∧ 2 ≤ c ∧ c ≤ 9223372036854775807 ∧ w.cell? ⟨g, 0, none⟩ = some (.bool x) ∧ w.cell? ⟨g, 1, none⟩ = some (.bool y) := by
  obtain ⟨g, _, rfl, h1, h2, c0, _⟩ := own_at h (k := 0) (by decide)
  obtain ⟨g', _, e, _, _, c1, _⟩ := own_at h (k := 1) (by decide)
  obtain rfl : g = g' := by simpa using e
  have hc := own_le h
  unfold maxLen at hc
  exact ⟨g, rfl, h1, h2, hc.1, by omega, c0, c1⟩
theorem run_eqb3 (a0 a1 a2 b0 b1 b2 : Bool) (w : World) :
    (Op.equalIn 10000 58 (.agg #[.bool a0, .bool a1, .bool a2]) (.agg #[.bool b0, .bool b1, .bool b2])).run Try.prog w = .ok (a0 == b0 && (a1 == b1 && a2 == b2)) w := by
  obtain ⟨i, hi⟩ := Option.isSome_iff_exists.1 (show ((Try.prog).info? 4).isSome = true from by kernel_rfl)
  rw [show (10000 : Nat) = 9999 + 1 from rfl, run_equalIn_array w 9999 _ _ Try.underlying58 hi]
  have hc : (Try.prog).cellsOf 4 = 1 := by kernel_rfl
  rw [hc]
  have hr : List.range 3 = [0, 1, 2] := rfl
  rw [hr]
  simp only [Op.eqItems]
  go_simp
  cases a0 <;> cases a1 <;> cases a2 <;> cases b0 <;> cases b1 <;> cases b2 <;> rfl
set_option maxRecDepth 100000 in
set_option maxHeartbeats 8000000 in
theorem gawake_c (w : World) : Calls Try.prog 27 #[] w fun e w' => e = .returned (.bool true) ∧ Below w.heap.size w w' := by
  have heb := run_eqb3
  go_enter Try.func27, Try.ntmps27
  go_wp2_with fail
  refine (some_c _).mono ?_
  rintro e w1 ⟨gs, rfl, K1, hb1⟩
  have z1 := hb1.size
  unfold cfgS CfgV.arr
  dsimp only
  go_wp2_with fail
  refine (begin_c (cfgS gs) _ (by show (2 : Nat) ≤ 1000000; decide)).mono ?_
  rintro e w2 ⟨A2, c2, e2, R2, hb2⟩
  have L2 : Below w.heap.size w w2 := (hb1.alloc z1 _).trans (hb2.mono (by simp; omega))
  have C2 : Mem.Blk w2 w1.heap.size 47 #[.int .i64 100, .int .i64 50, .int .i64 10, .int .i64 9, .int .i64 9, .int .i64 9, .slice (some ⟨gs, 0, none⟩) 2 2, .int .i64 1, .int .i64 0, .int .i64 1, .int .i64 0] := Mem.Blk.new.belowS hb2
  have zc : w1.heap.size < w2.heap.size := C2.lt
  have K2 : (cfgS gs).ok w2 w2.heap.size thsS := ((K1.below (Below.alloc (Below.refl _ _) (Nat.le_refl _) _)).below (hb2.mono (by simp))).more (by omega)
  have R2' : IRow w2 (w1.heap.size + 1) A2 2 c2 ([-1, -1].map (.int .i64)) := by have q := R2; rw [World.size_alloc] at q; exact q
  have q : e = .returned (.slice A2 2 c2) := e2
  clear e2
  subst q
  clear K1 hb2 R2 hb1 z1
  have m0 : w2.cell? ⟨w1.heap.size, 0, none⟩ = some (.int .i64 100) := C2.cell 0
  have m1 : w2.cell? ⟨w1.heap.size, 1, none⟩ = some (.int .i64 50) := C2.cell 1
  have m2 : w2.cell? ⟨w1.heap.size, 2, none⟩ = some (.int .i64 10) := C2.cell 2
  have m3 : w2.cell? ⟨w1.heap.size, 3, none⟩ = some (.int .i64 9) := C2.cell 3
  have m4 : w2.cell? ⟨w1.heap.size, 4, none⟩ = some (.int .i64 9) := C2.cell 4
  have m5 : w2.cell? ⟨w1.heap.size, 5, none⟩ = some (.int .i64 9) := C2.cell 5
  have m6 : w2.cell? ⟨w1.heap.size, 6, none⟩ = some (.slice (some ⟨gs, 0, none⟩) 2 2) := C2.cell 6
  have m7 : w2.cell? ⟨w1.heap.size, 7, none⟩ = some (.int .i64 1) := C2.cell 7
  have m8 : w2.cell? ⟨w1.heap.size, 8, none⟩ = some (.int .i64 0) := C2.cell 8
  have m9 : w2.cell? ⟨w1.heap.size, 9, none⟩ = some (.int .i64 1) := C2.cell 9
  have m10 : w2.cell? ⟨w1.heap.size, 10, none⟩ = some (.int .i64 0) := C2.cell 10
  go_wp2_with fail
  refine (step_c (cfgS gs) thsS A2 c2 [-1, -1] 9 19 9 5 _ K2 (by show (2 : Nat) ≤ 1000000; decide) thsS_right (by decide) (by decide) (by decide) (by exact own_sl R2')).mono ?_
  rintro e w3 ⟨A3, c3, e3, R3, hb3⟩
  rw [metL_g, step_S] at R3
  have q : e = .returned (.slice A3 2 c3) := e3
  clear e3
  subst q
  have L3 : Below w.heap.size w w3 := L2.trans (hb3.mono L2.size)
  have C3 := C2.belowS hb3
  have K3 : (cfgS gs).ok w3 w3.heap.size thsS := (K2.below hb3).more hb3.size
  have R23 : IRow w3 (w1.heap.size + 1) A2 2 c2 ([-1, -1].map (.int .i64)) := own_below R2' hb3 (Nat.le_refl _)
  have z3 := hb3.size
  clear hb3 L2 C2 K2 R2' m0 m1 m2 m3 m4 m5 m6 m7 m8 m9 m10
  have m0 : w3.cell? ⟨w1.heap.size, 0, none⟩ = some (.int .i64 100) := C3.cell 0
  have m1 : w3.cell? ⟨w1.heap.size, 1, none⟩ = some (.int .i64 50) := C3.cell 1
  have m2 : w3.cell? ⟨w1.heap.size, 2, none⟩ = some (.int .i64 10) := C3.cell 2
  have m3 : w3.cell? ⟨w1.heap.size, 3, none⟩ = some (.int .i64 9) := C3.cell 3
  have m4 : w3.cell? ⟨w1.heap.size, 4, none⟩ = some (.int .i64 9) := C3.cell 4
  have m5 : w3.cell? ⟨w1.heap.size, 5, none⟩ = some (.int .i64 9) := C3.cell 5
  have m6 : w3.cell? ⟨w1.heap.size, 6, none⟩ = some (.slice (some ⟨gs, 0, none⟩) 2 2) := C3.cell 6
  have m7 : w3.cell? ⟨w1.heap.size, 7, none⟩ = some (.int .i64 1) := C3.cell 7
  have m8 : w3.cell? ⟨w1.heap.size, 8, none⟩ = some (.int .i64 0) := C3.cell 8
  have m9 : w3.cell? ⟨w1.heap.size, 9, none⟩ = some (.int .i64 1) := C3.cell 9
  have m10 : w3.cell? ⟨w1.heap.size, 10, none⟩ = some (.int .i64 0) := C3.cell 10
  go_wp2_with fail
  refine (hold_c (cfgS gs) thsS A3 c3 [5, 5] 5 _ K3 (by show (2 : Nat) ≤ 1000000; decide) (by decide) (by decide) (by decide) (by exact own_sl R3)).mono ?_
  rintro e w4 ⟨A4, c4, e4, R4, hb4⟩
  rw [hold5_S] at R4
  have q : e = .returned (.slice A4 2 c4) := e4
  clear e4
  subst q
  have L4 : Below w.heap.size w w4 := L3.trans (hb4.mono L3.size)
  have C4 := C3.belowS hb4
  have K4 : (cfgS gs).ok w4 w4.heap.size thsS := (K3.below hb4).more hb4.size
  have R24 : IRow w4 (w1.heap.size + 1) A2 2 c2 ([-1, -1].map (.int .i64)) := own_below R23 hb4 (Nat.le_refl _)
  have R34 : IRow w4 w2.heap.size A3 2 c3 ([5, 5].map (.int .i64)) := own_below R3 hb4 (Nat.le_refl _)
  clear hb4 L3 C3 K3 R23 R3 m0 m1 m2 m3 m4 m5 m6 m7 m8 m9 m10
  have m0 : w4.cell? ⟨w1.heap.size, 0, none⟩ = some (.int .i64 100) := C4.cell 0
  have m1 : w4.cell? ⟨w1.heap.size, 1, none⟩ = some (.int .i64 50) := C4.cell 1
  have m2 : w4.cell? ⟨w1.heap.size, 2, none⟩ = some (.int .i64 10) := C4.cell 2
  have m3 : w4.cell? ⟨w1.heap.size, 3, none⟩ = some (.int .i64 9) := C4.cell 3
  have m4 : w4.cell? ⟨w1.heap.size, 4, none⟩ = some (.int .i64 9) := C4.cell 4
  have m5 : w4.cell? ⟨w1.heap.size, 5, none⟩ = some (.int .i64 9) := C4.cell 5
  have m6 : w4.cell? ⟨w1.heap.size, 6, none⟩ = some (.slice (some ⟨gs, 0, none⟩) 2 2) := C4.cell 6
  have m7 : w4.cell? ⟨w1.heap.size, 7, none⟩ = some (.int .i64 1) := C4.cell 7
  have m8 : w4.cell? ⟨w1.heap.size, 8, none⟩ = some (.int .i64 0) := C4.cell 8
  have m9 : w4.cell? ⟨w1.heap.size, 9, none⟩ = some (.int .i64 1) := C4.cell 9
  have m10 : w4.cell? ⟨w1.heap.size, 10, none⟩ = some (.int .i64 0) := C4.cell 10
  go_wp2_with fail
  refine (hold_c (cfgS gs) thsS A3 c3 [5, 5] 7 _ K4 (by show (2 : Nat) ≤ 1000000; decide) (by decide) (by decide) (by decide) (by exact own_sl R34)).mono ?_
  rintro e w5 ⟨A5, c5, e5, R5, hb5⟩
  rw [hold7_S] at R5
  have q : e = .returned (.slice A5 2 c5) := e5
  clear e5
  subst q
  have L5 : Below w.heap.size w w5 := L4.trans (hb5.mono L4.size)
  have C5 := C4.belowS hb5
  have K5 : (cfgS gs).ok w5 w5.heap.size thsS := (K4.below hb5).more hb5.size
  have R25 : IRow w5 (w1.heap.size + 1) A2 2 c2 ([-1, -1].map (.int .i64)) := own_below R24 hb5 (Nat.le_refl _)
  have R35 : IRow w5 w2.heap.size A3 2 c3 ([5, 5].map (.int .i64)) := own_below R34 hb5 (Nat.le_refl _)
  have R45 : BRow w5 w3.heap.size A4 2 c4 ([true, false].map .bool) := own_below R4 hb5 (Nat.le_refl _)
  clear hb5 L4 C4 K4 R24 R34 R4 m0 m1 m2 m3 m4 m5 m6 m7 m8 m9 m10
  have m0 : w5.cell? ⟨w1.heap.size, 0, none⟩ = some (.int .i64 100) := C5.cell 0
  have m1 : w5.cell? ⟨w1.heap.size, 1, none⟩ = some (.int .i64 50) := C5.cell 1
  have m2 : w5.cell? ⟨w1.heap.size, 2, none⟩ = some (.int .i64 10) := C5.cell 2
  have m3 : w5.cell? ⟨w1.heap.size, 3, none⟩ = some (.int .i64 9) := C5.cell 3
  have m4 : w5.cell? ⟨w1.heap.size, 4, none⟩ = some (.int .i64 9) := C5.cell 4
  have m5 : w5.cell? ⟨w1.heap.size, 5, none⟩ = some (.int .i64 9) := C5.cell 5
  have m6 : w5.cell? ⟨w1.heap.size, 6, none⟩ = some (.slice (some ⟨gs, 0, none⟩) 2 2) := C5.cell 6
  have m7 : w5.cell? ⟨w1.heap.size, 7, none⟩ = some (.int .i64 1) := C5.cell 7
  have m8 : w5.cell? ⟨w1.heap.size, 8, none⟩ = some (.int .i64 0) := C5.cell 8
  have m9 : w5.cell? ⟨w1.heap.size, 9, none⟩ = some (.int .i64 1) := C5.cell 9
  have m10 : w5.cell? ⟨w1.heap.size, 10, none⟩ = some (.int .i64 0) := C5.cell 10
  go_wp2_with fail
  refine (met_c (cfgS gs) thsS 10 19 9 _ K5 (by show (2 : Nat) ≤ 1000000; decide) thsS_right (by decide) (by decide) (by decide)).mono ?_
  rintro e w6 ⟨A6, c6, e6, R6, hb6⟩
  rw [metL_g, met_S] at R6
  have q : e = .returned (.slice A6 2 c6) := e6
  clear e6
  subst q
  have L6 : Below w.heap.size w w6 := L5.trans (hb6.mono L5.size)
  have C6 := C5.belowS hb6
  have K6 : (cfgS gs).ok w6 w6.heap.size thsS := (K5.below hb6).more hb6.size
  have R26 : IRow w6 (w1.heap.size + 1) A2 2 c2 ([-1, -1].map (.int .i64)) := own_below R25 hb6 (Nat.le_refl _)
  have R36 : IRow w6 w2.heap.size A3 2 c3 ([5, 5].map (.int .i64)) := own_below R35 hb6 (Nat.le_refl _)
  have R46 : BRow w6 w3.heap.size A4 2 c4 ([true, false].map .bool) := own_below R45 hb6 (Nat.le_refl _)
  have R56 : BRow w6 w4.heap.size A5 2 c5 ([true, true].map .bool) := own_below R5 hb6 (Nat.le_refl _)
  clear hb6 L5 C5 K5 R25 R35 R45 R5 m0 m1 m2 m3 m4 m5 m6 m7 m8 m9 m10
  have s4 : Mem.Sl w6 w6.heap.size 1 A4 2 ([true, false].map Value.bool) := own_sl R46
  have s5 : Mem.Sl w6 w6.heap.size 1 A5 2 ([true, true].map Value.bool) := own_sl R56
  obtain ⟨g2, rfl, _, _, hc2, hc2', x0, x1⟩ := ints2 R26
  obtain ⟨g3, rfl, _, _, hc3, hc3', y0, y1⟩ := ints2 R36
  obtain ⟨g4, rfl, _, _, hc4, hc4', u0, u1⟩ := bools2 R46
  obtain ⟨g5, rfl, _, _, hc5, hc5', v0, v1⟩ := bools2 R56
  obtain ⟨g6, rfl, _, _, hc6, hc6', t0, t1⟩ := bools2 R6
  clear R26 R36 R46 R56 R6
  have m0 : w6.cell? ⟨w1.heap.size, 0, none⟩ = some (.int .i64 100) := C6.cell 0
  have m1 : w6.cell? ⟨w1.heap.size, 1, none⟩ = some (.int .i64 50) := C6.cell 1
  have m2 : w6.cell? ⟨w1.heap.size, 2, none⟩ = some (.int .i64 10) := C6.cell 2
  have m3 : w6.cell? ⟨w1.heap.size, 3, none⟩ = some (.int .i64 9) := C6.cell 3
  have m4 : w6.cell? ⟨w1.heap.size, 4, none⟩ = some (.int .i64 9) := C6.cell 4
  have m5 : w6.cell? ⟨w1.heap.size, 5, none⟩ = some (.int .i64 9) := C6.cell 5
  have m6 : w6.cell? ⟨w1.heap.size, 6, none⟩ = some (.slice (some ⟨gs, 0, none⟩) 2 2) := C6.cell 6
  have m7 : w6.cell? ⟨w1.heap.size, 7, none⟩ = some (.int .i64 1) := C6.cell 7
  have m8 : w6.cell? ⟨w1.heap.size, 8, none⟩ = some (.int .i64 0) := C6.cell 8
  have m9 : w6.cell? ⟨w1.heap.size, 9, none⟩ = some (.int .i64 1) := C6.cell 9
  have m10 : w6.cell? ⟨w1.heap.size, 10, none⟩ = some (.int .i64 0) := C6.cell 10
  go_wp2_with fail
  refine (signals_c (cfgS gs) thsS _ c4 [true, false] _ K6 (by show (2 : Nat) ≤ 1000000; decide) thsS_right s4).mono ?_
  rintro e w7 ⟨e7, hb7⟩
  rw [sig_S] at e7
  have q : e = .returned (.agg #[.bool true, .bool false, .bool false]) := e7
  clear e7
  subst q
  have L7 : Below w.heap.size w w7 := L6.trans (hb7.mono L6.size)
  have C7 := C6.belowS hb7
  have K7 : (cfgS gs).ok w7 w7.heap.size thsS := (K6.below hb7).more hb7.size
  have s57 : Mem.Sl w7 w7.heap.size 1 (some ⟨g5, 0, none⟩) 2 ([true, true].map Value.bool) := (s5.below hb7).more hb7.size
  clear hb7 L6 C6 K6 s5 s4 x0 x1 y0 y1 u0 u1 v0 v1 t0 t1 m0 m1 m2 m3 m4 m5 m6 m7 m8 m9 m10
  have m0 : w7.cell? ⟨w1.heap.size, 0, none⟩ = some (.int .i64 100) := C7.cell 0
  have m1 : w7.cell? ⟨w1.heap.size, 1, none⟩ = some (.int .i64 50) := C7.cell 1
  have m2 : w7.cell? ⟨w1.heap.size, 2, none⟩ = some (.int .i64 10) := C7.cell 2
  have m3 : w7.cell? ⟨w1.heap.size, 3, none⟩ = some (.int .i64 9) := C7.cell 3
  have m4 : w7.cell? ⟨w1.heap.size, 4, none⟩ = some (.int .i64 9) := C7.cell 4
  have m5 : w7.cell? ⟨w1.heap.size, 5, none⟩ = some (.int .i64 9) := C7.cell 5
  have m6 : w7.cell? ⟨w1.heap.size, 6, none⟩ = some (.slice (some ⟨gs, 0, none⟩) 2 2) := C7.cell 6
  have m7 : w7.cell? ⟨w1.heap.size, 7, none⟩ = some (.int .i64 1) := C7.cell 7
  have m8 : w7.cell? ⟨w1.heap.size, 8, none⟩ = some (.int .i64 0) := C7.cell 8
  have m9 : w7.cell? ⟨w1.heap.size, 9, none⟩ = some (.int .i64 1) := C7.cell 9
  have m10 : w7.cell? ⟨w1.heap.size, 10, none⟩ = some (.int .i64 0) := C7.cell 10
  go_wp2_with fail
  refine (edge_c (cfgS gs) thsS _ c5 [true, true] 1 _ K7 (by show (2 : Nat) ≤ 1000000; decide) (by decide) s57).mono ?_
  rintro e w8 ⟨e8, hb8⟩
  have q : e = .returned (.int .i64 20) := by
    rw [e8]
    show Ending.returned (Value.int .i64 (edgeF 50 1 thsS [true, true] 0)) = _
    rw [edge1_S]
  clear e8
  subst q
  have L8 : Below w.heap.size w w8 := L7.trans (hb8.mono L7.size)
  have C8 := C7.belowS hb8
  have K8 : (cfgS gs).ok w8 w8.heap.size thsS := (K7.below hb8).more hb8.size
  have s58 : Mem.Sl w8 w8.heap.size 1 (some ⟨g5, 0, none⟩) 2 ([true, true].map Value.bool) := (s57.below hb8).more hb8.size
  clear hb8 L7 C7 K7 s57 m0 m1 m2 m3 m4 m5 m6 m7 m8 m9 m10
  have m0 : w8.cell? ⟨w1.heap.size, 0, none⟩ = some (.int .i64 100) := C8.cell 0
  have m1 : w8.cell? ⟨w1.heap.size, 1, none⟩ = some (.int .i64 50) := C8.cell 1
  have m2 : w8.cell? ⟨w1.heap.size, 2, none⟩ = some (.int .i64 10) := C8.cell 2
  have m3 : w8.cell? ⟨w1.heap.size, 3, none⟩ = some (.int .i64 9) := C8.cell 3
  have m4 : w8.cell? ⟨w1.heap.size, 4, none⟩ = some (.int .i64 9) := C8.cell 4
  have m5 : w8.cell? ⟨w1.heap.size, 5, none⟩ = some (.int .i64 9) := C8.cell 5
  have m6 : w8.cell? ⟨w1.heap.size, 6, none⟩ = some (.slice (some ⟨gs, 0, none⟩) 2 2) := C8.cell 6
  have m7 : w8.cell? ⟨w1.heap.size, 7, none⟩ = some (.int .i64 1) := C8.cell 7
  have m8 : w8.cell? ⟨w1.heap.size, 8, none⟩ = some (.int .i64 0) := C8.cell 8
  have m9 : w8.cell? ⟨w1.heap.size, 9, none⟩ = some (.int .i64 1) := C8.cell 9
  have m10 : w8.cell? ⟨w1.heap.size, 10, none⟩ = some (.int .i64 0) := C8.cell 10
  go_wp2_with fail
  refine (edge_c (cfgS gs) thsS _ c5 [true, true] 0 _ K8 (by show (2 : Nat) ≤ 1000000; decide) (by decide) s58).mono ?_
  rintro e w9 ⟨e9, hb9⟩
  have q : e = .returned (.int .i64 10) := by
    rw [e9]
    show Ending.returned (Value.int .i64 (edgeF 100 0 thsS [true, true] 0)) = _
    rw [edge0_S]
  clear e9
  subst q
  have L9 : Below w.heap.size w w9 := L8.trans (hb9.mono L8.size)
  go_wp2_with fail
  go_ret
  exact ⟨rfl, L9⟩
end Grc
end Go.Proofs.Ytjfbnobijlkicaa
