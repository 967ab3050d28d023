/- GraceLess: the walk. -/
import Derived.Test.YtjfbnobijlkicaaGraceB
namespace Go.Proofs.Ytjfbnobijlkicaa
open Go.RowKit
namespace graceLess
open Grc
/-- what is left, place by place -/
def lessTo (i j : Nat) (x d : Int) : Int := if j < i then x - d else 0
/-- the config's block, two arrays' -/
structure Held (w : World) (g0 g1 : Nat) (cfg : Array Value) (x0 x1 x2 : Int) : Prop where
  cfg : Mem.Blk w g0 47 cfg
  arr : Mem.Blk w g1 44 #[.int .i64 x0, .int .i64 x1, .int .i64 x2]
theorem Held.belowS {w w' : World} {g0 g1 : Nat} {cfg : Array Value} {x0 x1 x2 : Int} (h : Held w g0 g1 cfg x0 x1 x2) (hb : Below w.heap.size w w') : Held w' g0 g1 cfg x0 x1 x2 := ⟨h.cfg.belowS hb, h.arr.belowS hb⟩
set_option maxRecDepth 100000 in
set_option maxHeartbeats 8000000 in
theorem core (p : CfgV) (ths : List ThrV) (S : Option Addr) (m sc : Nat) (zs : List Int) (round x0 x1 x2 d0 d1 d2 : Int) (w : World) (hp : p.ok w w.heap.size ths) (hz : Mem.Ints w w.heap.size .i64 S m zs) (hm : m ≤ 9223372036854775807)
    (hx0 : ThrV.I64 x0) (hx1 : ThrV.I64 x1) (hx2 : ThrV.I64 x2) (hd0 : 0 ≤ d0 ∧ d0 ≤ 65535) (hd1 : 0 ≤ d1 ∧ d1 ≤ 65535) (hd2 : 0 ≤ d2 ∧ d2 ≤ 65535) :
    Calls Try.prog 13 #[.agg p.arr, .slice S m sc, .int .i64 round, .agg #[.int .i64 x0, .int .i64 x1, .int .i64 x2], .agg #[.int .u16 d0, .int .u16 d1, .int .u16 d2]] w fun e w' => e = .returned (.bool true) ∧ Below w.heap.size w w' := by
  have hfit : Hid (∀ w', Below w.heap.size w w' → Calls Try.prog 28 #[.agg p.arr, .slice S m sc, .int .i64 round] w' (OkSaid (FitP p ths m zs round) w')) := fun w' hb => fit_c p ths S m sc zs round w' ((hp.below hb).more hb.size) ((hz.below hb).more hb.size) hm
  have hstep : Hid (FitP p ths m zs round → ∀ (w' : World) (u0 u1 u2 : Int), Below w.heap.size w w' → ThrV.I64 u0 → ThrV.I64 u1 → ThrV.I64 u2 → Calls Try.prog 29 #[.agg p.arr, .slice S m sc, .agg #[.int .i64 u0, .int .i64 u1, .int .i64 u2], .int .i64 round] w' (NewI m ((stepL (metL p u0 u1 u2 ths) zs round).map (.int .i64)) w')) := by
    intro hf w' u0 u1 u2 hb h0 h1 h2
    obtain ⟨hr, rfl, _, _, _⟩ := hf
    exact step_c p ths S sc zs u0 u1 u2 round w' ((hp.below hb).more hb.size) (by have := hr.n; omega) hr.each h0 h1 h2 ((hz.below hb).more hb.size)
  have hhold : Hid (FitP p ths m zs round → ∀ (w' : World) (u0 u1 u2 : Int) (A' : Option Addr) (c' : Nat), Below w.heap.size w w' → Mem.Ints w' w'.heap.size .i64 A' m (stepL (metL p u0 u1 u2 ths) zs round) → Calls Try.prog 37 #[.agg p.arr, .slice A' m c', .int .i64 round] w' (NewB m ((holdL ths (stepL (metL p u0 u1 u2 ths) zs round) round).map .bool) w')) := by
    intro hf w' u0 u1 u2 A' c' hb hs
    obtain ⟨hr, rfl, h0, h1, hzz⟩ := hf
    exact hold_c p ths A' c' _ round w' ((hp.below hb).more hb.size) (by have := hr.n; omega) h0 (by omega) (stepL_fit h0 hzz) hs
  have hmet : Hid (FitP p ths m zs round → ∀ (w' : World) (u0 u1 u2 : Int), Below w.heap.size w w' → ThrV.I64 u0 → ThrV.I64 u1 → ThrV.I64 u2 → Calls Try.prog 34 #[.agg p.arr, .agg #[.int .i64 u0, .int .i64 u1, .int .i64 u2]] w' (NewB m ((metL p u0 u1 u2 ths).map .bool) w')) := by
    intro hf w' u0 u1 u2 hb h0 h1 h2
    obtain ⟨hr, rfl, _, _, _⟩ := hf
    exact met_c p ths u0 u1 u2 w' ((hp.below hb).more hb.size) (by have := hr.n; omega) hr.each h0 h1 h2
  have hless : Hid (FitP p ths m zs round → ∀ y0 y1 y2 : Int, y0 ≤ x0 → y1 ≤ x1 → y2 ≤ x2 → ∀ k, k < m → LessAt (holdL ths (stepL (metL p x0 x1 x2 ths) zs round) round) (holdL ths (stepL (metL p y0 y1 y2 ths) zs round) round) (metL p x0 x1 x2 ths) (metL p y0 y1 y2 ths) k) := by
    intro hf y0 y1 y2 h0 h1 h2 k hk
    obtain ⟨hr, hmm, _, _, _⟩ := hf
    exact less_at p ths zs round x0 x1 x2 y0 y1 y2 (by rw [hp.len, hz.len, hmm]) h0 h1 h2 k (by rw [hp.len]; omega)
  have hnn : FitP p ths m zs round → m ≤ 12 := by
    intro hf
    obtain ⟨hr, hmm, _⟩ := hf
    have := hr.n
    omega
  have HNN := Lib.hid hnn
  have Hx := Lib.hid (And.intro hx0 (And.intro hx1 hx2))
  unfold ThrV.I64 at hx0 hx1 hx2
  obtain ⟨lx0, ux0⟩ := hx0
  obtain ⟨lx1, ux1⟩ := hx1
  obtain ⟨lx2, ux2⟩ := hx2
  obtain ⟨ld0, ud0⟩ := hd0
  obtain ⟨ld1, ud1⟩ := hd1
  obtain ⟨ld2, ud2⟩ := hd2
  clear hp hz hnn
  obtain ⟨FP, hFP⟩ : ∃ FP : Prop, FP = FitP p ths m zs round := ⟨_, rfl⟩
  rw [← hFP] at hfit hstep hhold hmet hless HNN
  clear hFP
  obtain ⟨STP, hSTP⟩ : ∃ STP : Int → Int → Int → List Int, STP = fun u0 u1 u2 => stepL (metL p u0 u1 u2 ths) zs round := ⟨_, rfl⟩
  obtain ⟨HLD, hHLD⟩ : ∃ HLD : Int → Int → Int → List Bool, HLD = fun u0 u1 u2 => holdL ths (stepL (metL p u0 u1 u2 ths) zs round) round := ⟨_, rfl⟩
  obtain ⟨MTL, hMTL⟩ : ∃ MTL : Int → Int → Int → List Bool, MTL = fun u0 u1 u2 => metL p u0 u1 u2 ths := ⟨_, rfl⟩
  have gstep : Hid (FP → ∀ (w' : World) (u0 u1 u2 : Int), Below w.heap.size w w' → ThrV.I64 u0 → ThrV.I64 u1 → ThrV.I64 u2 → Calls Try.prog 29 #[.agg p.arr, .slice S m sc, .agg #[.int .i64 u0, .int .i64 u1, .int .i64 u2], .int .i64 round] w' (NewI m ((STP u0 u1 u2).map (.int .i64)) w')) := by rw [hSTP]; exact hstep
  have ghold : Hid (FP → ∀ (w' : World) (u0 u1 u2 : Int) (A' : Option Addr) (c' : Nat), Below w.heap.size w w' → Mem.Ints w' w'.heap.size .i64 A' m (STP u0 u1 u2) → Calls Try.prog 37 #[.agg p.arr, .slice A' m c', .int .i64 round] w' (NewB m ((HLD u0 u1 u2).map .bool) w')) := by rw [hSTP, hHLD]; exact hhold
  have gmet : Hid (FP → ∀ (w' : World) (u0 u1 u2 : Int), Below w.heap.size w w' → ThrV.I64 u0 → ThrV.I64 u1 → ThrV.I64 u2 → Calls Try.prog 34 #[.agg p.arr, .agg #[.int .i64 u0, .int .i64 u1, .int .i64 u2]] w' (NewB m ((MTL u0 u1 u2).map .bool) w')) := by rw [hMTL]; exact hmet
  have gless : Hid (FP → ∀ y0 y1 y2 : Int, y0 ≤ x0 → y1 ≤ x1 → y2 ≤ x2 → ∀ k, k < m → LessAt (HLD x0 x1 x2) (HLD y0 y1 y2) (MTL x0 x1 x2) (MTL y0 y1 y2) k) := by rw [hHLD, hMTL]; exact hless
  clear hstep hhold hmet hless hSTP hHLD hMTL
  obtain ⟨k0, k1, k2, a0, a1, a2, A, n, c, per, ret, age, dead⟩ := p
  unfold CfgV.arr at hfit gstep ghold gmet ⊢
  dsimp only at hfit gstep ghold gmet ⊢
  go_enter Try.func13, Try.ntmps13
  go_wp2_with fail
  refine (gawake_c _).mono ?_
  rintro e w1 ⟨rfl, hb1⟩
  have L1 : Below w.heap.size w w1 := ((((Below.refl _ _).alloc (Nat.le_refl _) _).alloc (by simp) _).alloc (by simp <;> omega) _).trans (hb1.mono (by simp <;> omega))
  have z1 : w.heap.size + 3 ≤ w1.heap.size := by have q := hb1.size; simp at q; omega
  have D1 : Held w1 w.heap.size (w.heap.size + 1) #[.int .i64 k0, .int .i64 k1, .int .i64 k2, .int .i64 a0, .int .i64 a1, .int .i64 a2, .slice A n c, .int .i64 per, .int .i64 ret, .int .i64 age, .int .i64 dead] x0 x1 x2 := by
    refine ⟨?_, ?_⟩
    · exact Mem.Blk.new.alloc.alloc.belowS hb1
    · have q := (Mem.Blk.new (w := w.alloc (.cells #[.int .i64 k0, .int .i64 k1, .int .i64 k2, .int .i64 a0, .int .i64 a1, .int .i64 a2, .slice A n c, .int .i64 per, .int .i64 ret, .int .i64 age, .int .i64 dead] 47)) (t := 44) (cs := #[.int .i64 x0, .int .i64 x1, .int .i64 x2])).alloc (o := .cells #[.int .u16 d0, .int .u16 d1, .int .u16 d2] 71)
      rw [World.size_alloc] at q
      exact q.belowS hb1
  have E1 : Mem.Blk w1 (w.heap.size + 1 + 1) 71 #[.int .u16 d0, .int .u16 d1, .int .u16 d2] := by
    have q := Mem.Blk.new (w := (w.alloc (.cells #[.int .i64 k0, .int .i64 k1, .int .i64 k2, .int .i64 a0, .int .i64 a1, .int .i64 a2, .slice A n c, .int .i64 per, .int .i64 ret, .int .i64 age, .int .i64 dead] 47)).alloc (.cells #[.int .i64 x0, .int .i64 x1, .int .i64 x2] 44)) (t := 71) (cs := #[.int .u16 d0, .int .u16 d1, .int .u16 d2])
    rw [World.size_alloc, World.size_alloc] at q
    exact q.belowS hb1
  clear hb1
  have m0 : w1.cell? ⟨w.heap.size, 0, none⟩ = some (.int .i64 k0) := D1.cfg.cell 0
  have m1 : w1.cell? ⟨w.heap.size, 1, none⟩ = some (.int .i64 k1) := D1.cfg.cell 1
  have m2 : w1.cell? ⟨w.heap.size, 2, none⟩ = some (.int .i64 k2) := D1.cfg.cell 2
  have m3 : w1.cell? ⟨w.heap.size, 3, none⟩ = some (.int .i64 a0) := D1.cfg.cell 3
  have m4 : w1.cell? ⟨w.heap.size, 4, none⟩ = some (.int .i64 a1) := D1.cfg.cell 4
  have m5 : w1.cell? ⟨w.heap.size, 5, none⟩ = some (.int .i64 a2) := D1.cfg.cell 5
  have m6 : w1.cell? ⟨w.heap.size, 6, none⟩ = some (.slice A n c) := D1.cfg.cell 6
  have m7 : w1.cell? ⟨w.heap.size, 7, none⟩ = some (.int .i64 per) := D1.cfg.cell 7
  have m8 : w1.cell? ⟨w.heap.size, 8, none⟩ = some (.int .i64 ret) := D1.cfg.cell 8
  have m9 : w1.cell? ⟨w.heap.size, 9, none⟩ = some (.int .i64 age) := D1.cfg.cell 9
  have m10 : w1.cell? ⟨w.heap.size, 10, none⟩ = some (.int .i64 dead) := D1.cfg.cell 10
  go_wp2_with fail
  refine (hfit.out _ L1).mono ?_
  rintro e w2 ⟨b, rfl, hfb, hb2⟩
  have L2 : Below w.heap.size w w2 := L1.trans (hb2.mono L1.size)
  clear m0 m1 m2 m3 m4 m5 m6 m7 m8 m9 m10
  cases b with
  | false =>
    clear hfb
    go_wp2_with fail
    refine (gawake_c _).mono ?_
    rintro e w9 ⟨rfl, hb9⟩
    go_wp2_with fail
    go_ret
    exact ⟨rfl, L2.trans (hb9.mono L2.size)⟩
  | true =>
    have HF := Lib.hid (hfb rfl)
    have D2 := D1.belowS hb2
    have E2 := E1.belowS hb2
    have z2 : w.heap.size + 3 ≤ w2.heap.size := Nat.le_trans z1 hb2.size
    have hm12 := HNN.out HF.out
    clear hfb hb2 D1 E1 L1 z1 hfit
    obtain ⟨gb, hgb⟩ : ∃ gb, gb = w2.heap.size := ⟨_, rfl⟩
    go_wp2_with fail
    rw [← hgb]
    go_loopw [12] (fun vi wr => ∃ i : Nat, i ≤ 3 ∧ vi = .int .i64 i ∧ Below w.heap.size w wr ∧ gb + 1 ≤ wr.heap.size ∧ Held wr w.heap.size (w.heap.size + 1) #[.int .i64 k0, .int .i64 k1, .int .i64 k2, .int .i64 a0, .int .i64 a1, .int .i64 a2, .slice A n c, .int .i64 per, .int .i64 ret, .int .i64 age, .int .i64 dead] x0 x1 x2 ∧ Mem.Blk wr (w.heap.size + 1 + 1) 71 #[.int .u16 d0, .int .u16 d1, .int .u16 d2] ∧ Mem.Blk wr gb 44 #[.int .i64 (lessTo i 0 x0 d0), .int .i64 (lessTo i 1 x1 d1), .int .i64 (lessTo i 2 x2 d2)] ∧ (1 ≤ i → -1000000 ≤ x0) ∧ (2 ≤ i → -1000000 ≤ x1) ∧ (3 ≤ i → -1000000 ≤ x2)) (fun i _ => 3 - (intOf i).toNat)
    case atStart => exact ⟨0, by omega, rfl, L2.alloc L2.size _, by rw [hgb]; simp, ⟨D2.cfg.alloc, D2.arr.alloc⟩, E2.alloc, by rw [hgb]; exact Mem.Blk.new, fun h => absurd h (by omega), fun h => absurd h (by omega), fun h => absurd h (by omega)⟩
    case round =>
      rw [← hgb] at z2
      clear L2 D2 E2 hgb
      obtain ⟨i, hi, rfl, hbr, hzr, D3, E3, F3, q0, q1, q2⟩ := hrel
      have hor : i = 0 ∨ i = 1 ∨ i = 2 ∨ i = 3 := by omega
      rcases hor with rfl | rfl | rfl | rfl
      · have c0 : wr.cell? ⟨w.heap.size + 1, 0, none⟩ = some (.int .i64 x0) := D3.arr.cell 0
        have e0 : wr.cell? ⟨w.heap.size + 1 + 1, 0, none⟩ = some (.int .u16 d0) := E3.cell 0
        have f0 := F3.cell 0
        have ff := F3.frozen
        have hor : x0 < -1000000 ∨ -1000000 ≤ x0 := by omega
        rcases hor with hq | hq
        · go_wp2_with fail
          go_ret
          exact ⟨rfl, hbr⟩
        · have hq' : decide (x0 < -1000000) = false := by simpa using hq
          have hwd : IntKind.i64.wrap d0 = d0 := by unfold IntKind.wrap; simp [IntKind.bits, IntKind.signed]; omega
          have hw : IntKind.i64.wrap (x0 - d0) = x0 - d0 := by unfold IntKind.wrap; simp [IntKind.bits, IntKind.signed]; omega
          go_wp2_with fail
          obtain ⟨X, hX⟩ : ∃ X, X = wr.drew := ⟨_, rfl⟩
          have LX : Below w.heap.size w X := by rw [hX]; exact hbr.drew
          have zX : X.heap.size = wr.heap.size := by rw [hX]; rfl
          have DX : Held X w.heap.size (w.heap.size + 1) #[.int .i64 k0, .int .i64 k1, .int .i64 k2, .int .i64 a0, .int .i64 a1, .int .i64 a2, .slice A n c, .int .i64 per, .int .i64 ret, .int .i64 age, .int .i64 dead] x0 x1 x2 := by rw [hX]; exact ⟨D3.cfg.drew, D3.arr.drew⟩
          have EX := E3.drew
          rw [← hX] at EX
          have FX := F3.drew
          rw [← hX] at FX
          have fx := FX.cell 0
          have fxf := FX.frozen
          have SX : (fun w' => w'.cell? ⟨w.heap.size + 1, 0, none⟩ = some (.int .i64 x0) ∧ w'.cell? ⟨w.heap.size + 1 + 1, 0, none⟩ = some (.int .u16 d0)) X := ⟨DX.arr.cell 0, EX.cell 0⟩
          refine Reg.start (S := (fun w' => w'.cell? ⟨w.heap.size + 1, 0, none⟩ = some (.int .i64 x0) ∧ w'.cell? ⟨w.heap.size + 1 + 1, 0, none⟩ = some (.int .u16 d0))) (by kernel_rfl) ?_
          rw [← hX]
          clear hX f0 ff c0 e0
          refine Reg.takes (n := 1) (by kernel_rfl) (fun _ _ d _ _ h => by cases d <;> exact h) SX [0, 1, 2, 3, 4, 5, 6, 7, 8, 9] _ _ (by kernel_rfl) ?_
          iterate 10 (refine Reg.det_step rfl (fun K' hK' => ?_); go_simp; (first | (refine hK' _ ?_; clear hK' K') | (apply Exists.intro; refine ⟨fun wx hwx => ?_, hK' _ ?_⟩; (first | rfl | (have fa := hwx; intro fb; go_simp; first | done | rfl)); clear hK' K')))
          refine Reg.det_nil ?_
          refine Reg.one (i := 10) (n := 0) (by kernel_rfl) ?_
          refine Reg.skip rfl rfl (w' := X.setCell ⟨gb, 0, none⟩ (.int .i64 (x0 - d0))) (by go_simp) ⟨Mem.keep_set (by simp; omega) SX.1, Mem.keep_set (by simp; omega) SX.2⟩ ?_
          refine wpAnyH_done (by kernel_rfl) ?_ _
          go_wp2_with fail
          go_roundw
          case rel =>
            refine ⟨1, by omega, rfl, LX.setCell (by simp; omega) _, by simp; omega, ⟨DX.cfg.far (by simp; omega), DX.arr.far (by simp; omega)⟩, EX.far (by simp; omega), ?_, fun _ => hq, fun h => absurd h (by omega), fun h => absurd h (by omega)⟩
            have q := FX.set_ 0 (.int .i64 (x0 - d0))
            simpa [lessTo] using q
          case measure => simp [intOf]
      · have c1 : wr.cell? ⟨w.heap.size + 1, 1, none⟩ = some (.int .i64 x1) := D3.arr.cell 1
        have e1 : wr.cell? ⟨w.heap.size + 1 + 1, 1, none⟩ = some (.int .u16 d1) := E3.cell 1
        have f1 := F3.cell 1
        have ff := F3.frozen
        have hor : x1 < -1000000 ∨ -1000000 ≤ x1 := by omega
        rcases hor with hq | hq
        · go_wp2_with fail
          go_ret
          exact ⟨rfl, hbr⟩
        · have hq' : decide (x1 < -1000000) = false := by simpa using hq
          have hwd : IntKind.i64.wrap d1 = d1 := by unfold IntKind.wrap; simp [IntKind.bits, IntKind.signed]; omega
          have hw : IntKind.i64.wrap (x1 - d1) = x1 - d1 := by unfold IntKind.wrap; simp [IntKind.bits, IntKind.signed]; omega
          go_wp2_with fail
          obtain ⟨X, hX⟩ : ∃ X, X = wr.drew := ⟨_, rfl⟩
          have LX : Below w.heap.size w X := by rw [hX]; exact hbr.drew
          have zX : X.heap.size = wr.heap.size := by rw [hX]; rfl
          have DX : Held X w.heap.size (w.heap.size + 1) #[.int .i64 k0, .int .i64 k1, .int .i64 k2, .int .i64 a0, .int .i64 a1, .int .i64 a2, .slice A n c, .int .i64 per, .int .i64 ret, .int .i64 age, .int .i64 dead] x0 x1 x2 := by rw [hX]; exact ⟨D3.cfg.drew, D3.arr.drew⟩
          have EX := E3.drew
          rw [← hX] at EX
          have FX := F3.drew
          rw [← hX] at FX
          have fx := FX.cell 1
          have fxf := FX.frozen
          have SX : (fun w' => w'.cell? ⟨w.heap.size + 1, 1, none⟩ = some (.int .i64 x1) ∧ w'.cell? ⟨w.heap.size + 1 + 1, 1, none⟩ = some (.int .u16 d1)) X := ⟨DX.arr.cell 1, EX.cell 1⟩
          refine Reg.start (S := (fun w' => w'.cell? ⟨w.heap.size + 1, 1, none⟩ = some (.int .i64 x1) ∧ w'.cell? ⟨w.heap.size + 1 + 1, 1, none⟩ = some (.int .u16 d1))) (by kernel_rfl) ?_
          rw [← hX]
          clear hX f1 ff c1 e1
          refine Reg.takes (n := 1) (by kernel_rfl) (fun _ _ d _ _ h => by cases d <;> exact h) SX [0, 1, 2, 3, 4, 5, 6, 7, 8, 9] _ _ (by kernel_rfl) ?_
          iterate 10 (refine Reg.det_step rfl (fun K' hK' => ?_); go_simp; (first | (refine hK' _ ?_; clear hK' K') | (apply Exists.intro; refine ⟨fun wx hwx => ?_, hK' _ ?_⟩; (first | rfl | (have fa := hwx; intro fb; go_simp; first | done | rfl)); clear hK' K')))
          refine Reg.det_nil ?_
          refine Reg.one (i := 10) (n := 0) (by kernel_rfl) ?_
          refine Reg.skip rfl rfl (w' := X.setCell ⟨gb, 1, none⟩ (.int .i64 (x1 - d1))) (by go_simp) ⟨Mem.keep_set (by simp; omega) SX.1, Mem.keep_set (by simp; omega) SX.2⟩ ?_
          refine wpAnyH_done (by kernel_rfl) ?_ _
          go_wp2_with fail
          go_roundw
          case rel =>
            refine ⟨2, by omega, rfl, LX.setCell (by simp; omega) _, by simp; omega, ⟨DX.cfg.far (by simp; omega), DX.arr.far (by simp; omega)⟩, EX.far (by simp; omega), ?_, fun _ => q0 (by omega), fun _ => hq, fun h => absurd h (by omega)⟩
            have q := FX.set_ 1 (.int .i64 (x1 - d1))
            simpa [lessTo] using q
          case measure => simp [intOf]
      · have c2 : wr.cell? ⟨w.heap.size + 1, 2, none⟩ = some (.int .i64 x2) := D3.arr.cell 2
        have e2 : wr.cell? ⟨w.heap.size + 1 + 1, 2, none⟩ = some (.int .u16 d2) := E3.cell 2
        have f2 := F3.cell 2
        have ff := F3.frozen
        have hor : x2 < -1000000 ∨ -1000000 ≤ x2 := by omega
        rcases hor with hq | hq
        · go_wp2_with fail
          go_ret
          exact ⟨rfl, hbr⟩
        · have hq' : decide (x2 < -1000000) = false := by simpa using hq
          have hwd : IntKind.i64.wrap d2 = d2 := by unfold IntKind.wrap; simp [IntKind.bits, IntKind.signed]; omega
          have hw : IntKind.i64.wrap (x2 - d2) = x2 - d2 := by unfold IntKind.wrap; simp [IntKind.bits, IntKind.signed]; omega
          go_wp2_with fail
          obtain ⟨X, hX⟩ : ∃ X, X = wr.drew := ⟨_, rfl⟩
          have LX : Below w.heap.size w X := by rw [hX]; exact hbr.drew
          have zX : X.heap.size = wr.heap.size := by rw [hX]; rfl
          have DX : Held X w.heap.size (w.heap.size + 1) #[.int .i64 k0, .int .i64 k1, .int .i64 k2, .int .i64 a0, .int .i64 a1, .int .i64 a2, .slice A n c, .int .i64 per, .int .i64 ret, .int .i64 age, .int .i64 dead] x0 x1 x2 := by rw [hX]; exact ⟨D3.cfg.drew, D3.arr.drew⟩
          have EX := E3.drew
          rw [← hX] at EX
          have FX := F3.drew
          rw [← hX] at FX
          have fx := FX.cell 2
          have fxf := FX.frozen
          have SX : (fun w' => w'.cell? ⟨w.heap.size + 1, 2, none⟩ = some (.int .i64 x2) ∧ w'.cell? ⟨w.heap.size + 1 + 1, 2, none⟩ = some (.int .u16 d2)) X := ⟨DX.arr.cell 2, EX.cell 2⟩
          refine Reg.start (S := (fun w' => w'.cell? ⟨w.heap.size + 1, 2, none⟩ = some (.int .i64 x2) ∧ w'.cell? ⟨w.heap.size + 1 + 1, 2, none⟩ = some (.int .u16 d2))) (by kernel_rfl) ?_
          rw [← hX]
          clear hX f2 ff c2 e2
          refine Reg.takes (n := 1) (by kernel_rfl) (fun _ _ d _ _ h => by cases d <;> exact h) SX [0, 1, 2, 3, 4, 5, 6, 7, 8, 9] _ _ (by kernel_rfl) ?_
          iterate 10 (refine Reg.det_step rfl (fun K' hK' => ?_); go_simp; (first | (refine hK' _ ?_; clear hK' K') | (apply Exists.intro; refine ⟨fun wx hwx => ?_, hK' _ ?_⟩; (first | rfl | (have fa := hwx; intro fb; go_simp; first | done | rfl)); clear hK' K')))
          refine Reg.det_nil ?_
          refine Reg.one (i := 10) (n := 0) (by kernel_rfl) ?_
          refine Reg.skip rfl rfl (w' := X.setCell ⟨gb, 2, none⟩ (.int .i64 (x2 - d2))) (by go_simp) ⟨Mem.keep_set (by simp; omega) SX.1, Mem.keep_set (by simp; omega) SX.2⟩ ?_
          refine wpAnyH_done (by kernel_rfl) ?_ _
          go_wp2_with fail
          go_roundw
          case rel =>
            refine ⟨3, by omega, rfl, LX.setCell (by simp; omega) _, by simp; omega, ⟨DX.cfg.far (by simp; omega), DX.arr.far (by simp; omega)⟩, EX.far (by simp; omega), ?_, fun _ => q0 (by omega), fun _ => q1 (by omega), fun _ => hq⟩
            have q := FX.set_ 2 (.int .i64 (x2 - d2))
            simpa [lessTo] using q
          case measure => simp [intOf]
      · rw [show ((3 : Nat) : Int) = (3 : Int) from rfl]
        have p0 := q0 (by omega)
        have p1 := q1 (by omega)
        have p2 := q2 (by omega)
        have Hy : Hid (ThrV.I64 (x0 - d0) ∧ ThrV.I64 (x1 - d1) ∧ ThrV.I64 (x2 - d2)) := by
          show _ ∧ _ ∧ _
          unfold ThrV.I64
          omega
        have HL := Lib.hid (gless.out HF.out (x0 - d0) (x1 - d1) (x2 - d2) (by omega) (by omega) (by omega))
        have F4 : Mem.Blk wr gb 44 #[.int .i64 (x0 - d0), .int .i64 (x1 - d1), .int .i64 (x2 - d2)] := by simpa [lessTo] using F3
        clear F3 q0 q1 q2 gless E3 p0 p1 p2 ld0 ld1 ld2 ud0 ud1 ud2 lx0 lx1 lx2 ux0 ux1 ux2
        generalize x0 - d0 = y0 at *
        generalize x1 - d1 = y1 at *
        generalize x2 - d2 = y2 at *
        go_wp2_with fail
        have S0 : (fun w' => Held w' w.heap.size (w.heap.size + 1) #[.int .i64 k0, .int .i64 k1, .int .i64 k2, .int .i64 a0, .int .i64 a1, .int .i64 a2, .slice A n c, .int .i64 per, .int .i64 ret, .int .i64 age, .int .i64 dead] x0 x1 x2 ∧ Mem.Blk w' gb 44 #[.int .i64 y0, .int .i64 y1, .int .i64 y2]) wr := ⟨D3, F4⟩
        have SD0 : (fun w' => Held w' w.heap.size (w.heap.size + 1) #[.int .i64 k0, .int .i64 k1, .int .i64 k2, .int .i64 a0, .int .i64 a1, .int .i64 a2, .slice A n c, .int .i64 per, .int .i64 ret, .int .i64 age, .int .i64 dead] x0 x1 x2 ∧ Mem.Blk w' gb 44 #[.int .i64 y0, .int .i64 y1, .int .i64 y2]) (World.drew wr) := ⟨⟨S0.1.cfg.drew, S0.1.arr.drew⟩, S0.2.drew⟩
        refine Reg.start (S := (fun w' => Held w' w.heap.size (w.heap.size + 1) #[.int .i64 k0, .int .i64 k1, .int .i64 k2, .int .i64 a0, .int .i64 a1, .int .i64 a2, .slice A n c, .int .i64 per, .int .i64 ret, .int .i64 age, .int .i64 dead] x0 x1 x2 ∧ Mem.Blk w' gb 44 #[.int .i64 y0, .int .i64 y1, .int .i64 y2])) (by kernel_rfl) ?_
        refine Reg.takes (n := 3) (by kernel_rfl) (fun _ _ d _ _ h => by cases d <;> exact h) SD0 [0, 1, 2, 3, 4, 6] _ _ (by kernel_rfl) ?_
        iterate 6 (refine Reg.det_step rfl (fun K' hK' => ?_); go_simp; (first | (refine hK' _ ?_; clear hK' K') | (apply Exists.intro; refine ⟨fun wx hwx => ?_, hK' _ ?_⟩; (first | rfl | (have hA := hwx; intro hB; have m0 : wx.cell? ⟨w.heap.size, 0, none⟩ = some (.int .i64 k0) := (Held.cfg hA).cell 0; have m1 : wx.cell? ⟨w.heap.size, 1, none⟩ = some (.int .i64 k1) := (Held.cfg hA).cell 1; have m2 : wx.cell? ⟨w.heap.size, 2, none⟩ = some (.int .i64 k2) := (Held.cfg hA).cell 2; have m3 : wx.cell? ⟨w.heap.size, 3, none⟩ = some (.int .i64 a0) := (Held.cfg hA).cell 3; have m4 : wx.cell? ⟨w.heap.size, 4, none⟩ = some (.int .i64 a1) := (Held.cfg hA).cell 4; have m5 : wx.cell? ⟨w.heap.size, 5, none⟩ = some (.int .i64 a2) := (Held.cfg hA).cell 5; have m6 : wx.cell? ⟨w.heap.size, 6, none⟩ = some (.slice A n c) := (Held.cfg hA).cell 6; have m7 : wx.cell? ⟨w.heap.size, 7, none⟩ = some (.int .i64 per) := (Held.cfg hA).cell 7; have m8 : wx.cell? ⟨w.heap.size, 8, none⟩ = some (.int .i64 ret) := (Held.cfg hA).cell 8; have m9 : wx.cell? ⟨w.heap.size, 9, none⟩ = some (.int .i64 age) := (Held.cfg hA).cell 9; have m10 : wx.cell? ⟨w.heap.size, 10, none⟩ = some (.int .i64 dead) := (Held.cfg hA).cell 10; have n0 : wx.cell? ⟨w.heap.size + 1, 0, none⟩ = some (.int .i64 x0) := (Held.arr hA).cell 0; have n1 : wx.cell? ⟨w.heap.size + 1, 1, none⟩ = some (.int .i64 x1) := (Held.arr hA).cell 1; have n2 : wx.cell? ⟨w.heap.size + 1, 2, none⟩ = some (.int .i64 x2) := (Held.arr hA).cell 2; have o0 : wx.cell? ⟨gb, 0, none⟩ = some (.int .i64 y0) := Mem.Blk.cell hB 0; have o1 : wx.cell? ⟨gb, 1, none⟩ = some (.int .i64 y1) := Mem.Blk.cell hB 1; have o2 : wx.cell? ⟨gb, 2, none⟩ = some (.int .i64 y2) := Mem.Blk.cell hB 2; go_simp; first | done | rfl)); clear hK' K')))
        refine Reg.det_nil ?_
        refine Reg.one (i := 5) (n := 2) (by kernel_rfl) ?_
        refine Reg.call rfl rfl (by go_simp; exact ⟨rfl, rfl⟩) ?_
        refine (gstep.out HF.out _ x0 x1 x2 hbr.drew Hx.out.1 Hx.out.2.1 Hx.out.2.2).mono ?_
        rintro e v1 ⟨A1, c1, rfl, R1, hb1⟩
        have LL1 : Below w.heap.size w v1 := hbr.drew.trans (hb1.mono hbr.drew.size)
        have SS1 : (fun w' => Held w' w.heap.size (w.heap.size + 1) #[.int .i64 k0, .int .i64 k1, .int .i64 k2, .int .i64 a0, .int .i64 a1, .int .i64 a2, .slice A n c, .int .i64 per, .int .i64 ret, .int .i64 age, .int .i64 dead] x0 x1 x2 ∧ Mem.Blk w' gb 44 #[.int .i64 y0, .int .i64 y1, .int .i64 y2]) v1 := ⟨Held.belowS SD0.1 hb1, Mem.Blk.belowS SD0.2 hb1⟩
        refine ⟨_, rfl, SS1, ?_⟩
        refine Reg.one (i := 7) (n := 1) (by kernel_rfl) ?_
        refine Reg.call rfl rfl (by go_simp; exact ⟨rfl, rfl⟩) ?_
        refine (ghold.out HF.out _ x0 x1 x2 A1 c1 LL1 (by exact own_sl R1)).mono ?_
        rintro e v2 ⟨A2, c2, rfl, R2, hb2⟩
        have LL2 : Below w.heap.size w v2 := LL1.trans (hb2.mono LL1.size)
        have SS2 : (fun w' => Held w' w.heap.size (w.heap.size + 1) #[.int .i64 k0, .int .i64 k1, .int .i64 k2, .int .i64 a0, .int .i64 a1, .int .i64 a2, .slice A n c, .int .i64 per, .int .i64 ret, .int .i64 age, .int .i64 dead] x0 x1 x2 ∧ Mem.Blk w' gb 44 #[.int .i64 y0, .int .i64 y1, .int .i64 y2]) v2 := ⟨Held.belowS SS1.1 hb2, Mem.Blk.belowS SS1.2 hb2⟩
        refine ⟨_, rfl, SS2, ?_⟩
        refine Reg.takes (n := 0) (by kernel_rfl) (fun _ _ d _ _ h => by cases d <;> exact h) SS2 [8] _ _ (by kernel_rfl) ?_
        iterate 1 (refine Reg.det_step rfl (fun K' hK' => ?_); go_simp; (first | (refine hK' _ ?_; clear hK' K') | (apply Exists.intro; refine ⟨fun wx hwx => ?_, hK' _ ?_⟩; (first | rfl | (have hA := hwx; intro hB; have m0 : wx.cell? ⟨w.heap.size, 0, none⟩ = some (.int .i64 k0) := (Held.cfg hA).cell 0; have m1 : wx.cell? ⟨w.heap.size, 1, none⟩ = some (.int .i64 k1) := (Held.cfg hA).cell 1; have m2 : wx.cell? ⟨w.heap.size, 2, none⟩ = some (.int .i64 k2) := (Held.cfg hA).cell 2; have m3 : wx.cell? ⟨w.heap.size, 3, none⟩ = some (.int .i64 a0) := (Held.cfg hA).cell 3; have m4 : wx.cell? ⟨w.heap.size, 4, none⟩ = some (.int .i64 a1) := (Held.cfg hA).cell 4; have m5 : wx.cell? ⟨w.heap.size, 5, none⟩ = some (.int .i64 a2) := (Held.cfg hA).cell 5; have m6 : wx.cell? ⟨w.heap.size, 6, none⟩ = some (.slice A n c) := (Held.cfg hA).cell 6; have m7 : wx.cell? ⟨w.heap.size, 7, none⟩ = some (.int .i64 per) := (Held.cfg hA).cell 7; have m8 : wx.cell? ⟨w.heap.size, 8, none⟩ = some (.int .i64 ret) := (Held.cfg hA).cell 8; have m9 : wx.cell? ⟨w.heap.size, 9, none⟩ = some (.int .i64 age) := (Held.cfg hA).cell 9; have m10 : wx.cell? ⟨w.heap.size, 10, none⟩ = some (.int .i64 dead) := (Held.cfg hA).cell 10; have n0 : wx.cell? ⟨w.heap.size + 1, 0, none⟩ = some (.int .i64 x0) := (Held.arr hA).cell 0; have n1 : wx.cell? ⟨w.heap.size + 1, 1, none⟩ = some (.int .i64 x1) := (Held.arr hA).cell 1; have n2 : wx.cell? ⟨w.heap.size + 1, 2, none⟩ = some (.int .i64 x2) := (Held.arr hA).cell 2; have o0 : wx.cell? ⟨gb, 0, none⟩ = some (.int .i64 y0) := Mem.Blk.cell hB 0; have o1 : wx.cell? ⟨gb, 1, none⟩ = some (.int .i64 y1) := Mem.Blk.cell hB 1; have o2 : wx.cell? ⟨gb, 2, none⟩ = some (.int .i64 y2) := Mem.Blk.cell hB 2; go_simp; first | done | rfl)); clear hK' K')))
        refine Reg.det_nil ?_
        refine wpAnyH_done (by kernel_rfl) ?_ _
        go_wp2_with fail
        have SD1 : (fun w' => Held w' w.heap.size (w.heap.size + 1) #[.int .i64 k0, .int .i64 k1, .int .i64 k2, .int .i64 a0, .int .i64 a1, .int .i64 a2, .slice A n c, .int .i64 per, .int .i64 ret, .int .i64 age, .int .i64 dead] x0 x1 x2 ∧ Mem.Blk w' gb 44 #[.int .i64 y0, .int .i64 y1, .int .i64 y2]) (World.drew v2) := ⟨⟨SS2.1.cfg.drew, SS2.1.arr.drew⟩, SS2.2.drew⟩
        refine Reg.start (S := (fun w' => Held w' w.heap.size (w.heap.size + 1) #[.int .i64 k0, .int .i64 k1, .int .i64 k2, .int .i64 a0, .int .i64 a1, .int .i64 a2, .slice A n c, .int .i64 per, .int .i64 ret, .int .i64 age, .int .i64 dead] x0 x1 x2 ∧ Mem.Blk w' gb 44 #[.int .i64 y0, .int .i64 y1, .int .i64 y2])) (by kernel_rfl) ?_
        refine Reg.takes (n := 3) (by kernel_rfl) (fun _ _ d _ _ h => by cases d <;> exact h) SD1 [0, 1, 2, 3, 4, 6] _ _ (by kernel_rfl) ?_
        iterate 6 (refine Reg.det_step rfl (fun K' hK' => ?_); go_simp; (first | (refine hK' _ ?_; clear hK' K') | (apply Exists.intro; refine ⟨fun wx hwx => ?_, hK' _ ?_⟩; (first | rfl | (have hA := hwx; intro hB; have m0 : wx.cell? ⟨w.heap.size, 0, none⟩ = some (.int .i64 k0) := (Held.cfg hA).cell 0; have m1 : wx.cell? ⟨w.heap.size, 1, none⟩ = some (.int .i64 k1) := (Held.cfg hA).cell 1; have m2 : wx.cell? ⟨w.heap.size, 2, none⟩ = some (.int .i64 k2) := (Held.cfg hA).cell 2; have m3 : wx.cell? ⟨w.heap.size, 3, none⟩ = some (.int .i64 a0) := (Held.cfg hA).cell 3; have m4 : wx.cell? ⟨w.heap.size, 4, none⟩ = some (.int .i64 a1) := (Held.cfg hA).cell 4; have m5 : wx.cell? ⟨w.heap.size, 5, none⟩ = some (.int .i64 a2) := (Held.cfg hA).cell 5; have m6 : wx.cell? ⟨w.heap.size, 6, none⟩ = some (.slice A n c) := (Held.cfg hA).cell 6; have m7 : wx.cell? ⟨w.heap.size, 7, none⟩ = some (.int .i64 per) := (Held.cfg hA).cell 7; have m8 : wx.cell? ⟨w.heap.size, 8, none⟩ = some (.int .i64 ret) := (Held.cfg hA).cell 8; have m9 : wx.cell? ⟨w.heap.size, 9, none⟩ = some (.int .i64 age) := (Held.cfg hA).cell 9; have m10 : wx.cell? ⟨w.heap.size, 10, none⟩ = some (.int .i64 dead) := (Held.cfg hA).cell 10; have n0 : wx.cell? ⟨w.heap.size + 1, 0, none⟩ = some (.int .i64 x0) := (Held.arr hA).cell 0; have n1 : wx.cell? ⟨w.heap.size + 1, 1, none⟩ = some (.int .i64 x1) := (Held.arr hA).cell 1; have n2 : wx.cell? ⟨w.heap.size + 1, 2, none⟩ = some (.int .i64 x2) := (Held.arr hA).cell 2; have o0 : wx.cell? ⟨gb, 0, none⟩ = some (.int .i64 y0) := Mem.Blk.cell hB 0; have o1 : wx.cell? ⟨gb, 1, none⟩ = some (.int .i64 y1) := Mem.Blk.cell hB 1; have o2 : wx.cell? ⟨gb, 2, none⟩ = some (.int .i64 y2) := Mem.Blk.cell hB 2; go_simp; first | done | rfl)); clear hK' K')))
        refine Reg.det_nil ?_
        refine Reg.one (i := 5) (n := 2) (by kernel_rfl) ?_
        refine Reg.call rfl rfl (by go_simp; exact ⟨rfl, rfl⟩) ?_
        refine (gstep.out HF.out _ y0 y1 y2 LL2.drew Hy.out.1 Hy.out.2.1 Hy.out.2.2).mono ?_
        rintro e v3 ⟨A3, c3, rfl, R3, hb3⟩
        have LL3 : Below w.heap.size w v3 := LL2.drew.trans (hb3.mono LL2.drew.size)
        have SS3 : (fun w' => Held w' w.heap.size (w.heap.size + 1) #[.int .i64 k0, .int .i64 k1, .int .i64 k2, .int .i64 a0, .int .i64 a1, .int .i64 a2, .slice A n c, .int .i64 per, .int .i64 ret, .int .i64 age, .int .i64 dead] x0 x1 x2 ∧ Mem.Blk w' gb 44 #[.int .i64 y0, .int .i64 y1, .int .i64 y2]) v3 := ⟨Held.belowS SD1.1 hb3, Mem.Blk.belowS SD1.2 hb3⟩
        have RX3 : BRow v3 v1.heap.size A2 m c2 ((HLD x0 x1 x2).map .bool) := own_below (World.ownsRow.drew R2) hb3 (Nat.le_refl _)
        refine ⟨_, rfl, SS3, ?_⟩
        refine Reg.one (i := 7) (n := 1) (by kernel_rfl) ?_
        refine Reg.call rfl rfl (by go_simp; exact ⟨rfl, rfl⟩) ?_
        refine (ghold.out HF.out _ y0 y1 y2 A3 c3 LL3 (by exact own_sl R3)).mono ?_
        rintro e v4 ⟨A4, c4, rfl, R4, hb4⟩
        have LL4 : Below w.heap.size w v4 := LL3.trans (hb4.mono LL3.size)
        have SS4 : (fun w' => Held w' w.heap.size (w.heap.size + 1) #[.int .i64 k0, .int .i64 k1, .int .i64 k2, .int .i64 a0, .int .i64 a1, .int .i64 a2, .slice A n c, .int .i64 per, .int .i64 ret, .int .i64 age, .int .i64 dead] x0 x1 x2 ∧ Mem.Blk w' gb 44 #[.int .i64 y0, .int .i64 y1, .int .i64 y2]) v4 := ⟨Held.belowS SS3.1 hb4, Mem.Blk.belowS SS3.2 hb4⟩
        have RX4 : BRow v4 v1.heap.size A2 m c2 ((HLD x0 x1 x2).map .bool) := own_below RX3 hb4 (Nat.le_refl _)
        refine ⟨_, rfl, SS4, ?_⟩
        refine Reg.takes (n := 0) (by kernel_rfl) (fun _ _ d _ _ h => by cases d <;> exact h) SS4 [8] _ _ (by kernel_rfl) ?_
        iterate 1 (refine Reg.det_step rfl (fun K' hK' => ?_); go_simp; (first | (refine hK' _ ?_; clear hK' K') | (apply Exists.intro; refine ⟨fun wx hwx => ?_, hK' _ ?_⟩; (first | rfl | (have hA := hwx; intro hB; have m0 : wx.cell? ⟨w.heap.size, 0, none⟩ = some (.int .i64 k0) := (Held.cfg hA).cell 0; have m1 : wx.cell? ⟨w.heap.size, 1, none⟩ = some (.int .i64 k1) := (Held.cfg hA).cell 1; have m2 : wx.cell? ⟨w.heap.size, 2, none⟩ = some (.int .i64 k2) := (Held.cfg hA).cell 2; have m3 : wx.cell? ⟨w.heap.size, 3, none⟩ = some (.int .i64 a0) := (Held.cfg hA).cell 3; have m4 : wx.cell? ⟨w.heap.size, 4, none⟩ = some (.int .i64 a1) := (Held.cfg hA).cell 4; have m5 : wx.cell? ⟨w.heap.size, 5, none⟩ = some (.int .i64 a2) := (Held.cfg hA).cell 5; have m6 : wx.cell? ⟨w.heap.size, 6, none⟩ = some (.slice A n c) := (Held.cfg hA).cell 6; have m7 : wx.cell? ⟨w.heap.size, 7, none⟩ = some (.int .i64 per) := (Held.cfg hA).cell 7; have m8 : wx.cell? ⟨w.heap.size, 8, none⟩ = some (.int .i64 ret) := (Held.cfg hA).cell 8; have m9 : wx.cell? ⟨w.heap.size, 9, none⟩ = some (.int .i64 age) := (Held.cfg hA).cell 9; have m10 : wx.cell? ⟨w.heap.size, 10, none⟩ = some (.int .i64 dead) := (Held.cfg hA).cell 10; have n0 : wx.cell? ⟨w.heap.size + 1, 0, none⟩ = some (.int .i64 x0) := (Held.arr hA).cell 0; have n1 : wx.cell? ⟨w.heap.size + 1, 1, none⟩ = some (.int .i64 x1) := (Held.arr hA).cell 1; have n2 : wx.cell? ⟨w.heap.size + 1, 2, none⟩ = some (.int .i64 x2) := (Held.arr hA).cell 2; have o0 : wx.cell? ⟨gb, 0, none⟩ = some (.int .i64 y0) := Mem.Blk.cell hB 0; have o1 : wx.cell? ⟨gb, 1, none⟩ = some (.int .i64 y1) := Mem.Blk.cell hB 1; have o2 : wx.cell? ⟨gb, 2, none⟩ = some (.int .i64 y2) := Mem.Blk.cell hB 2; go_simp; first | done | rfl)); clear hK' K')))
        refine Reg.det_nil ?_
        refine wpAnyH_done (by kernel_rfl) ?_ _
        have m0 : v4.cell? ⟨w.heap.size, 0, none⟩ = some (.int .i64 k0) := SS4.1.cfg.cell 0
        have m1 : v4.cell? ⟨w.heap.size, 1, none⟩ = some (.int .i64 k1) := SS4.1.cfg.cell 1
        have m2 : v4.cell? ⟨w.heap.size, 2, none⟩ = some (.int .i64 k2) := SS4.1.cfg.cell 2
        have m3 : v4.cell? ⟨w.heap.size, 3, none⟩ = some (.int .i64 a0) := SS4.1.cfg.cell 3
        have m4 : v4.cell? ⟨w.heap.size, 4, none⟩ = some (.int .i64 a1) := SS4.1.cfg.cell 4
        have m5 : v4.cell? ⟨w.heap.size, 5, none⟩ = some (.int .i64 a2) := SS4.1.cfg.cell 5
        have m6 : v4.cell? ⟨w.heap.size, 6, none⟩ = some (.slice A n c) := SS4.1.cfg.cell 6
        have m7 : v4.cell? ⟨w.heap.size, 7, none⟩ = some (.int .i64 per) := SS4.1.cfg.cell 7
        have m8 : v4.cell? ⟨w.heap.size, 8, none⟩ = some (.int .i64 ret) := SS4.1.cfg.cell 8
        have m9 : v4.cell? ⟨w.heap.size, 9, none⟩ = some (.int .i64 age) := SS4.1.cfg.cell 9
        have m10 : v4.cell? ⟨w.heap.size, 10, none⟩ = some (.int .i64 dead) := SS4.1.cfg.cell 10
        have n0 : v4.cell? ⟨w.heap.size + 1, 0, none⟩ = some (.int .i64 x0) := SS4.1.arr.cell 0
        have n1 : v4.cell? ⟨w.heap.size + 1, 1, none⟩ = some (.int .i64 x1) := SS4.1.arr.cell 1
        have n2 : v4.cell? ⟨w.heap.size + 1, 2, none⟩ = some (.int .i64 x2) := SS4.1.arr.cell 2
        have o0 : v4.cell? ⟨gb, 0, none⟩ = some (.int .i64 y0) := SS4.2.cell 0
        have o1 : v4.cell? ⟨gb, 1, none⟩ = some (.int .i64 y1) := SS4.2.cell 1
        have o2 : v4.cell? ⟨gb, 2, none⟩ = some (.int .i64 y2) := SS4.2.cell 2
        go_wp2_with fail
        refine (gmet.out HF.out _ x0 x1 x2 LL4 Hx.out.1 Hx.out.2.1 Hx.out.2.2).mono ?_
        rintro e v5 ⟨A5, c5, rfl, R5, hb5⟩
        have LL5 : Below w.heap.size w v5 := LL4.trans (hb5.mono LL4.size)
        have SS5 : (fun w' => Held w' w.heap.size (w.heap.size + 1) #[.int .i64 k0, .int .i64 k1, .int .i64 k2, .int .i64 a0, .int .i64 a1, .int .i64 a2, .slice A n c, .int .i64 per, .int .i64 ret, .int .i64 age, .int .i64 dead] x0 x1 x2 ∧ Mem.Blk w' gb 44 #[.int .i64 y0, .int .i64 y1, .int .i64 y2]) v5 := ⟨Held.belowS SS4.1 hb5, Mem.Blk.belowS SS4.2 hb5⟩
        have RX5 : BRow v5 v1.heap.size A2 m c2 ((HLD x0 x1 x2).map .bool) := own_below RX4 hb5 (Nat.le_refl _)
        have RY5 : BRow v5 v3.heap.size A4 m c4 ((HLD y0 y1 y2).map .bool) := own_below R4 hb5 (Nat.le_refl _)
        clear m0 m1 m2 m3 m4 m5 m6 m7 m8 m9 m10 n0 n1 n2 o0 o1 o2
        have m0 : v5.cell? ⟨w.heap.size, 0, none⟩ = some (.int .i64 k0) := SS5.1.cfg.cell 0
        have m1 : v5.cell? ⟨w.heap.size, 1, none⟩ = some (.int .i64 k1) := SS5.1.cfg.cell 1
        have m2 : v5.cell? ⟨w.heap.size, 2, none⟩ = some (.int .i64 k2) := SS5.1.cfg.cell 2
        have m3 : v5.cell? ⟨w.heap.size, 3, none⟩ = some (.int .i64 a0) := SS5.1.cfg.cell 3
        have m4 : v5.cell? ⟨w.heap.size, 4, none⟩ = some (.int .i64 a1) := SS5.1.cfg.cell 4
        have m5 : v5.cell? ⟨w.heap.size, 5, none⟩ = some (.int .i64 a2) := SS5.1.cfg.cell 5
        have m6 : v5.cell? ⟨w.heap.size, 6, none⟩ = some (.slice A n c) := SS5.1.cfg.cell 6
        have m7 : v5.cell? ⟨w.heap.size, 7, none⟩ = some (.int .i64 per) := SS5.1.cfg.cell 7
        have m8 : v5.cell? ⟨w.heap.size, 8, none⟩ = some (.int .i64 ret) := SS5.1.cfg.cell 8
        have m9 : v5.cell? ⟨w.heap.size, 9, none⟩ = some (.int .i64 age) := SS5.1.cfg.cell 9
        have m10 : v5.cell? ⟨w.heap.size, 10, none⟩ = some (.int .i64 dead) := SS5.1.cfg.cell 10
        have n0 : v5.cell? ⟨w.heap.size + 1, 0, none⟩ = some (.int .i64 x0) := SS5.1.arr.cell 0
        have n1 : v5.cell? ⟨w.heap.size + 1, 1, none⟩ = some (.int .i64 x1) := SS5.1.arr.cell 1
        have n2 : v5.cell? ⟨w.heap.size + 1, 2, none⟩ = some (.int .i64 x2) := SS5.1.arr.cell 2
        have o0 : v5.cell? ⟨gb, 0, none⟩ = some (.int .i64 y0) := SS5.2.cell 0
        have o1 : v5.cell? ⟨gb, 1, none⟩ = some (.int .i64 y1) := SS5.2.cell 1
        have o2 : v5.cell? ⟨gb, 2, none⟩ = some (.int .i64 y2) := SS5.2.cell 2
        go_wp2_with fail
        refine (gmet.out HF.out _ y0 y1 y2 LL5 Hy.out.1 Hy.out.2.1 Hy.out.2.2).mono ?_
        rintro e v6 ⟨A6, c6, rfl, R6, hb6⟩
        have LL6 : Below w.heap.size w v6 := LL5.trans (hb6.mono LL5.size)
        have SS6 : (fun w' => Held w' w.heap.size (w.heap.size + 1) #[.int .i64 k0, .int .i64 k1, .int .i64 k2, .int .i64 a0, .int .i64 a1, .int .i64 a2, .slice A n c, .int .i64 per, .int .i64 ret, .int .i64 age, .int .i64 dead] x0 x1 x2 ∧ Mem.Blk w' gb 44 #[.int .i64 y0, .int .i64 y1, .int .i64 y2]) v6 := ⟨Held.belowS SS5.1 hb6, Mem.Blk.belowS SS5.2 hb6⟩
        have sX : Mem.Sl v6 v6.heap.size 1 A2 m ((HLD x0 x1 x2).map Value.bool) := own_sl (own_below RX5 hb6 (Nat.le_refl _))
        have sY : Mem.Sl v6 v6.heap.size 1 A4 m ((HLD y0 y1 y2).map Value.bool) := own_sl (own_below RY5 hb6 (Nat.le_refl _))
        have sM : Mem.Sl v6 v6.heap.size 1 A5 m ((MTL x0 x1 x2).map Value.bool) := own_sl (own_below R5 hb6 (Nat.le_refl _))
        have sN : Mem.Sl v6 v6.heap.size 1 A6 m ((MTL y0 y1 y2).map Value.bool) := own_sl R6
        generalize HLD x0 x1 x2 = LX at *
        generalize HLD y0 y1 y2 = LY at *
        generalize MTL x0 x1 x2 = LM at *
        generalize MTL y0 y1 y2 = LN at *
        clear R1 R2 R3 R4 R5 R6 RX3 RX4 RX5 RY5 hb1 hb2 hb3 hb4 hb5 hb6 SS1 SS2 SS3 SS4 SS5 SS6 S0 SD0 SD1 D3 F4 LL1 LL2 LL3 LL4 LL5 gstep ghold gmet m0 m1 m2 m3 m4 m5 m6 m7 m8 m9 m10 n0 n1 n2 o0 o1 o2
        go_wp2_with fail
        go_loop [17] (fun vk => ∃ k : Nat, k ≤ m ∧ vk = .int .i64 k) (fun k => m - (intOf k).toNat)
        case atStart => exact ⟨0, by omega, rfl⟩
        case round =>
          obtain ⟨k, hk, rfl⟩ := hrel
          by_cases hlt : k < m
          · obtain ⟨b2, rfl, cx⟩ := sl_bool sX hlt
            obtain ⟨b4, rfl, cy⟩ := sl_bool sY hlt
            obtain ⟨b5, rfl, cm⟩ := sl_bool sM hlt
            obtain ⟨b6, rfl, cn⟩ := sl_bool sN hlt
            obtain ⟨xy, mn, xm⟩ := HL.out k hlt
            generalize LX.getD k false = X at *
            generalize LY.getD k false = Y at *
            generalize LM.getD k false = M at *
            generalize LN.getD k false = N at *
            cases X with
            | true =>
              obtain rfl := xy rfl
              obtain rfl := xm rfl
              obtain rfl := mn rfl
              clear xy xm mn
              go_wp2_with fail
              go_round
              case rel => exact ⟨k + 1, by omega, by go_num⟩
              case measure => simp [intOf]; omega
            | false =>
              clear xy xm
              cases M with
              | true =>
                obtain rfl := mn rfl
                clear mn
                go_wp2_with fail
                go_round
                case rel => exact ⟨k + 1, by omega, by go_num⟩
                case measure => simp [intOf]; omega
              | false =>
                clear mn
                go_wp2_with fail
                go_round
                case rel => exact ⟨k + 1, by omega, by go_num⟩
                case measure => simp [intOf]; omega
          · obtain rfl : k = m := by omega
            go_wp2_with fail
            go_ret
            exact ⟨rfl, LL6⟩
theorem walk (v1 v2 v3 v4 v5 : Value) (w : World) (h1 : Frame.Arg Try.prog w 47 v1) (h2 : Frame.Arg Try.prog w 36 v2) (h3 : Frame.Arg Try.prog w 3 v3) (h4 : Frame.Arg Try.prog w 44 v4) (h5 : Frame.Arg Try.prog w 71 v5) :
    Calls Try.prog 13 #[v1, v2, v3, v4, v5] w fun e w' => e = .returned (.bool true) ∧ Below w.heap.size w w' := by
  obtain ⟨p, ths, rfl, hp⟩ := CfgV.of_arg h1
  obtain ⟨S, m, sc, zs, rfl, hms, hsm, hz, _⟩ := h2.ints Try.underlying36 Try.underlying3 (by kernel_rfl)
  obtain ⟨round, rfl, _⟩ := h3.int Try.underlying3
  obtain ⟨x0, x1, x2, rfl, e0, e1, e2⟩ := h4.three Try.underlying44 Try.underlying3 (by kernel_rfl) (by kernel_rfl)
  obtain ⟨d0, d1, d2, rfl, f0, f1, f2⟩ := h5.three Try.underlying71 Try.underlying40 (by kernel_rfl) (by kernel_rfl)
  unfold maxLen at hsm
  exact core p ths S m sc zs round x0 x1 x2 d0 d1 d2 w hp hz (by omega) (Frame.bd_i64 e0) (Frame.bd_i64 e1) (Frame.bd_i64 e2) (Frame.bd_u16 f0) (Frame.bd_u16 f1) (Frame.bd_u16 f2)
end graceLess
end Go.Proofs.Ytjfbnobijlkicaa
