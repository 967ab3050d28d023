/- GraceSteps: the walk. -/
import Derived.Test.YtjfbnobijlkicaaGraceH
namespace Go.Proofs.Ytjfbnobijlkicaa
open Go.RowKit
namespace graceSteps
open Grc
theorem nevers_ints (n : Nat) : nevers n = (List.replicate n (-1)).map (Value.int .i64) := by simp [nevers]
set_option maxRecDepth 100000 in
set_option maxHeartbeats 8000000 in
theorem core (p : CfgV) (ths : List ThrV) (S : Option Addr) (m sc : Nat) (zs : List Int) (round x0 x1 x2 : Int) (w : World) (hp : p.ok w w.heap.size ths) (hz : Mem.Ints w w.heap.size .i64 S m zs) (hm : m ≤ 9223372036854775807)
    (hx0 : ThrV.I64 x0) (hx1 : ThrV.I64 x1) (hx2 : ThrV.I64 x2) :
    Calls Try.prog 9 #[.agg p.arr, .slice S m sc, .agg #[.int .i64 x0, .int .i64 x1, .int .i64 x2], .int .i64 round] w fun e w' => e = .returned (.bool true) ∧ Below w.heap.size w w' := by
  have hfit : Hid (∀ w', Below w.heap.size w w' → Calls Try.prog 28 #[.agg p.arr, .slice S m sc, .int .i64 round] w' (OkSaid (FitP p ths m zs round) w')) := fun w' hb => fit_c p ths S m sc zs round w' ((hp.below hb).more hb.size) ((hz.below hb).more hb.size) hm
  have hbeg : Hid (FitP p ths m zs round → ∀ w', Calls Try.prog 31 #[.agg p.arr] w' (NewI m (nevers m) w')) := by
    intro hf w'
    obtain ⟨hr, rfl, _, _, _⟩ := hf
    exact begin_c p w' (by have := hr.n; omega)
  have hrbeg : Hid (FitP p ths m zs round → ∀ w', Calls Try.prog 32 #[.agg p.arr] w' (NewI m (nevers m) w')) := by
    intro hf w'
    obtain ⟨hr, rfl, _, _, _⟩ := hf
    exact rbegin_c p w' (by have := hr.n; omega)
  have hmet : Hid (FitP p ths m zs round → ∀ w', Below w.heap.size w w' → Calls Try.prog 34 #[.agg p.arr, .agg #[.int .i64 x0, .int .i64 x1, .int .i64 x2]] w' (NewB m ((metL p x0 x1 x2 ths).map .bool) w')) := by
    intro hf w' hb
    obtain ⟨hr, rfl, _, _, _⟩ := hf
    exact met_c p ths x0 x1 x2 w' ((hp.below hb).more hb.size) (by have := hr.n; omega) hr.each hx0 hx1 hx2
  have hrmet : Hid (FitP p ths m zs round → ∀ w', Below w.heap.size w w' → Calls Try.prog 35 #[.agg p.arr, .agg #[.int .i64 x0, .int .i64 x1, .int .i64 x2]] w' (NewB m ((metL p x0 x1 x2 ths).map .bool) w')) := by
    intro hf w' hb
    obtain ⟨hr, rfl, _, _, _⟩ := hf
    exact rmetl_c p ths x0 x1 x2 w' ((hp.below hb).more hb.size) (by have := hr.n; omega) hr.each hx0 hx1 hx2
  have hstep : Hid (FitP p ths m zs round → ∀ w', Below w.heap.size w w' → Calls Try.prog 29 #[.agg p.arr, .slice S m sc, .agg #[.int .i64 x0, .int .i64 x1, .int .i64 x2], .int .i64 round] w' (NewI m ((stepL (metL p x0 x1 x2 ths) zs round).map (.int .i64)) w')) := by
    intro hf w' hb
    obtain ⟨hr, rfl, _, _, _⟩ := hf
    exact step_c p ths S sc zs x0 x1 x2 round w' ((hp.below hb).more hb.size) (by have := hr.n; omega) hr.each hx0 hx1 hx2 ((hz.below hb).more hb.size)
  have hrstep : Hid (FitP p ths m zs round → ∀ w', Below w.heap.size w w' → Calls Try.prog 36 #[.agg p.arr, .slice S m sc, .agg #[.int .i64 x0, .int .i64 x1, .int .i64 x2], .int .i64 round] w' (NewI m ((stepL (metL p x0 x1 x2 ths) zs round).map (.int .i64)) w')) := by
    intro hf w' hb
    obtain ⟨hr, rfl, _, _, hzf⟩ := hf
    exact rstep_c p ths S sc zs x0 x1 x2 round w' ((hp.below hb).more hb.size) (by have := hr.n; omega) hr.each hx0 hx1 hx2 ((hz.below hb).more hb.size) (fun z hz => (hzf z hz).1)
  have hhold : Hid (FitP p ths m zs round → ∀ (w' : World) (A' : Option Addr) (c' : Nat) (Z : List Int), FitZ Z round → Below w.heap.size w w' → Mem.Ints w' w'.heap.size .i64 A' m Z → Calls Try.prog 37 #[.agg p.arr, .slice A' m c', .int .i64 round] w' (NewB m ((holdL ths Z round).map .bool) w')) := by
    intro hf w' A' c' Z hzz hb hs
    obtain ⟨hr, rfl, h0, h1, _⟩ := hf
    exact hold_c p ths A' c' Z round w' ((hp.below hb).more hb.size) (by have := hr.n; omega) h0 (by omega) hzz hs
  have hrhold : Hid (FitP p ths m zs round → ∀ (w' : World) (A' : Option Addr) (c' : Nat) (Z : List Int), FitZ Z round → Below w.heap.size w w' → Mem.Ints w' w'.heap.size .i64 A' m Z → Calls Try.prog 38 #[.agg p.arr, .slice A' m c', .int .i64 round] w' (NewB m ((holdL ths Z round).map .bool) w')) := by
    intro hf w' A' c' Z hzz hb hs
    obtain ⟨hr, rfl, h0, h1, _⟩ := hf
    exact rhold_c p ths A' c' Z round w' ((hp.below hb).more hb.size) (by have := hr.n; omega) hr.each h0 (by omega) hzz hs
  have hfz : Hid (FitP p ths m zs round → FitZ zs round ∧ FitZ (stepL (metL p x0 x1 x2 ths) zs round) round) := fun hf => ⟨hf.2.2.2.2, stepL_fit hf.2.2.1 hf.2.2.2.2⟩
  clear hp hx0 hx1 hx2
  obtain ⟨FP, hFP⟩ : ∃ FP : Prop, FP = FitP p ths m zs round := ⟨_, rfl⟩
  rw [← hFP] at hfit hbeg hrbeg hmet hrmet hstep hrstep hhold hrhold hfz
  clear hFP
  generalize stepL (metL p x0 x1 x2 ths) zs round = ST at *
  generalize metL p x0 x1 x2 ths = ML at *
  obtain ⟨k0, k1, k2, a0, a1, a2, A, n, c, per, ret, age, dead⟩ := p
  unfold CfgV.arr at hfit hbeg hrbeg hmet hrmet hstep hrstep hhold hrhold ⊢
  dsimp only at hfit hbeg hrbeg hmet hrmet hstep hrstep hhold hrhold ⊢
  go_enter Try.func9, Try.ntmps9
  go_wp2_with fail
  refine (gawake_c _).mono ?_
  rintro e w1 ⟨rfl, hb1⟩
  have L1 : Below w.heap.size w w1 := (((Below.refl _ _).alloc (Nat.le_refl _) _).alloc (by simp) _).trans (hb1.mono (by simp <;> omega))
  have C1 : Mem.Blk w1 w.heap.size 47 #[.int .i64 k0, .int .i64 k1, .int .i64 k2, .int .i64 a0, .int .i64 a1, .int .i64 a2, .slice A n c, .int .i64 per, .int .i64 ret, .int .i64 age, .int .i64 dead] := Mem.Blk.new.alloc.belowS hb1
  have D1 : Mem.Blk w1 (w.heap.size + 1) 44 #[.int .i64 x0, .int .i64 x1, .int .i64 x2] := by
    have q := Mem.Blk.new (w := w.alloc (.cells #[.int .i64 k0, .int .i64 k1, .int .i64 k2, .int .i64 a0, .int .i64 a1, .int .i64 a2, .slice A n c, .int .i64 per, .int .i64 ret, .int .i64 age, .int .i64 dead] 47)) (t := 44) (cs := #[.int .i64 x0, .int .i64 x1, .int .i64 x2])
    rw [World.size_alloc] at q
    exact q.belowS hb1
  clear hb1
  have m0 : w1.cell? ⟨w.heap.size, 0, none⟩ = some (.int .i64 k0) := C1.cell 0
  have m1 : w1.cell? ⟨w.heap.size, 1, none⟩ = some (.int .i64 k1) := C1.cell 1
  have m2 : w1.cell? ⟨w.heap.size, 2, none⟩ = some (.int .i64 k2) := C1.cell 2
  have m3 : w1.cell? ⟨w.heap.size, 3, none⟩ = some (.int .i64 a0) := C1.cell 3
  have m4 : w1.cell? ⟨w.heap.size, 4, none⟩ = some (.int .i64 a1) := C1.cell 4
  have m5 : w1.cell? ⟨w.heap.size, 5, none⟩ = some (.int .i64 a2) := C1.cell 5
  have m6 : w1.cell? ⟨w.heap.size, 6, none⟩ = some (.slice A n c) := C1.cell 6
  have m7 : w1.cell? ⟨w.heap.size, 7, none⟩ = some (.int .i64 per) := C1.cell 7
  have m8 : w1.cell? ⟨w.heap.size, 8, none⟩ = some (.int .i64 ret) := C1.cell 8
  have m9 : w1.cell? ⟨w.heap.size, 9, none⟩ = some (.int .i64 age) := C1.cell 9
  have m10 : w1.cell? ⟨w.heap.size, 10, none⟩ = some (.int .i64 dead) := C1.cell 10
  go_wp2_with fail
  refine (hfit.out _ L1).mono ?_
  rintro e w2 ⟨b, rfl, hfb, hb2⟩
  have L2 : Below w.heap.size w w2 := L1.trans (hb2.mono L1.size)
  have C2 := C1.belowS hb2
  have D2 := D1.belowS hb2
  clear hb2 C1 D1 L1 m0 m1 m2 m3 m4 m5 m6 m7 m8 m9 m10
  cases b with
  | false =>
    clear hfb
    go_wp2_with fail
    refine (gawake_c _).mono ?_
    rintro e w9 ⟨rfl, hb9⟩
    go_wp2_with fail
    go_ret
    exact ⟨rfl, L2.trans (hb9.mono L2.size)⟩
  | true =>
    have HF := Lib.hid (hfb rfl)
    have HZ := Lib.hid (hfz.out HF.out)
    clear hfb hfit hfz
    have m0 : w2.cell? ⟨w.heap.size, 0, none⟩ = some (.int .i64 k0) := C2.cell 0
    have m1 : w2.cell? ⟨w.heap.size, 1, none⟩ = some (.int .i64 k1) := C2.cell 1
    have m2 : w2.cell? ⟨w.heap.size, 2, none⟩ = some (.int .i64 k2) := C2.cell 2
    have m3 : w2.cell? ⟨w.heap.size, 3, none⟩ = some (.int .i64 a0) := C2.cell 3
    have m4 : w2.cell? ⟨w.heap.size, 4, none⟩ = some (.int .i64 a1) := C2.cell 4
    have m5 : w2.cell? ⟨w.heap.size, 5, none⟩ = some (.int .i64 a2) := C2.cell 5
    have m6 : w2.cell? ⟨w.heap.size, 6, none⟩ = some (.slice A n c) := C2.cell 6
    have m7 : w2.cell? ⟨w.heap.size, 7, none⟩ = some (.int .i64 per) := C2.cell 7
    have m8 : w2.cell? ⟨w.heap.size, 8, none⟩ = some (.int .i64 ret) := C2.cell 8
    have m9 : w2.cell? ⟨w.heap.size, 9, none⟩ = some (.int .i64 age) := C2.cell 9
    have m10 : w2.cell? ⟨w.heap.size, 10, none⟩ = some (.int .i64 dead) := C2.cell 10
    have n0 : w2.cell? ⟨w.heap.size + 1, 0, none⟩ = some (.int .i64 x0) := D2.cell 0
    have n1 : w2.cell? ⟨w.heap.size + 1, 1, none⟩ = some (.int .i64 x1) := D2.cell 1
    have n2 : w2.cell? ⟨w.heap.size + 1, 2, none⟩ = some (.int .i64 x2) := D2.cell 2
    go_wp2_with fail
    refine (hstep.out HF.out _ L2).mono ?_
    rintro e v0 ⟨A0, c0, rfl, R0, hv0⟩
    have LL0 : Below w.heap.size w v0 := L2.trans (hv0.mono L2.size)
    have SS0 : (fun w' => Mem.Blk w' w.heap.size 47 #[.int .i64 k0, .int .i64 k1, .int .i64 k2, .int .i64 a0, .int .i64 a1, .int .i64 a2, .slice A n c, .int .i64 per, .int .i64 ret, .int .i64 age, .int .i64 dead] ∧ Mem.Blk w' (w.heap.size + 1) 44 #[.int .i64 x0, .int .i64 x1, .int .i64 x2]) v0 := ⟨C2.belowS hv0, D2.belowS hv0⟩
    have Q0 : IRow v0 w.heap.size A0 m c0 (ST.map (.int .i64)) := own_low R0 L2.size
    have hmc : m ≤ 9223372036854775807 := hm
    clear hv0 C2 D2 L2 R0 m0 m1 m2 m3 m4 m5 m6 m7 m8 m9 m10 n0 n1 n2
    go_wp2_with fail
    have SD : (fun w' => Mem.Blk w' w.heap.size 47 #[.int .i64 k0, .int .i64 k1, .int .i64 k2, .int .i64 a0, .int .i64 a1, .int .i64 a2, .slice A n c, .int .i64 per, .int .i64 ret, .int .i64 age, .int .i64 dead] ∧ Mem.Blk w' (w.heap.size + 1) 44 #[.int .i64 x0, .int .i64 x1, .int .i64 x2]) (World.drew v0) := ⟨SS0.1.drew, SS0.2.drew⟩
    refine Reg.start (S := (fun w' => Mem.Blk w' w.heap.size 47 #[.int .i64 k0, .int .i64 k1, .int .i64 k2, .int .i64 a0, .int .i64 a1, .int .i64 a2, .slice A n c, .int .i64 per, .int .i64 ret, .int .i64 age, .int .i64 dead] ∧ Mem.Blk w' (w.heap.size + 1) 44 #[.int .i64 x0, .int .i64 x1, .int .i64 x2])) (by kernel_rfl) ?_
    have QD : IRow (World.drew v0) w.heap.size A0 m c0 (ST.map (.int .i64)) := World.ownsRow.drew Q0
    refine Reg.takes (n := 48) (by kernel_rfl) (fun _ _ d _ _ h => by cases d <;> exact h) SD [0, 2] _ _ (by kernel_rfl) ?_
    iterate 2 (refine Reg.det_step rfl (fun K' hK' => ?_); go_simp; (first | (refine hK' _ ?_; clear hK' K') | (apply Exists.intro; refine ⟨fun wx hwx => ?_, hK' _ ?_⟩; (first | rfl | (have hA := hwx; intro hB; have m0 : wx.cell? ⟨w.heap.size, 0, none⟩ = some (.int .i64 k0) := Mem.Blk.cell hA 0; have m1 : wx.cell? ⟨w.heap.size, 1, none⟩ = some (.int .i64 k1) := Mem.Blk.cell hA 1; have m2 : wx.cell? ⟨w.heap.size, 2, none⟩ = some (.int .i64 k2) := Mem.Blk.cell hA 2; have m3 : wx.cell? ⟨w.heap.size, 3, none⟩ = some (.int .i64 a0) := Mem.Blk.cell hA 3; have m4 : wx.cell? ⟨w.heap.size, 4, none⟩ = some (.int .i64 a1) := Mem.Blk.cell hA 4; have m5 : wx.cell? ⟨w.heap.size, 5, none⟩ = some (.int .i64 a2) := Mem.Blk.cell hA 5; have m6 : wx.cell? ⟨w.heap.size, 6, none⟩ = some (.slice A n c) := Mem.Blk.cell hA 6; have m7 : wx.cell? ⟨w.heap.size, 7, none⟩ = some (.int .i64 per) := Mem.Blk.cell hA 7; have m8 : wx.cell? ⟨w.heap.size, 8, none⟩ = some (.int .i64 ret) := Mem.Blk.cell hA 8; have m9 : wx.cell? ⟨w.heap.size, 9, none⟩ = some (.int .i64 age) := Mem.Blk.cell hA 9; have m10 : wx.cell? ⟨w.heap.size, 10, none⟩ = some (.int .i64 dead) := Mem.Blk.cell hA 10; have n0 : wx.cell? ⟨w.heap.size + 1, 0, none⟩ = some (.int .i64 x0) := Mem.Blk.cell hB 0; have n1 : wx.cell? ⟨w.heap.size + 1, 1, none⟩ = some (.int .i64 x1) := Mem.Blk.cell hB 1; have n2 : wx.cell? ⟨w.heap.size + 1, 2, none⟩ = some (.int .i64 x2) := Mem.Blk.cell hB 2; go_simp; first | done | rfl)); clear hK' K')))
    refine Reg.det_nil ?_
    refine Reg.one (i := 1) (n := 47) (by kernel_rfl) ?_
    refine Reg.call rfl rfl (by go_simp; exact ⟨rfl, rfl⟩) ?_
    refine (hbeg.out HF.out _).mono ?_
    rintro e v1 ⟨A1, c1, rfl, R1, hv1⟩
    have LL1 : Below w.heap.size w v1 := Below.trans LL0.drew (hv1.mono (Below.size LL0.drew))
    have SS1 : (fun w' => Mem.Blk w' w.heap.size 47 #[.int .i64 k0, .int .i64 k1, .int .i64 k2, .int .i64 a0, .int .i64 a1, .int .i64 a2, .slice A n c, .int .i64 per, .int .i64 ret, .int .i64 age, .int .i64 dead] ∧ Mem.Blk w' (w.heap.size + 1) 44 #[.int .i64 x0, .int .i64 x1, .int .i64 x2]) v1 := ⟨Mem.Blk.belowS SD.1 hv1, Mem.Blk.belowS SD.2 hv1⟩
    have Q_1 : IRow v1 w.heap.size A0 m c0 (ST.map (.int .i64)) := own_below QD hv1 (Nat.le_refl _)
    have B1 : IRow v1 w.heap.size A1 m c1 (nevers m) := own_low R1 (Below.size LL0.drew)
    refine ⟨_, rfl, SS1, ?_⟩
    refine Reg.one (i := 3) (n := 46) (by kernel_rfl) ?_
    refine Reg.call rfl rfl (by go_simp; exact ⟨rfl, rfl⟩) ?_
    refine (hrbeg.out HF.out _).mono ?_
    rintro e v2 ⟨A2, c2, rfl, R2, hv2⟩
    have LL2 : Below w.heap.size w v2 := Below.trans LL1 (hv2.mono (Below.size LL1))
    have SS2 : (fun w' => Mem.Blk w' w.heap.size 47 #[.int .i64 k0, .int .i64 k1, .int .i64 k2, .int .i64 a0, .int .i64 a1, .int .i64 a2, .slice A n c, .int .i64 per, .int .i64 ret, .int .i64 age, .int .i64 dead] ∧ Mem.Blk w' (w.heap.size + 1) 44 #[.int .i64 x0, .int .i64 x1, .int .i64 x2]) v2 := ⟨Mem.Blk.belowS SS1.1 hv2, Mem.Blk.belowS SS1.2 hv2⟩
    have Q_2 : IRow v2 w.heap.size A0 m c0 (ST.map (.int .i64)) := own_below Q_1 hv2 (Nat.le_refl _)
    have B1_2 : IRow v2 w.heap.size A1 m c1 (nevers m) := own_below B1 hv2 (Nat.le_refl _)
    have B2 : IRow v2 w.heap.size A2 m c2 (nevers m) := own_low R2 (Below.size LL1)
    refine ⟨_, rfl, SS2, ?_⟩
    have e1 := B1_2
    have e2 := B2
    rw [nevers_ints] at e1 e2
    refine Reg.one (i := 4) (n := 45) (by kernel_rfl) ?_
    refine Reg.call rfl rfl (by go_simp; exact ⟨rfl, rfl⟩) ?_
    refine (sameInts_c A1 A2 m c1 c2 _ _ (List.replicate m (-1)) _ (by exact own_sl e1) (by exact own_sl e2) hmc).mono ?_
    rintro e v3 ⟨rfl, hv3⟩
    have LL3 : Below w.heap.size w v3 := Below.trans LL2 (hv3.mono (Below.size LL2))
    have SS3 : (fun w' => Mem.Blk w' w.heap.size 47 #[.int .i64 k0, .int .i64 k1, .int .i64 k2, .int .i64 a0, .int .i64 a1, .int .i64 a2, .slice A n c, .int .i64 per, .int .i64 ret, .int .i64 age, .int .i64 dead] ∧ Mem.Blk w' (w.heap.size + 1) 44 #[.int .i64 x0, .int .i64 x1, .int .i64 x2]) v3 := ⟨Mem.Blk.belowS SS2.1 hv3, Mem.Blk.belowS SS2.2 hv3⟩
    have Q_3 : IRow v3 w.heap.size A0 m c0 (ST.map (.int .i64)) := own_below Q_2 hv3 (Nat.le_refl _)
    refine ⟨_, rfl, SS3, ?_⟩
    refine Reg.takes (n := 40) (by kernel_rfl) (fun _ _ d _ _ h => by cases d <;> exact h) SS3 [5, 6, 7, 9, 10] _ _ (by kernel_rfl) ?_
    iterate 5 (refine Reg.det_step rfl (fun K' hK' => ?_); go_simp; (first | (refine hK' _ ?_; clear hK' K') | (apply Exists.intro; refine ⟨fun wx hwx => ?_, hK' _ ?_⟩; (first | rfl | (have hA := hwx; intro hB; have m0 : wx.cell? ⟨w.heap.size, 0, none⟩ = some (.int .i64 k0) := Mem.Blk.cell hA 0; have m1 : wx.cell? ⟨w.heap.size, 1, none⟩ = some (.int .i64 k1) := Mem.Blk.cell hA 1; have m2 : wx.cell? ⟨w.heap.size, 2, none⟩ = some (.int .i64 k2) := Mem.Blk.cell hA 2; have m3 : wx.cell? ⟨w.heap.size, 3, none⟩ = some (.int .i64 a0) := Mem.Blk.cell hA 3; have m4 : wx.cell? ⟨w.heap.size, 4, none⟩ = some (.int .i64 a1) := Mem.Blk.cell hA 4; have m5 : wx.cell? ⟨w.heap.size, 5, none⟩ = some (.int .i64 a2) := Mem.Blk.cell hA 5; have m6 : wx.cell? ⟨w.heap.size, 6, none⟩ = some (.slice A n c) := Mem.Blk.cell hA 6; have m7 : wx.cell? ⟨w.heap.size, 7, none⟩ = some (.int .i64 per) := Mem.Blk.cell hA 7; have m8 : wx.cell? ⟨w.heap.size, 8, none⟩ = some (.int .i64 ret) := Mem.Blk.cell hA 8; have m9 : wx.cell? ⟨w.heap.size, 9, none⟩ = some (.int .i64 age) := Mem.Blk.cell hA 9; have m10 : wx.cell? ⟨w.heap.size, 10, none⟩ = some (.int .i64 dead) := Mem.Blk.cell hA 10; have n0 : wx.cell? ⟨w.heap.size + 1, 0, none⟩ = some (.int .i64 x0) := Mem.Blk.cell hB 0; have n1 : wx.cell? ⟨w.heap.size + 1, 1, none⟩ = some (.int .i64 x1) := Mem.Blk.cell hB 1; have n2 : wx.cell? ⟨w.heap.size + 1, 2, none⟩ = some (.int .i64 x2) := Mem.Blk.cell hB 2; go_simp; first | done | rfl)); clear hK' K')))
    refine Reg.det_nil ?_
    refine Reg.one (i := 8) (n := 39) (by kernel_rfl) ?_
    refine Reg.call rfl rfl (by go_simp; exact ⟨rfl, rfl⟩) ?_
    refine (hmet.out HF.out _ LL3).mono ?_
    rintro e v4 ⟨A4, c4, rfl, R4, hv4⟩
    have LL4 : Below w.heap.size w v4 := Below.trans LL3 (hv4.mono (Below.size LL3))
    have SS4 : (fun w' => Mem.Blk w' w.heap.size 47 #[.int .i64 k0, .int .i64 k1, .int .i64 k2, .int .i64 a0, .int .i64 a1, .int .i64 a2, .slice A n c, .int .i64 per, .int .i64 ret, .int .i64 age, .int .i64 dead] ∧ Mem.Blk w' (w.heap.size + 1) 44 #[.int .i64 x0, .int .i64 x1, .int .i64 x2]) v4 := ⟨Mem.Blk.belowS SS3.1 hv4, Mem.Blk.belowS SS3.2 hv4⟩
    have Q_4 : IRow v4 w.heap.size A0 m c0 (ST.map (.int .i64)) := own_below Q_3 hv4 (Nat.le_refl _)
    have M1 : BRow v4 w.heap.size A4 m c4 (ML.map .bool) := own_low R4 (Below.size LL3)
    refine ⟨_, rfl, SS4, ?_⟩
    refine Reg.one (i := 11) (n := 38) (by kernel_rfl) ?_
    refine Reg.call rfl rfl (by go_simp; exact ⟨rfl, rfl⟩) ?_
    refine (hrmet.out HF.out _ LL4).mono ?_
    rintro e v5 ⟨A5, c5, rfl, R5, hv5⟩
    have LL5 : Below w.heap.size w v5 := Below.trans LL4 (hv5.mono (Below.size LL4))
    have SS5 : (fun w' => Mem.Blk w' w.heap.size 47 #[.int .i64 k0, .int .i64 k1, .int .i64 k2, .int .i64 a0, .int .i64 a1, .int .i64 a2, .slice A n c, .int .i64 per, .int .i64 ret, .int .i64 age, .int .i64 dead] ∧ Mem.Blk w' (w.heap.size + 1) 44 #[.int .i64 x0, .int .i64 x1, .int .i64 x2]) v5 := ⟨Mem.Blk.belowS SS4.1 hv5, Mem.Blk.belowS SS4.2 hv5⟩
    have Q_5 : IRow v5 w.heap.size A0 m c0 (ST.map (.int .i64)) := own_below Q_4 hv5 (Nat.le_refl _)
    have M1_5 : BRow v5 w.heap.size A4 m c4 (ML.map .bool) := own_below M1 hv5 (Nat.le_refl _)
    have M2 : BRow v5 w.heap.size A5 m c5 (ML.map .bool) := own_low R5 (Below.size LL4)
    refine ⟨_, rfl, SS5, ?_⟩
    refine Reg.one (i := 12) (n := 37) (by kernel_rfl) ?_
    refine Reg.call rfl rfl (by go_simp; exact ⟨rfl, rfl⟩) ?_
    refine (sameBools_c A4 A5 m c4 c5 _ _ ML _ (by exact own_sl M1_5) (by exact own_sl M2) hmc).mono ?_
    rintro e v6 ⟨rfl, hv6⟩
    have LL6 : Below w.heap.size w v6 := Below.trans LL5 (hv6.mono (Below.size LL5))
    have SS6 : (fun w' => Mem.Blk w' w.heap.size 47 #[.int .i64 k0, .int .i64 k1, .int .i64 k2, .int .i64 a0, .int .i64 a1, .int .i64 a2, .slice A n c, .int .i64 per, .int .i64 ret, .int .i64 age, .int .i64 dead] ∧ Mem.Blk w' (w.heap.size + 1) 44 #[.int .i64 x0, .int .i64 x1, .int .i64 x2]) v6 := ⟨Mem.Blk.belowS SS5.1 hv6, Mem.Blk.belowS SS5.2 hv6⟩
    have Q_6 : IRow v6 w.heap.size A0 m c0 (ST.map (.int .i64)) := own_below Q_5 hv6 (Nat.le_refl _)
    refine ⟨_, rfl, SS6, ?_⟩
    refine Reg.takes (n := 30) (by kernel_rfl) (fun _ _ d _ _ h => by cases d <;> exact h) SS6 [13, 14, 15, 16, 17, 18, 19] _ _ (by kernel_rfl) ?_
    iterate 7 (refine Reg.det_step rfl (fun K' hK' => ?_); go_simp; (first | (refine hK' _ ?_; clear hK' K') | (apply Exists.intro; refine ⟨fun wx hwx => ?_, hK' _ ?_⟩; (first | rfl | (have hA := hwx; intro hB; have m0 : wx.cell? ⟨w.heap.size, 0, none⟩ = some (.int .i64 k0) := Mem.Blk.cell hA 0; have m1 : wx.cell? ⟨w.heap.size, 1, none⟩ = some (.int .i64 k1) := Mem.Blk.cell hA 1; have m2 : wx.cell? ⟨w.heap.size, 2, none⟩ = some (.int .i64 k2) := Mem.Blk.cell hA 2; have m3 : wx.cell? ⟨w.heap.size, 3, none⟩ = some (.int .i64 a0) := Mem.Blk.cell hA 3; have m4 : wx.cell? ⟨w.heap.size, 4, none⟩ = some (.int .i64 a1) := Mem.Blk.cell hA 4; have m5 : wx.cell? ⟨w.heap.size, 5, none⟩ = some (.int .i64 a2) := Mem.Blk.cell hA 5; have m6 : wx.cell? ⟨w.heap.size, 6, none⟩ = some (.slice A n c) := Mem.Blk.cell hA 6; have m7 : wx.cell? ⟨w.heap.size, 7, none⟩ = some (.int .i64 per) := Mem.Blk.cell hA 7; have m8 : wx.cell? ⟨w.heap.size, 8, none⟩ = some (.int .i64 ret) := Mem.Blk.cell hA 8; have m9 : wx.cell? ⟨w.heap.size, 9, none⟩ = some (.int .i64 age) := Mem.Blk.cell hA 9; have m10 : wx.cell? ⟨w.heap.size, 10, none⟩ = some (.int .i64 dead) := Mem.Blk.cell hA 10; have n0 : wx.cell? ⟨w.heap.size + 1, 0, none⟩ = some (.int .i64 x0) := Mem.Blk.cell hB 0; have n1 : wx.cell? ⟨w.heap.size + 1, 1, none⟩ = some (.int .i64 x1) := Mem.Blk.cell hB 1; have n2 : wx.cell? ⟨w.heap.size + 1, 2, none⟩ = some (.int .i64 x2) := Mem.Blk.cell hB 2; go_simp; first | done | rfl)); clear hK' K')))
    refine Reg.det_nil ?_
    refine Reg.one (i := 20) (n := 29) (by kernel_rfl) ?_
    refine Reg.call rfl rfl (by go_simp; exact ⟨rfl, rfl⟩) ?_
    refine (hrstep.out HF.out _ LL6).mono ?_
    rintro e v7 ⟨A7, c7, rfl, R7, hv7⟩
    have LL7 : Below w.heap.size w v7 := Below.trans LL6 (hv7.mono (Below.size LL6))
    have SS7 : (fun w' => Mem.Blk w' w.heap.size 47 #[.int .i64 k0, .int .i64 k1, .int .i64 k2, .int .i64 a0, .int .i64 a1, .int .i64 a2, .slice A n c, .int .i64 per, .int .i64 ret, .int .i64 age, .int .i64 dead] ∧ Mem.Blk w' (w.heap.size + 1) 44 #[.int .i64 x0, .int .i64 x1, .int .i64 x2]) v7 := ⟨Mem.Blk.belowS SS6.1 hv7, Mem.Blk.belowS SS6.2 hv7⟩
    have Q_7 : IRow v7 w.heap.size A0 m c0 (ST.map (.int .i64)) := own_below Q_6 hv7 (Nat.le_refl _)
    have T1 : IRow v7 w.heap.size A7 m c7 (ST.map (.int .i64)) := own_low R7 (Below.size LL6)
    refine ⟨_, rfl, SS7, ?_⟩
    refine Reg.one (i := 21) (n := 28) (by kernel_rfl) ?_
    refine Reg.call rfl rfl (by go_simp; exact ⟨rfl, rfl⟩) ?_
    refine (sameInts_c A0 A7 m c0 c7 _ _ ST _ (by exact own_sl Q_7) (by exact own_sl T1) hmc).mono ?_
    rintro e v8 ⟨rfl, hv8⟩
    have LL8 : Below w.heap.size w v8 := Below.trans LL7 (hv8.mono (Below.size LL7))
    have SS8 : (fun w' => Mem.Blk w' w.heap.size 47 #[.int .i64 k0, .int .i64 k1, .int .i64 k2, .int .i64 a0, .int .i64 a1, .int .i64 a2, .slice A n c, .int .i64 per, .int .i64 ret, .int .i64 age, .int .i64 dead] ∧ Mem.Blk w' (w.heap.size + 1) 44 #[.int .i64 x0, .int .i64 x1, .int .i64 x2]) v8 := ⟨Mem.Blk.belowS SS7.1 hv8, Mem.Blk.belowS SS7.2 hv8⟩
    have Q_8 : IRow v8 w.heap.size A0 m c0 (ST.map (.int .i64)) := own_below Q_7 hv8 (Nat.le_refl _)
    refine ⟨_, rfl, SS8, ?_⟩
    refine Reg.takes (n := 20) (by kernel_rfl) (fun _ _ d _ _ h => by cases d <;> exact h) SS8 [22, 23, 24, 25, 26, 28, 29, 30] _ _ (by kernel_rfl) ?_
    iterate 8 (refine Reg.det_step rfl (fun K' hK' => ?_); go_simp; (first | (refine hK' _ ?_; clear hK' K') | (apply Exists.intro; refine ⟨fun wx hwx => ?_, hK' _ ?_⟩; (first | rfl | (have hA := hwx; intro hB; have m0 : wx.cell? ⟨w.heap.size, 0, none⟩ = some (.int .i64 k0) := Mem.Blk.cell hA 0; have m1 : wx.cell? ⟨w.heap.size, 1, none⟩ = some (.int .i64 k1) := Mem.Blk.cell hA 1; have m2 : wx.cell? ⟨w.heap.size, 2, none⟩ = some (.int .i64 k2) := Mem.Blk.cell hA 2; have m3 : wx.cell? ⟨w.heap.size, 3, none⟩ = some (.int .i64 a0) := Mem.Blk.cell hA 3; have m4 : wx.cell? ⟨w.heap.size, 4, none⟩ = some (.int .i64 a1) := Mem.Blk.cell hA 4; have m5 : wx.cell? ⟨w.heap.size, 5, none⟩ = some (.int .i64 a2) := Mem.Blk.cell hA 5; have m6 : wx.cell? ⟨w.heap.size, 6, none⟩ = some (.slice A n c) := Mem.Blk.cell hA 6; have m7 : wx.cell? ⟨w.heap.size, 7, none⟩ = some (.int .i64 per) := Mem.Blk.cell hA 7; have m8 : wx.cell? ⟨w.heap.size, 8, none⟩ = some (.int .i64 ret) := Mem.Blk.cell hA 8; have m9 : wx.cell? ⟨w.heap.size, 9, none⟩ = some (.int .i64 age) := Mem.Blk.cell hA 9; have m10 : wx.cell? ⟨w.heap.size, 10, none⟩ = some (.int .i64 dead) := Mem.Blk.cell hA 10; have n0 : wx.cell? ⟨w.heap.size + 1, 0, none⟩ = some (.int .i64 x0) := Mem.Blk.cell hB 0; have n1 : wx.cell? ⟨w.heap.size + 1, 1, none⟩ = some (.int .i64 x1) := Mem.Blk.cell hB 1; have n2 : wx.cell? ⟨w.heap.size + 1, 2, none⟩ = some (.int .i64 x2) := Mem.Blk.cell hB 2; go_simp; first | done | rfl)); clear hK' K')))
    refine Reg.det_nil ?_
    refine Reg.one (i := 27) (n := 19) (by kernel_rfl) ?_
    refine Reg.call rfl rfl (by go_simp; exact ⟨rfl, rfl⟩) ?_
    refine (hhold.out HF.out _ S sc zs HZ.out.1 LL8 ((hz.below LL8).more (Below.size LL8))).mono ?_
    rintro e v9 ⟨A9, c9, rfl, R9, hv9⟩
    have LL9 : Below w.heap.size w v9 := Below.trans LL8 (hv9.mono (Below.size LL8))
    have SS9 : (fun w' => Mem.Blk w' w.heap.size 47 #[.int .i64 k0, .int .i64 k1, .int .i64 k2, .int .i64 a0, .int .i64 a1, .int .i64 a2, .slice A n c, .int .i64 per, .int .i64 ret, .int .i64 age, .int .i64 dead] ∧ Mem.Blk w' (w.heap.size + 1) 44 #[.int .i64 x0, .int .i64 x1, .int .i64 x2]) v9 := ⟨Mem.Blk.belowS SS8.1 hv9, Mem.Blk.belowS SS8.2 hv9⟩
    have Q_9 : IRow v9 w.heap.size A0 m c0 (ST.map (.int .i64)) := own_below Q_8 hv9 (Nat.le_refl _)
    have H1 : BRow v9 w.heap.size A9 m c9 ((holdL ths zs round).map .bool) := own_low R9 (Below.size LL8)
    refine ⟨_, rfl, SS9, ?_⟩
    refine Reg.one (i := 31) (n := 18) (by kernel_rfl) ?_
    refine Reg.call rfl rfl (by go_simp; exact ⟨rfl, rfl⟩) ?_
    refine (hrhold.out HF.out _ S sc zs HZ.out.1 LL9 ((hz.below LL9).more (Below.size LL9))).mono ?_
    rintro e v10 ⟨A10, c10, rfl, R10, hv10⟩
    have LL10 : Below w.heap.size w v10 := Below.trans LL9 (hv10.mono (Below.size LL9))
    have SS10 : (fun w' => Mem.Blk w' w.heap.size 47 #[.int .i64 k0, .int .i64 k1, .int .i64 k2, .int .i64 a0, .int .i64 a1, .int .i64 a2, .slice A n c, .int .i64 per, .int .i64 ret, .int .i64 age, .int .i64 dead] ∧ Mem.Blk w' (w.heap.size + 1) 44 #[.int .i64 x0, .int .i64 x1, .int .i64 x2]) v10 := ⟨Mem.Blk.belowS SS9.1 hv10, Mem.Blk.belowS SS9.2 hv10⟩
    have Q_10 : IRow v10 w.heap.size A0 m c0 (ST.map (.int .i64)) := own_below Q_9 hv10 (Nat.le_refl _)
    have H1_10 : BRow v10 w.heap.size A9 m c9 ((holdL ths zs round).map .bool) := own_below H1 hv10 (Nat.le_refl _)
    have H2 : BRow v10 w.heap.size A10 m c10 ((holdL ths zs round).map .bool) := own_low R10 (Below.size LL9)
    refine ⟨_, rfl, SS10, ?_⟩
    refine Reg.one (i := 32) (n := 17) (by kernel_rfl) ?_
    refine Reg.call rfl rfl (by go_simp; exact ⟨rfl, rfl⟩) ?_
    refine (sameBools_c A9 A10 m c9 c10 _ _ (holdL ths zs round) _ (by exact own_sl H1_10) (by exact own_sl H2) hmc).mono ?_
    rintro e v11 ⟨rfl, hv11⟩
    have LL11 : Below w.heap.size w v11 := Below.trans LL10 (hv11.mono (Below.size LL10))
    have SS11 : (fun w' => Mem.Blk w' w.heap.size 47 #[.int .i64 k0, .int .i64 k1, .int .i64 k2, .int .i64 a0, .int .i64 a1, .int .i64 a2, .slice A n c, .int .i64 per, .int .i64 ret, .int .i64 age, .int .i64 dead] ∧ Mem.Blk w' (w.heap.size + 1) 44 #[.int .i64 x0, .int .i64 x1, .int .i64 x2]) v11 := ⟨Mem.Blk.belowS SS10.1 hv11, Mem.Blk.belowS SS10.2 hv11⟩
    have Q_11 : IRow v11 w.heap.size A0 m c0 (ST.map (.int .i64)) := own_below Q_10 hv11 (Nat.le_refl _)
    refine ⟨_, rfl, SS11, ?_⟩
    refine Reg.takes (n := 6) (by kernel_rfl) (fun _ _ d _ _ h => by cases d <;> exact h) SS11 [33, 34, 35, 36, 37, 39, 40, 41, 42, 43, 45] _ _ (by kernel_rfl) ?_
    iterate 11 (refine Reg.det_step rfl (fun K' hK' => ?_); go_simp; (first | (refine hK' _ ?_; clear hK' K') | (apply Exists.intro; refine ⟨fun wx hwx => ?_, hK' _ ?_⟩; (first | rfl | (have hA := hwx; intro hB; have m0 : wx.cell? ⟨w.heap.size, 0, none⟩ = some (.int .i64 k0) := Mem.Blk.cell hA 0; have m1 : wx.cell? ⟨w.heap.size, 1, none⟩ = some (.int .i64 k1) := Mem.Blk.cell hA 1; have m2 : wx.cell? ⟨w.heap.size, 2, none⟩ = some (.int .i64 k2) := Mem.Blk.cell hA 2; have m3 : wx.cell? ⟨w.heap.size, 3, none⟩ = some (.int .i64 a0) := Mem.Blk.cell hA 3; have m4 : wx.cell? ⟨w.heap.size, 4, none⟩ = some (.int .i64 a1) := Mem.Blk.cell hA 4; have m5 : wx.cell? ⟨w.heap.size, 5, none⟩ = some (.int .i64 a2) := Mem.Blk.cell hA 5; have m6 : wx.cell? ⟨w.heap.size, 6, none⟩ = some (.slice A n c) := Mem.Blk.cell hA 6; have m7 : wx.cell? ⟨w.heap.size, 7, none⟩ = some (.int .i64 per) := Mem.Blk.cell hA 7; have m8 : wx.cell? ⟨w.heap.size, 8, none⟩ = some (.int .i64 ret) := Mem.Blk.cell hA 8; have m9 : wx.cell? ⟨w.heap.size, 9, none⟩ = some (.int .i64 age) := Mem.Blk.cell hA 9; have m10 : wx.cell? ⟨w.heap.size, 10, none⟩ = some (.int .i64 dead) := Mem.Blk.cell hA 10; have n0 : wx.cell? ⟨w.heap.size + 1, 0, none⟩ = some (.int .i64 x0) := Mem.Blk.cell hB 0; have n1 : wx.cell? ⟨w.heap.size + 1, 1, none⟩ = some (.int .i64 x1) := Mem.Blk.cell hB 1; have n2 : wx.cell? ⟨w.heap.size + 1, 2, none⟩ = some (.int .i64 x2) := Mem.Blk.cell hB 2; go_simp; first | done | rfl)); clear hK' K')))
    refine Reg.det_nil ?_
    refine Reg.one (i := 38) (n := 5) (by kernel_rfl) ?_
    refine Reg.call rfl rfl (by go_simp; exact ⟨rfl, rfl⟩) ?_
    refine (hhold.out HF.out _ A0 c0 ST HZ.out.2 LL11 (by exact own_sl Q_11)).mono ?_
    rintro e v12 ⟨A12, c12, rfl, R12, hv12⟩
    have LL12 : Below w.heap.size w v12 := Below.trans LL11 (hv12.mono (Below.size LL11))
    have SS12 : (fun w' => Mem.Blk w' w.heap.size 47 #[.int .i64 k0, .int .i64 k1, .int .i64 k2, .int .i64 a0, .int .i64 a1, .int .i64 a2, .slice A n c, .int .i64 per, .int .i64 ret, .int .i64 age, .int .i64 dead] ∧ Mem.Blk w' (w.heap.size + 1) 44 #[.int .i64 x0, .int .i64 x1, .int .i64 x2]) v12 := ⟨Mem.Blk.belowS SS11.1 hv12, Mem.Blk.belowS SS11.2 hv12⟩
    have H3 : BRow v12 w.heap.size A12 m c12 ((holdL ths ST round).map .bool) := own_low R12 (Below.size LL11)
    refine ⟨_, rfl, SS12, ?_⟩
    refine Reg.one (i := 44) (n := 4) (by kernel_rfl) ?_
    refine Reg.call rfl rfl (by go_simp; exact ⟨rfl, rfl⟩) ?_
    refine (hrstep.out HF.out _ LL12).mono ?_
    rintro e v13 ⟨A13, c13, rfl, R13, hv13⟩
    have LL13 : Below w.heap.size w v13 := Below.trans LL12 (hv13.mono (Below.size LL12))
    have SS13 : (fun w' => Mem.Blk w' w.heap.size 47 #[.int .i64 k0, .int .i64 k1, .int .i64 k2, .int .i64 a0, .int .i64 a1, .int .i64 a2, .slice A n c, .int .i64 per, .int .i64 ret, .int .i64 age, .int .i64 dead] ∧ Mem.Blk w' (w.heap.size + 1) 44 #[.int .i64 x0, .int .i64 x1, .int .i64 x2]) v13 := ⟨Mem.Blk.belowS SS12.1 hv13, Mem.Blk.belowS SS12.2 hv13⟩
    have H3_13 : BRow v13 w.heap.size A12 m c12 ((holdL ths ST round).map .bool) := own_below H3 hv13 (Nat.le_refl _)
    have T2 : IRow v13 w.heap.size A13 m c13 (ST.map (.int .i64)) := own_low R13 (Below.size LL12)
    refine ⟨_, rfl, SS13, ?_⟩
    refine Reg.one (i := 46) (n := 3) (by kernel_rfl) ?_
    refine Reg.call rfl rfl (by go_simp; exact ⟨rfl, rfl⟩) ?_
    refine (hrhold.out HF.out _ A13 c13 ST HZ.out.2 LL13 (by exact own_sl T2)).mono ?_
    rintro e v14 ⟨A14, c14, rfl, R14, hv14⟩
    have LL14 : Below w.heap.size w v14 := Below.trans LL13 (hv14.mono (Below.size LL13))
    have SS14 : (fun w' => Mem.Blk w' w.heap.size 47 #[.int .i64 k0, .int .i64 k1, .int .i64 k2, .int .i64 a0, .int .i64 a1, .int .i64 a2, .slice A n c, .int .i64 per, .int .i64 ret, .int .i64 age, .int .i64 dead] ∧ Mem.Blk w' (w.heap.size + 1) 44 #[.int .i64 x0, .int .i64 x1, .int .i64 x2]) v14 := ⟨Mem.Blk.belowS SS13.1 hv14, Mem.Blk.belowS SS13.2 hv14⟩
    have H3_14 : BRow v14 w.heap.size A12 m c12 ((holdL ths ST round).map .bool) := own_below H3_13 hv14 (Nat.le_refl _)
    have H4 : BRow v14 w.heap.size A14 m c14 ((holdL ths ST round).map .bool) := own_low R14 (Below.size LL13)
    refine ⟨_, rfl, SS14, ?_⟩
    refine Reg.one (i := 47) (n := 2) (by kernel_rfl) ?_
    refine Reg.call rfl rfl (by go_simp; exact ⟨rfl, rfl⟩) ?_
    refine (sameBools_c A12 A14 m c12 c14 _ _ (holdL ths ST round) _ (by exact own_sl H3_14) (by exact own_sl H4) hmc).mono ?_
    rintro e v15 ⟨rfl, hv15⟩
    have LL15 : Below w.heap.size w v15 := Below.trans LL14 (hv15.mono (Below.size LL14))
    have SS15 : (fun w' => Mem.Blk w' w.heap.size 47 #[.int .i64 k0, .int .i64 k1, .int .i64 k2, .int .i64 a0, .int .i64 a1, .int .i64 a2, .slice A n c, .int .i64 per, .int .i64 ret, .int .i64 age, .int .i64 dead] ∧ Mem.Blk w' (w.heap.size + 1) 44 #[.int .i64 x0, .int .i64 x1, .int .i64 x2]) v15 := ⟨Mem.Blk.belowS SS14.1 hv15, Mem.Blk.belowS SS14.2 hv15⟩
    refine ⟨_, rfl, SS15, ?_⟩
    refine Reg.takes (n := 0) (by kernel_rfl) (fun _ _ d _ _ h => by cases d <;> exact h) SS15 [48, 49] _ _ (by kernel_rfl) ?_
    iterate 2 (refine Reg.det_step rfl (fun K' hK' => ?_); go_simp; (first | (refine hK' _ ?_; clear hK' K') | (apply Exists.intro; refine ⟨fun wx hwx => ?_, hK' _ ?_⟩; (first | rfl | (have hA := hwx; intro hB; have m0 : wx.cell? ⟨w.heap.size, 0, none⟩ = some (.int .i64 k0) := Mem.Blk.cell hA 0; have m1 : wx.cell? ⟨w.heap.size, 1, none⟩ = some (.int .i64 k1) := Mem.Blk.cell hA 1; have m2 : wx.cell? ⟨w.heap.size, 2, none⟩ = some (.int .i64 k2) := Mem.Blk.cell hA 2; have m3 : wx.cell? ⟨w.heap.size, 3, none⟩ = some (.int .i64 a0) := Mem.Blk.cell hA 3; have m4 : wx.cell? ⟨w.heap.size, 4, none⟩ = some (.int .i64 a1) := Mem.Blk.cell hA 4; have m5 : wx.cell? ⟨w.heap.size, 5, none⟩ = some (.int .i64 a2) := Mem.Blk.cell hA 5; have m6 : wx.cell? ⟨w.heap.size, 6, none⟩ = some (.slice A n c) := Mem.Blk.cell hA 6; have m7 : wx.cell? ⟨w.heap.size, 7, none⟩ = some (.int .i64 per) := Mem.Blk.cell hA 7; have m8 : wx.cell? ⟨w.heap.size, 8, none⟩ = some (.int .i64 ret) := Mem.Blk.cell hA 8; have m9 : wx.cell? ⟨w.heap.size, 9, none⟩ = some (.int .i64 age) := Mem.Blk.cell hA 9; have m10 : wx.cell? ⟨w.heap.size, 10, none⟩ = some (.int .i64 dead) := Mem.Blk.cell hA 10; have n0 : wx.cell? ⟨w.heap.size + 1, 0, none⟩ = some (.int .i64 x0) := Mem.Blk.cell hB 0; have n1 : wx.cell? ⟨w.heap.size + 1, 1, none⟩ = some (.int .i64 x1) := Mem.Blk.cell hB 1; have n2 : wx.cell? ⟨w.heap.size + 1, 2, none⟩ = some (.int .i64 x2) := Mem.Blk.cell hB 2; go_simp; first | done | rfl)); clear hK' K')))
    refine Reg.det_nil ?_
    refine wpAnyH_done (by kernel_rfl) ?_ _
    go_wp2_with fail
    go_ret
    exact ⟨rfl, LL15⟩
theorem walk (v1 v2 v3 v4 : Value) (w : World) (h1 : Frame.Arg Try.prog w 47 v1) (h2 : Frame.Arg Try.prog w 36 v2) (h3 : Frame.Arg Try.prog w 44 v3) (h4 : Frame.Arg Try.prog w 3 v4) :
    Calls Try.prog 9 #[v1, v2, v3, v4] w fun e w' => e = .returned (.bool true) ∧ Below w.heap.size w w' := by
  obtain ⟨p, ths, rfl, hp⟩ := CfgV.of_arg h1
  obtain ⟨S, m, sc, zs, rfl, hms, hsm, hz, _⟩ := h2.ints Try.underlying36 Try.underlying3 (by kernel_rfl)
  obtain ⟨x0, x1, x2, rfl, e0, e1, e2⟩ := h3.three Try.underlying44 Try.underlying3 (by kernel_rfl) (by kernel_rfl)
  obtain ⟨round, rfl, _⟩ := h4.int Try.underlying3
  unfold maxLen at hsm
  exact core p ths S m sc zs round x0 x1 x2 w hp hz (by omega) (Frame.bd_i64 e0) (Frame.bd_i64 e1) (Frame.bd_i64 e2)
end graceSteps
end Go.Proofs.Ytjfbnobijlkicaa
