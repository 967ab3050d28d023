/- GraceAnew: the walk. -/
import Derived.Test.YtjfbnobijlkicaaGraceO
namespace Go.Proofs.Ytjfbnobijlkicaa
open Go.RowKit
namespace graceAnew
open Grc
set_option maxRecDepth 100000 in
set_option maxHeartbeats 8000000 in
theorem core (p : CfgV) (ths : List ThrV) (S : Option Addr) (m sc : Nat) (zs : List Int) (round : Int) (Q : Option Addr) (q qc : Nat) (rs : List RowV) (w : World) (hp : p.ok w w.heap.size ths) (hz : Mem.Ints w w.heap.size .i64 S m zs) (hm : m ≤ 9223372036854775807)
    (hq : Mem.Sl w w.heap.size 4 Q q (RowV.flat rs)) (hqo : ∀ r ∈ rs, r.ok) (hqm : q ≤ 9223372036854775807) :
    Calls Try.prog 12 #[.agg p.arr, .slice S m sc, .int .i64 round, .slice Q q qc] w fun e w' => e = .returned (.bool true) ∧ Below w.heap.size w w' := by
  have hlen := hp.len
  have hql : rs.length = q := by have := hq.1; rw [RowV.flat_len] at this; omega
  have hfit : Hid (∀ w', Below w.heap.size w w' → Calls Try.prog 28 #[.agg p.arr, .slice S m sc, .int .i64 round] w' (OkSaid (FitP p ths m zs round) w')) := fun w' hb => fit_c p ths S m sc zs round w' ((hp.below hb).more hb.size) ((hz.below hb).more hb.size) hm
  have hstep : Hid (FitP p ths m zs round → ∀ (w' : World) (A' : Option Addr) (c' : Nat) (Z : List Int) (now u0 u1 u2 : Int), Below w.heap.size w w' → ThrV.I64 u0 → ThrV.I64 u1 → ThrV.I64 u2 → Mem.Ints w' w'.heap.size .i64 A' m Z → Calls Try.prog 29 #[.agg p.arr, .slice A' m c', .agg #[.int .i64 u0, .int .i64 u1, .int .i64 u2], .int .i64 now] w' (NewI m ((stepL (metL p u0 u1 u2 ths) Z now).map (.int .i64)) w')) := by
    intro hf w' A' c' Z now u0 u1 u2 hb h0 h1 h2 hZ
    obtain ⟨hr, rfl, _, _, _⟩ := hf
    exact step_c p ths A' c' Z u0 u1 u2 now w' ((hp.below hb).more hb.size) (by have := hr.n; omega) hr.each h0 h1 h2 hZ
  have hstart : Hid (FitP p ths m zs round → ∀ (w' : World), Below w.heap.size w w' → Calls Try.prog 29 #[.agg p.arr, .slice S m sc, .agg #[.int .i64 9223372036854775807, .int .i64 9223372036854775807, .int .i64 9223372036854775807], .int .i64 round] w' (NewI m ((stepL (metL p 9223372036854775807 9223372036854775807 9223372036854775807 ths) zs round).map (.int .i64)) w')) := by
    intro hf w' hb
    obtain ⟨hr, rfl, _, _, _⟩ := hf
    exact step_c p ths S sc zs 9223372036854775807 9223372036854775807 9223372036854775807 round w' ((hp.below hb).more hb.size) (by have := hr.n; omega) hr.each (by decide) (by decide) (by decide) ((hz.below hb).more hb.size)
  have hhold : Hid (FitP p ths m zs round → ∀ (w' : World) (A' : Option Addr) (c' : Nat) (Z : List Int) (now : Int), Below w.heap.size w w' → 0 ≤ now → now ≤ 4611686018427387904 → FitZ Z now → Mem.Ints w' w'.heap.size .i64 A' m Z → Calls Try.prog 37 #[.agg p.arr, .slice A' m c', .int .i64 now] w' (NewB m ((holdL ths Z now).map .bool) w')) := by
    intro hf w' A' c' Z now hb h0 h1 hZ hs
    obtain ⟨hr, rfl, _, _, _⟩ := hf
    exact hold_c p ths A' c' Z now w' ((hp.below hb).more hb.size) (by have := hr.n; omega) h0 h1 hZ hs
  have hinv : Hid (FitP p ths m zs round → ∀ base now, InvZ base now (stepL (metL p 9223372036854775807 9223372036854775807 9223372036854775807 ths) zs round)) := by
    intro hf base now
    exact inv_start hf.1.each hp.each hp.c0 hp.c1 hp.c2 base now
  have hfacts : FitP p ths m zs round → m ≤ 12 ∧ m = p.n ∧ 0 ≤ round ∧ zs.length = m := by
    intro hf
    obtain ⟨hr, hmm, h0, _, _⟩ := hf
    have := hr.n
    exact ⟨by omega, hmm, h0, hz.len⟩
  have hmlen : ∀ u0 u1 u2, (metL p u0 u1 u2 ths).length = p.n := by intro u0 u1 u2; simp [metL, hlen]
  have hro : Hid (q ≤ 60 → ∀ w', Below w.heap.size w w' → Calls Try.prog 44 #[.slice Q q qc] w' (NewI q ((ats 0 rs).map (.int .i64)) w')) := fun h w' hb => rounds_c Q q qc rs w' ((hq.below hb).more hb.size) hqo h
  have Hfacts := Lib.hid hfacts
  have Hsl := Lib.hid hp.sl
  have Hmlen := Lib.hid hmlen
  have Hqo := Lib.hid hqo
  have hgap : Hid (∀ r ∈ rs, 0 ≤ r.gap ∧ r.gap ≤ 255) := fun r hr => (hqo r hr).gap
  clear hp hz hfacts hmlen hqo
  obtain ⟨FP, hFP⟩ : ∃ FP : Prop, FP = FitP p ths m zs round := ⟨_, rfl⟩
  rw [← hFP] at hfit hstep hstart hhold hinv Hfacts
  clear hFP
  obtain ⟨ML, hML⟩ : ∃ ML : Int → Int → Int → List Bool, ML = fun u0 u1 u2 => metL p u0 u1 u2 ths := ⟨_, rfl⟩
  have gstep : Hid (FP → ∀ (w' : World) (A' : Option Addr) (c' : Nat) (Z : List Int) (now u0 u1 u2 : Int), Below w.heap.size w w' → ThrV.I64 u0 → ThrV.I64 u1 → ThrV.I64 u2 → Mem.Ints w' w'.heap.size .i64 A' m Z → Calls Try.prog 29 #[.agg p.arr, .slice A' m c', .agg #[.int .i64 u0, .int .i64 u1, .int .i64 u2], .int .i64 now] w' (NewI m ((stepL (ML u0 u1 u2) Z now).map (.int .i64)) w')) := by rw [hML]; exact hstep
  have gstart : Hid (FP → ∀ (w' : World), Below w.heap.size w w' → Calls Try.prog 29 #[.agg p.arr, .slice S m sc, .agg #[.int .i64 9223372036854775807, .int .i64 9223372036854775807, .int .i64 9223372036854775807], .int .i64 round] w' (NewI m ((stepL (ML 9223372036854775807 9223372036854775807 9223372036854775807) zs round).map (.int .i64)) w')) := by rw [hML]; exact hstart
  have ginv : Hid (FP → ∀ base now, InvZ base now (stepL (ML 9223372036854775807 9223372036854775807 9223372036854775807) zs round)) := by rw [hML]; exact hinv
  have gml : Hid (∀ u0 u1 u2, (ML u0 u1 u2).length = p.n) := by rw [hML]; exact Hmlen.out
  clear hstep hstart hinv hML Hmlen
  obtain ⟨k0, k1, k2, a0, a1, a2, A, n, c, per, ret, age, dead⟩ := p
  unfold CfgV.arr at hfit gstep gstart hhold ⊢
  dsimp only at hfit gstep gstart hhold hlen Hfacts Hsl gml ⊢
  go_enter Try.func12, Try.ntmps12
  go_wp2_with fail
  refine (gawake_c _).mono ?_
  rintro e w1 ⟨rfl, hb1⟩
  have L1 : Below w.heap.size w w1 := ((Below.refl _ _).alloc (Nat.le_refl _) _).trans (hb1.mono (by simp))
  have C1 : Mem.Blk w1 w.heap.size 47 #[.int .i64 k0, .int .i64 k1, .int .i64 k2, .int .i64 a0, .int .i64 a1, .int .i64 a2, .slice A n c, .int .i64 per, .int .i64 ret, .int .i64 age, .int .i64 dead] := Mem.Blk.new.belowS hb1
  clear hb1
  have m0 : w1.cell? ⟨w.heap.size, 0, none⟩ = some (.int .i64 k0) := C1.cell 0
  have m1 : w1.cell? ⟨w.heap.size, 1, none⟩ = some (.int .i64 k1) := C1.cell 1
  have m2 : w1.cell? ⟨w.heap.size, 2, none⟩ = some (.int .i64 k2) := C1.cell 2
  have m3 : w1.cell? ⟨w.heap.size, 3, none⟩ = some (.int .i64 a0) := C1.cell 3
  have m4 : w1.cell? ⟨w.heap.size, 4, none⟩ = some (.int .i64 a1) := C1.cell 4
  have m5 : w1.cell? ⟨w.heap.size, 5, none⟩ = some (.int .i64 a2) := C1.cell 5
  have m6 : w1.cell? ⟨w.heap.size, 6, none⟩ = some (.slice A n c) := C1.cell 6
  have m7 : w1.cell? ⟨w.heap.size, 7, none⟩ = some (.int .i64 per) := C1.cell 7
  have m8 : w1.cell? ⟨w.heap.size, 8, none⟩ = some (.int .i64 ret) := C1.cell 8
  have m9 : w1.cell? ⟨w.heap.size, 9, none⟩ = some (.int .i64 age) := C1.cell 9
  have m10 : w1.cell? ⟨w.heap.size, 10, none⟩ = some (.int .i64 dead) := C1.cell 10
  go_wp2_with fail
  refine (hfit.out _ L1).mono ?_
  rintro e w2 ⟨b, rfl, hfb, hb2⟩
  have L2 : Below w.heap.size w w2 := L1.trans (hb2.mono L1.size)
  have C2 := C1.belowS hb2
  clear hb2 C1 L1 m0 m1 m2 m3 m4 m5 m6 m7 m8 m9 m10
  have hor : b = false ∨ b = true ∧ (1000000000 < round ∨ round ≤ 1000000000 ∧ (60 < q ∨ q ≤ 60)) := by cases b <;> simp <;> omega
  rcases hor with rfl | ⟨rfl, h1 | ⟨h1, h2 | h2⟩⟩
  · clear hfb
    go_wp2_with fail
    refine (gawake_c _).mono ?_
    rintro e w9 ⟨rfl, hb9⟩
    go_wp2_with fail
    go_ret
    exact ⟨rfl, L2.trans (hb9.mono L2.size)⟩
  · clear hfb
    have d1 : decide (round > 1000000000) = true := by simpa using h1
    go_wp2_with fail
    refine (gawake_c _).mono ?_
    rintro e w9 ⟨rfl, hb9⟩
    go_wp2_with fail
    go_ret
    exact ⟨rfl, L2.trans (hb9.mono L2.size)⟩
  · clear hfb
    have d1 : decide (round > 1000000000) = false := by simpa using h1
    go_wp2_with fail
    refine (gawake_c _).mono ?_
    rintro e w9 ⟨rfl, hb9⟩
    go_wp2_with fail
    go_ret
    exact ⟨rfl, L2.trans (hb9.mono L2.size)⟩
  · have HF := Lib.hid (hfb rfl)
    have d1 : decide (round > 1000000000) = false := by simpa using h1
    obtain ⟨hm12, hmn, hr0, hzl⟩ := Hfacts.out HF.out
    subst hmn
    have zlt := C2.lt
    clear hfb hfit
    have m0 : w2.cell? ⟨w.heap.size, 0, none⟩ = some (.int .i64 k0) := C2.cell 0
    have m1 : w2.cell? ⟨w.heap.size, 1, none⟩ = some (.int .i64 k1) := C2.cell 1
    have m2 : w2.cell? ⟨w.heap.size, 2, none⟩ = some (.int .i64 k2) := C2.cell 2
    have m3 : w2.cell? ⟨w.heap.size, 3, none⟩ = some (.int .i64 a0) := C2.cell 3
    have m4 : w2.cell? ⟨w.heap.size, 4, none⟩ = some (.int .i64 a1) := C2.cell 4
    have m5 : w2.cell? ⟨w.heap.size, 5, none⟩ = some (.int .i64 a2) := C2.cell 5
    have m6 : w2.cell? ⟨w.heap.size, 6, none⟩ = some (.slice A m c) := C2.cell 6
    have m7 : w2.cell? ⟨w.heap.size, 7, none⟩ = some (.int .i64 per) := C2.cell 7
    have m8 : w2.cell? ⟨w.heap.size, 8, none⟩ = some (.int .i64 ret) := C2.cell 8
    have m9 : w2.cell? ⟨w.heap.size, 9, none⟩ = some (.int .i64 age) := C2.cell 9
    have m10 : w2.cell? ⟨w.heap.size, 10, none⟩ = some (.int .i64 dead) := C2.cell 10
    go_wp2_with fail
    refine (gstart.out HF.out _ (L2.alloc L2.size _)).mono ?_
    rintro e w3 ⟨A3, c3, rfl, R3, hb3⟩
    have L3 : Below w.heap.size w w3 := (L2.alloc L2.size _).trans (hb3.mono (by have := L2.size; simp; omega))
    have C3 : Mem.Blk w3 w.heap.size 47 #[.int .i64 k0, .int .i64 k1, .int .i64 k2, .int .i64 a0, .int .i64 a1, .int .i64 a2, .slice A m c, .int .i64 per, .int .i64 ret, .int .i64 age, .int .i64 dead] := C2.alloc.belowS hb3
    have R3' : IRow w3 w.heap.size A3 m c3 ((stepL (ML 9223372036854775807 9223372036854775807 9223372036854775807) zs round).map (.int .i64)) := own_low R3 (by have := L2.size; simp; omega)
    clear hb3 R3 C2 L2 m0 m1 m2 m3 m4 m5 m6 m7 m8 m9 m10
    go_wp2_with fail
    refine (hro.out h2 _ L3).mono ?_
    rintro e w4 ⟨A4, c4, rfl, R4, hb4⟩
    have L4 : Below w.heap.size w w4 := L3.trans (hb4.mono L3.size)
    have C4 := C3.belowS hb4
    have R34 : IRow w4 w.heap.size A3 m c3 ((stepL (ML 9223372036854775807 9223372036854775807 9223372036854775807) zs round).map (.int .i64)) := own_below R3' hb4 (Nat.le_refl _)
    have T4 : Mem.Ints w4 w4.heap.size .i64 A4 q (ats 0 rs) := own_sl R4
    clear hb4 R3' C3 L3 hro R4
    have hbase : 0 ≤ round + atTo 0 rs 1 := by
      cases rs with
      | nil => simp [atTo]; omega
      | cons r rs => have := hgap.out r (by simp); simp [atTo]; omega
    have HB := Lib.hid hbase
    clear hbase
    go_wp2_with fail
    go_loopw [10, 12] (fun vs vi wr => ∃ (k : Nat) (A' : Option Addr) (c' : Nat) (Z : List Int), k ≤ q ∧ vi = .int .i64 k ∧ vs = .slice A' m c' ∧ Below w.heap.size w wr ∧ w4.heap.size ≤ wr.heap.size ∧ Mem.Blk wr w.heap.size 47 #[.int .i64 k0, .int .i64 k1, .int .i64 k2, .int .i64 a0, .int .i64 a1, .int .i64 a2, .slice A m c, .int .i64 per, .int .i64 ret, .int .i64 age, .int .i64 dead] ∧ Mem.Ints wr w4.heap.size .i64 A4 q (ats 0 rs) ∧ IRow wr w.heap.size A' m c' (Z.map (.int .i64)) ∧ Z.length = m ∧ Hid (InvZ (round + atTo 0 rs 1) (round + atTo 0 rs k) Z)) (fun _ i _ => q - (intOf i).toNat)
    case atStart => exact ⟨0, A3, c3, _, by omega, rfl, rfl, L4, Nat.le_refl _, C4, T4, R34, by rw [stepL_len (by rw [gml.out, hzl])]; exact hzl, ginv.out HF.out _ _⟩
    case round =>
      clear L4 C4 T4 R34 ginv gstart
      obtain ⟨k, A', c', Z, hk, rfl, rfl, hbr, hzr, B0, T0, R0, hZl, hI⟩ := hrel
      by_cases hlt : k < q
      · obtain ⟨ad, hl, rfl, hadb, hbk, hat⟩ := RowV.at_ (hq.below hbr) hlt
        obtain ⟨at4, z, hlz, rfl, _, hze, hcz⟩ := Mem.Ints.at_ T0 hlt
        obtain ⟨at5, z0, hlz0, hA5, _, hze0, hcz0⟩ := Mem.Ints.at_ T0 (k := 0) (by omega)
        obtain rfl : at4 = at5 := by simpa using hA5
        have hq60 := atTo_bd 0 rs hgap.out (k + 1) (by omega)
        have e1 : z = atTo 0 rs (k + 1) := by rw [← hze, ats_get 0 rs k (by omega)]
        have e0 : z0 = atTo 0 rs 1 := by rw [← hze0, ats_get 0 rs 0 (by omega)]
        have mono1 := atTo_mono 0 rs hgap.out k (k + 1) (by omega) (by omega)
        have mono0 := atTo_mono 0 rs hgap.out 1 (k + 1) (by omega) (by omega)
        have hro := Hqo.out rs[k] (List.getElem_mem hl)
        have Hav : Hid (ThrV.I64 rs[k].av0 ∧ ThrV.I64 rs[k].av1 ∧ ThrV.I64 rs[k].av2) := ⟨hro.av0, hro.av1, hro.av2⟩
        have hI2 : Hid (∀ ms : List Bool, ms.length = m → InvZ (round + z0) (round + z) (stepL ms Z (round + z)) ∧ (stepL ms Z (round + z)).length = m) := by
          intro ms hms
          rw [e0, e1]
          exact ⟨inv_step hI.out (by omega) (by omega), by rw [stepL_len (by rw [hms, hZl])]; exact hZl⟩
        have He1 := Lib.hid e1
        have He0 := Lib.hid e0
        have hzz : 0 ≤ z ∧ z ≤ 16000 := by omega
        have hz0z : 1 ≤ z0 ∧ z0 ≤ z := by
          have := atTo_bd 0 rs hgap.out 1 (by omega)
          omega
        obtain ⟨hzz0, hzz1⟩ := hzz
        obtain ⟨hz01, hz02⟩ := hz0z
        clear e1 e0 hze hze0 mono1 mono0 hq60 hro hI
        generalize rs[k] = r at *
        obtain ⟨gap, av0, av1, av2⟩ := r
        have hatr : RowV.At wr (ad.add (k * 4)) ⟨gap, av0, av1, av2⟩ := hat
        clear hat
        dsimp only at Hav
        go_wp2_with fail
        refine Reg.start (S := (fun w' => Mem.Blk w' w.heap.size 47 #[.int .i64 k0, .int .i64 k1, .int .i64 k2, .int .i64 a0, .int .i64 a1, .int .i64 a2, .slice A m c, .int .i64 per, .int .i64 ret, .int .i64 age, .int .i64 dead] ∧ RowV.At w' (ad.add (k * 4)) ⟨gap, av0, av1, av2⟩)) (by kernel_rfl) ?_
        refine Reg.takes (n := 2) (by kernel_rfl) (fun _ _ d _ _ h => by cases d <;> exact h) ⟨B0.drew, hatr.drew⟩ [0, 1, 2, 3, 4, 5, 6, 7] _ _ (by kernel_rfl) ?_
        iterate 8 (refine Reg.det_step rfl (fun K' hK' => ?_); go_simp; (first | (refine hK' _ ?_; clear hK' K') | (apply Exists.intro; refine ⟨fun wx hwx => ?_, hK' _ ?_⟩; (first | rfl | (have hA := hwx; intro hB; have m0 : wx.cell? ⟨w.heap.size, 0, none⟩ = some (.int .i64 k0) := Mem.Blk.cell hA 0; have m1 : wx.cell? ⟨w.heap.size, 1, none⟩ = some (.int .i64 k1) := Mem.Blk.cell hA 1; have m2 : wx.cell? ⟨w.heap.size, 2, none⟩ = some (.int .i64 k2) := Mem.Blk.cell hA 2; have m3 : wx.cell? ⟨w.heap.size, 3, none⟩ = some (.int .i64 a0) := Mem.Blk.cell hA 3; have m4 : wx.cell? ⟨w.heap.size, 4, none⟩ = some (.int .i64 a1) := Mem.Blk.cell hA 4; have m5 : wx.cell? ⟨w.heap.size, 5, none⟩ = some (.int .i64 a2) := Mem.Blk.cell hA 5; have m6 : wx.cell? ⟨w.heap.size, 6, none⟩ = some (.slice A m c) := Mem.Blk.cell hA 6; have m7 : wx.cell? ⟨w.heap.size, 7, none⟩ = some (.int .i64 per) := Mem.Blk.cell hA 7; have m8 : wx.cell? ⟨w.heap.size, 8, none⟩ = some (.int .i64 ret) := Mem.Blk.cell hA 8; have m9 : wx.cell? ⟨w.heap.size, 9, none⟩ = some (.int .i64 age) := Mem.Blk.cell hA 9; have m10 : wx.cell? ⟨w.heap.size, 10, none⟩ = some (.int .i64 dead) := Mem.Blk.cell hA 10; have r0 := RowV.At.c0 hB; have r1 := RowV.At.c1 hB; have r2 := RowV.At.c2 hB; have r3 := RowV.At.c3 hB; dsimp only at r0 r1 r2 r3; go_simp; first | done | rfl)); clear hK' K')))
        refine Reg.det_nil ?_
        refine Reg.one (i := 8) (n := 1) (by kernel_rfl) ?_
        refine Reg.call rfl rfl (by go_simp; exact ⟨rfl, rfl⟩) ?_
        refine (gstep.out HF.out _ A' c' Z (round + z) av0 av1 av2 hbr.drew Hav.out.1 Hav.out.2.1 Hav.out.2.2 (by exact own_sl (World.ownsRow.drew R0))).mono ?_
        rintro e v1 ⟨A5, c5, rfl, R5, hv1⟩
        have LL1 : Below w.heap.size w v1 := hbr.drew.trans (hv1.mono hbr.size)
        have BB1 : Mem.Blk v1 w.heap.size 47 #[.int .i64 k0, .int .i64 k1, .int .i64 k2, .int .i64 a0, .int .i64 a1, .int .i64 a2, .slice A m c, .int .i64 per, .int .i64 ret, .int .i64 age, .int .i64 dead] := Mem.Blk.belowS B0.drew hv1
        have zz1 : wr.heap.size ≤ v1.heap.size := hv1.size
        have hrb : (ad.add (k * 4)).block < wr.heap.size := by have := hbr.size; omega
        have AA1 : RowV.At v1 (ad.add (k * 4)) ⟨gap, av0, av1, av2⟩ := RowV.At.below hatr.drew hv1 hrb
        have TT1 : Mem.Ints v1 w4.heap.size .i64 (some at4) q (ats 0 rs) := Mem.Ints.below T0.drew (hv1.mono hzr)
        have cz1 : v1.cell? (at4.add k) = some (.int .i64 z) := (hv1.cell (p := at4.add k) (World.block_lt_of_cell? wr _ hcz)).trans hcz
        have cz01 : v1.cell? (at4.add 0) = some (.int .i64 z0) := (hv1.cell (p := at4.add 0) (World.block_lt_of_cell? wr _ hcz0)).trans hcz0
        obtain ⟨hI3, hZ3⟩ := hI2.out (ML av0 av1 av2) (by rw [gml.out])
        have HI3 := Lib.hid hI3
        generalize stepL (ML av0 av1 av2) Z (round + z) = Z2 at *
        refine ⟨_, rfl, ⟨BB1, AA1⟩, ?_⟩
        refine Reg.takes (n := 0) (by kernel_rfl) (fun _ _ d _ _ h => by cases d <;> exact h) ⟨BB1, AA1⟩ [9] _ _ (by kernel_rfl) ?_
        iterate 1 (refine Reg.det_step rfl (fun K' hK' => ?_); go_simp; (first | (refine hK' _ ?_; clear hK' K') | (apply Exists.intro; refine ⟨fun wx hwx => ?_, hK' _ ?_⟩; (first | rfl | (have hA := hwx; intro hB; have m0 : wx.cell? ⟨w.heap.size, 0, none⟩ = some (.int .i64 k0) := Mem.Blk.cell hA 0; have m1 : wx.cell? ⟨w.heap.size, 1, none⟩ = some (.int .i64 k1) := Mem.Blk.cell hA 1; have m2 : wx.cell? ⟨w.heap.size, 2, none⟩ = some (.int .i64 k2) := Mem.Blk.cell hA 2; have m3 : wx.cell? ⟨w.heap.size, 3, none⟩ = some (.int .i64 a0) := Mem.Blk.cell hA 3; have m4 : wx.cell? ⟨w.heap.size, 4, none⟩ = some (.int .i64 a1) := Mem.Blk.cell hA 4; have m5 : wx.cell? ⟨w.heap.size, 5, none⟩ = some (.int .i64 a2) := Mem.Blk.cell hA 5; have m6 : wx.cell? ⟨w.heap.size, 6, none⟩ = some (.slice A m c) := Mem.Blk.cell hA 6; have m7 : wx.cell? ⟨w.heap.size, 7, none⟩ = some (.int .i64 per) := Mem.Blk.cell hA 7; have m8 : wx.cell? ⟨w.heap.size, 8, none⟩ = some (.int .i64 ret) := Mem.Blk.cell hA 8; have m9 : wx.cell? ⟨w.heap.size, 9, none⟩ = some (.int .i64 age) := Mem.Blk.cell hA 9; have m10 : wx.cell? ⟨w.heap.size, 10, none⟩ = some (.int .i64 dead) := Mem.Blk.cell hA 10; have r0 := RowV.At.c0 hB; have r1 := RowV.At.c1 hB; have r2 := RowV.At.c2 hB; have r3 := RowV.At.c3 hB; dsimp only at r0 r1 r2 r3; go_simp; first | done | rfl)); clear hK' K')))
        refine Reg.det_nil ?_
        refine wpAnyH_done (by kernel_rfl) ?_ _
        clear hatr hcz hcz0 B0 T0 R0 AA1 hI3 hI2
        have m0 : v1.cell? ⟨w.heap.size, 0, none⟩ = some (.int .i64 k0) := BB1.cell 0
        have m1 : v1.cell? ⟨w.heap.size, 1, none⟩ = some (.int .i64 k1) := BB1.cell 1
        have m2 : v1.cell? ⟨w.heap.size, 2, none⟩ = some (.int .i64 k2) := BB1.cell 2
        have m3 : v1.cell? ⟨w.heap.size, 3, none⟩ = some (.int .i64 a0) := BB1.cell 3
        have m4 : v1.cell? ⟨w.heap.size, 4, none⟩ = some (.int .i64 a1) := BB1.cell 4
        have m5 : v1.cell? ⟨w.heap.size, 5, none⟩ = some (.int .i64 a2) := BB1.cell 5
        have m6 : v1.cell? ⟨w.heap.size, 6, none⟩ = some (.slice A m c) := BB1.cell 6
        have m7 : v1.cell? ⟨w.heap.size, 7, none⟩ = some (.int .i64 per) := BB1.cell 7
        have m8 : v1.cell? ⟨w.heap.size, 8, none⟩ = some (.int .i64 ret) := BB1.cell 8
        have m9 : v1.cell? ⟨w.heap.size, 9, none⟩ = some (.int .i64 age) := BB1.cell 9
        have m10 : v1.cell? ⟨w.heap.size, 10, none⟩ = some (.int .i64 dead) := BB1.cell 10
        go_wp2_with fail
        refine (hhold.out HF.out _ A5 c5 Z2 (round + z) LL1 (by omega) (by omega) (inv_fit HI3.out (by rw [He0.out]; exact HB.out) (by omega)) (by exact own_sl R5)).mono ?_
        rintro e v2 ⟨A6, c6, rfl, R6, hv2⟩
        have LL2 : Below w.heap.size w v2 := LL1.trans (hv2.mono LL1.size)
        have BB2 : Mem.Blk v2 w.heap.size 47 #[.int .i64 k0, .int .i64 k1, .int .i64 k2, .int .i64 a0, .int .i64 a1, .int .i64 a2, .slice A m c, .int .i64 per, .int .i64 ret, .int .i64 age, .int .i64 dead] := Mem.Blk.belowS BB1 hv2
        have R52 : IRow v2 w.heap.size A5 m c5 (Z2.map (.int .i64)) := own_low (own_below R5 hv2 (Nat.le_refl _)) (by have := hbr.size; show w.heap.size ≤ wr.drew.heap.size; exact this)
        have TT2 : Mem.Ints v2 w4.heap.size .i64 (some at4) q (ats 0 rs) := TT1.below (hv2.mono (by omega))
        have cz2 : v2.cell? (at4.add k) = some (.int .i64 z) := (hv2.cell (p := at4.add k) (World.block_lt_of_cell? v1 _ cz1)).trans cz1
        have cz02 : v2.cell? (at4.add 0) = some (.int .i64 z0) := (hv2.cell (p := at4.add 0) (World.block_lt_of_cell? v1 _ cz01)).trans cz01
        have sH : Mem.Sl v2 v2.heap.size 1 A6 m ((holdL ths Z2 (round + z)).map Value.bool) := own_sl R6
        have zz2 := hv2.size
        have HG : Hid (∀ j (hj : j < ths.length), (holdL ths Z2 (round + z)).getD j false = true → ths[j].soft = true → ths[j].grace ≤ z - z0) := by
          intro j hj h1 h2
          have := inv_hold HI3.out j hj (by rw [hZ3]; omega) h1 h2
          omega
        generalize holdL ths Z2 (round + z) = HB2 at *
        clear hv1 hv2 R5 R6 BB1 LL1 TT1 cz1 cz01 m0 m1 m2 m3 m4 m5 m6 m7 m8 m9 m10
        have m0 : v2.cell? ⟨w.heap.size, 0, none⟩ = some (.int .i64 k0) := BB2.cell 0
        have m1 : v2.cell? ⟨w.heap.size, 1, none⟩ = some (.int .i64 k1) := BB2.cell 1
        have m2 : v2.cell? ⟨w.heap.size, 2, none⟩ = some (.int .i64 k2) := BB2.cell 2
        have m3 : v2.cell? ⟨w.heap.size, 3, none⟩ = some (.int .i64 a0) := BB2.cell 3
        have m4 : v2.cell? ⟨w.heap.size, 4, none⟩ = some (.int .i64 a1) := BB2.cell 4
        have m5 : v2.cell? ⟨w.heap.size, 5, none⟩ = some (.int .i64 a2) := BB2.cell 5
        have m6 : v2.cell? ⟨w.heap.size, 6, none⟩ = some (.slice A m c) := BB2.cell 6
        have m7 : v2.cell? ⟨w.heap.size, 7, none⟩ = some (.int .i64 per) := BB2.cell 7
        have m8 : v2.cell? ⟨w.heap.size, 8, none⟩ = some (.int .i64 ret) := BB2.cell 8
        have m9 : v2.cell? ⟨w.heap.size, 9, none⟩ = some (.int .i64 age) := BB2.cell 9
        have m10 : v2.cell? ⟨w.heap.size, 10, none⟩ = some (.int .i64 dead) := BB2.cell 10
        have dmn : ((m : Int) != (m : Int)) = false := by simp
        go_wp2_with fail
        clear m0 m1 m2 m3 m4 m5 m6 m7 m8 m9 m10 dmn
        go_loopw [15] (fun vj wq => ∃ j : Nat, j ≤ m ∧ vj = .int .i64 j ∧ Below v2.heap.size v2 wq) (fun j _ => m - (intOf j).toNat)
        case atStart => exact ⟨0, by omega, rfl, Below.refl _ _⟩
        case round =>
          obtain ⟨j, hj, rfl, hbq⟩ := hrel
          have LQ : Below w.heap.size w wr := LL2.trans (hbq.mono LL2.size)
          have zq := hbq.size
          by_cases hjt : j < m
          · obtain ⟨th, hA, _, ht, hat⟩ : ∃ (th : Addr), A = some th ∧ th.block < w.heap.size ∧ (th.add (j * 5)).block < w.heap.size ∧ ThrV.At wr (th.add (j * 5)) (ths[j]'(by omega)) := by
              obtain ⟨th, _, e1, e2, e3, e4⟩ := ThrV.at_ (Hsl.out.below LQ) (k := j) (by omega)
              exact ⟨th, e1, e2, e3, e4⟩
            obtain ⟨hd, rfl, hch⟩ := sl_bool (sH.below hbq) hjt
            have hG2 := HG.out j (by omega)
            have hq0 : 0 < q := by omega
            have hq0' : (0 : Int) < (q : Int) := by omega
            generalize HB2.getD j false = hb at *
            generalize ths[j]'(by omega) = t at *
            obtain ⟨sig, pct, amt, soft, grace⟩ := t
            dsimp only at hG2
            have BQ := BB2.belowS hbq
            have cq := (hbq.cell (p := at4.add k) (World.block_lt_of_cell? v2 _ cz2)).trans cz2
            have cq0 := (hbq.cell (p := at4.add 0) (World.block_lt_of_cell? v2 _ cz02)).trans cz02
            subst hA
            have hor : hb = false ∨ hb = true ∧ (soft = false ∨ soft = true ∧ grace ≤ z - z0) := by
              cases hb <;> cases soft <;> simp at hG2 ⊢
              exact hG2
            clear hG2
            rcases hor with rfl | ⟨rfl, rfl | ⟨rfl, hgz⟩⟩
            · go_wp2_with fail
              have SX : (fun w' => w'.cell? (hd.add j) = some (.bool false) ∧ w'.cell? ⟨w.heap.size, 6, none⟩ = some (.slice (some th) m c) ∧ ThrV.At w' (th.add (j * 5)) ⟨sig, pct, amt, soft, grace⟩ ∧ w'.cell? (at4.add k) = some (.int .i64 z) ∧ w'.cell? at4 = some (.int .i64 z0)) (World.drew wr) := ⟨hch, BQ.cell 6, hat.drew, cq, by have := cq0; rwa [show at4.add 0 = at4 from by simp [Addr.add]] at this⟩
              refine Reg.start (S := (fun w' => w'.cell? (hd.add j) = some (.bool false) ∧ w'.cell? ⟨w.heap.size, 6, none⟩ = some (.slice (some th) m c) ∧ ThrV.At w' (th.add (j * 5)) ⟨sig, pct, amt, soft, grace⟩ ∧ w'.cell? (at4.add k) = some (.int .i64 z) ∧ w'.cell? at4 = some (.int .i64 z0))) (by kernel_rfl) ?_
              refine Reg.takes (n := 0) (by kernel_rfl) (fun _ _ d _ _ h => by cases d <;> exact h) SX [0, 1, 2, 3, 4, 5, 6, 7, 8, 9, 10, 11, 12, 13, 14, 15, 16, 17, 18, 19, 20, 21, 22, 23, 24, 25, 26, 27, 28] _ _ (by kernel_rfl) ?_
              iterate 29 (refine Reg.det_step rfl (fun K' hK' => ?_); go_simp; (first | (refine hK' _ ?_; clear hK' K') | (apply Exists.intro; refine ⟨fun wx hwx => ?_, hK' _ ?_⟩; (first | rfl | (have fa := hwx; intro fb hT fc fd; have t0 := ThrV.At.c0 hT; have t3 := ThrV.At.c3 hT; have t4 := ThrV.At.c4 hT; dsimp only at t0 t3 t4; go_simp; first | done | rfl)); clear hK' K')))
              refine Reg.det_nil ?_
              refine wpAnyH_done (by kernel_rfl) ?_ _
              go_wp2_with fail
              go_roundw
              case rel => exact ⟨j + 1, by omega, by go_num, hbq.drew⟩
              case measure => simp [intOf]; omega
            · go_wp2_with fail
              have SX : (fun w' => w'.cell? (hd.add j) = some (.bool true) ∧ w'.cell? ⟨w.heap.size, 6, none⟩ = some (.slice (some th) m c) ∧ ThrV.At w' (th.add (j * 5)) ⟨sig, pct, amt, false, grace⟩ ∧ w'.cell? (at4.add k) = some (.int .i64 z) ∧ w'.cell? at4 = some (.int .i64 z0)) (World.drew wr) := ⟨hch, BQ.cell 6, hat.drew, cq, by have := cq0; rwa [show at4.add 0 = at4 from by simp [Addr.add]] at this⟩
              refine Reg.start (S := (fun w' => w'.cell? (hd.add j) = some (.bool true) ∧ w'.cell? ⟨w.heap.size, 6, none⟩ = some (.slice (some th) m c) ∧ ThrV.At w' (th.add (j * 5)) ⟨sig, pct, amt, false, grace⟩ ∧ w'.cell? (at4.add k) = some (.int .i64 z) ∧ w'.cell? at4 = some (.int .i64 z0))) (by kernel_rfl) ?_
              refine Reg.takes (n := 0) (by kernel_rfl) (fun _ _ d _ _ h => by cases d <;> exact h) SX [0, 1, 2, 3, 4, 5, 6, 7, 8, 9, 10, 11, 12, 13, 14, 15, 16, 17, 18, 19, 20, 21, 22, 23, 24, 25, 26, 27, 28] _ _ (by kernel_rfl) ?_
              iterate 29 (refine Reg.det_step rfl (fun K' hK' => ?_); go_simp; (first | (refine hK' _ ?_; clear hK' K') | (apply Exists.intro; refine ⟨fun wx hwx => ?_, hK' _ ?_⟩; (first | rfl | (have fa := hwx; intro fb hT fc fd; have t0 := ThrV.At.c0 hT; have t3 := ThrV.At.c3 hT; have t4 := ThrV.At.c4 hT; dsimp only at t0 t3 t4; go_simp; first | done | rfl)); clear hK' K')))
              refine Reg.det_nil ?_
              refine wpAnyH_done (by kernel_rfl) ?_ _
              go_wp2_with fail
              go_roundw
              case rel => exact ⟨j + 1, by omega, by go_num, hbq.drew⟩
              case measure => simp [intOf]; omega
            · have hw : IntKind.i64.wrap (z - z0) = z - z0 := by unfold IntKind.wrap; simp [IntKind.bits, IntKind.signed]; omega
              have d2 : decide (z - z0 < grace) = false := by simp; omega
              go_wp2_with fail
              have SX : (fun w' => w'.cell? (hd.add j) = some (.bool true) ∧ w'.cell? ⟨w.heap.size, 6, none⟩ = some (.slice (some th) m c) ∧ ThrV.At w' (th.add (j * 5)) ⟨sig, pct, amt, true, grace⟩ ∧ w'.cell? (at4.add k) = some (.int .i64 z) ∧ w'.cell? at4 = some (.int .i64 z0)) (World.drew wr) := ⟨hch, BQ.cell 6, hat.drew, cq, by have := cq0; rwa [show at4.add 0 = at4 from by simp [Addr.add]] at this⟩
              refine Reg.start (S := (fun w' => w'.cell? (hd.add j) = some (.bool true) ∧ w'.cell? ⟨w.heap.size, 6, none⟩ = some (.slice (some th) m c) ∧ ThrV.At w' (th.add (j * 5)) ⟨sig, pct, amt, true, grace⟩ ∧ w'.cell? (at4.add k) = some (.int .i64 z) ∧ w'.cell? at4 = some (.int .i64 z0))) (by kernel_rfl) ?_
              refine Reg.takes (n := 0) (by kernel_rfl) (fun _ _ d _ _ h => by cases d <;> exact h) SX [0, 1, 2, 3, 4, 5, 6, 7, 8, 9, 10, 11, 12, 13, 14, 15, 16, 17, 18, 19, 20, 21, 22, 23, 24, 25, 26, 27, 28] _ _ (by kernel_rfl) ?_
              iterate 29 (refine Reg.det_step rfl (fun K' hK' => ?_); go_simp; (first | (refine hK' _ ?_; clear hK' K') | (apply Exists.intro; refine ⟨fun wx hwx => ?_, hK' _ ?_⟩; (first | rfl | (have fa := hwx; intro fb hT fc fd; have t0 := ThrV.At.c0 hT; have t3 := ThrV.At.c3 hT; have t4 := ThrV.At.c4 hT; dsimp only at t0 t3 t4; go_simp; first | done | rfl)); clear hK' K')))
              refine Reg.det_nil ?_
              refine wpAnyH_done (by kernel_rfl) ?_ _
              go_wp2_with fail
              go_roundw
              case rel => exact ⟨j + 1, by omega, by go_num, hbq.drew⟩
              case measure => simp [intOf]; omega
          · obtain rfl : j = m := by omega
            go_wp2_with fail
            go_roundw
            case rel => exact ⟨k + 1, A5, c5, Z2, by omega, by go_num, rfl, LQ, by omega, BB2.belowS hbq, TT2.below (hbq.mono (by omega)), own_below R52 hbq (Nat.le_refl _), hZ3, by rw [← He0.out, ← He1.out]; exact HI3.out⟩
            case measure => simp [intOf]; omega
      · obtain rfl : k = q := by omega
        go_wp2_with fail
        go_ret
        exact ⟨rfl, hbr⟩
theorem walk (v1 v2 v3 v4 : Value) (w : World) (h1 : Frame.Arg Try.prog w 47 v1) (h2 : Frame.Arg Try.prog w 36 v2) (h3 : Frame.Arg Try.prog w 3 v3) (h4 : Frame.Arg Try.prog w 62 v4) :
    Calls Try.prog 12 #[v1, v2, v3, v4] w fun e w' => e = .returned (.bool true) ∧ Below w.heap.size w w' := by
  obtain ⟨p, ths, rfl, hp⟩ := CfgV.of_arg h1
  obtain ⟨S, m, sc, zs, rfl, hms, hsm, hz, _⟩ := h2.ints Try.underlying36 Try.underlying3 (by kernel_rfl)
  obtain ⟨round, rfl, _⟩ := h3.int Try.underlying3
  obtain ⟨Q, q, qc, rs, rfl, hqc, hqm, _, hqo, hq⟩ := RowV.of_slice h4
  unfold maxLen at hsm hqm
  exact core p ths S m sc zs round Q q qc rs w hp hz (by omega) hq hqo (by omega)
end graceAnew
end Go.Proofs.Ytjfbnobijlkicaa
