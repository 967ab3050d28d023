/- The walks of layer 18 (grace): what is met; a step. -/
import Derived.Test.YtjfbnobijlkicaaGraceW
namespace Go.Proofs.Ytjfbnobijlkicaa
open Go.RowKit
namespace Grc
/-- what a sample meets -/
def metC (k0 k1 k2 x0 x1 x2 : Int) (t : ThrV) : Bool := metT t (pick3 k0 k1 k2 t.sig) (pick3 x0 x1 x2 t.sig)
def metL (p : CfgV) (x0 x1 x2 : Int) (ths : List ThrV) : List Bool := ths.map (metC p.c0 p.c1 p.c2 x0 x1 x2)
/-- a config, a sample and a threshold in their blocks -/
structure MetS (w : World) (gc ga gt : Nat) (k0 k1 k2 x0 x1 x2 : Int) (t : ThrV) : Prop where
  k0 : w.cell? ⟨gc, 0, none⟩ = some (.int .i64 k0)
  k1 : w.cell? ⟨gc, 1, none⟩ = some (.int .i64 k1)
  k2 : w.cell? ⟨gc, 2, none⟩ = some (.int .i64 k2)
  x0 : w.cell? ⟨ga, 0, none⟩ = some (.int .i64 x0)
  x1 : w.cell? ⟨ga, 1, none⟩ = some (.int .i64 x1)
  x2 : w.cell? ⟨ga, 2, none⟩ = some (.int .i64 x2)
  t0 : w.cell? ⟨gt, 0, none⟩ = some (.int .i64 t.sig)
  t1 : w.cell? ⟨gt, 1, none⟩ = some (.int .i64 t.pct)
  t2 : w.cell? ⟨gt, 2, none⟩ = some (.int .i64 t.amt)
  t3 : w.cell? ⟨gt, 3, none⟩ = some (.bool t.soft)
  t4 : w.cell? ⟨gt, 4, none⟩ = some (.int .i64 t.grace)
theorem MetS.below {w w' : World} {gc ga gt : Nat} {k0 k1 k2 x0 x1 x2 : Int} {t : ThrV} (h : MetS w gc ga gt k0 k1 k2 x0 x1 x2 t) (hb : Below w.heap.size w w') (h1 : gc < w.heap.size) (h2 : ga < w.heap.size) (h3 : gt < w.heap.size) : MetS w' gc ga gt k0 k1 k2 x0 x1 x2 t :=
  ⟨(hb.cell (p := ⟨gc, 0, none⟩) h1).trans h.k0, (hb.cell (p := ⟨gc, 1, none⟩) h1).trans h.k1, (hb.cell (p := ⟨gc, 2, none⟩) h1).trans h.k2, (hb.cell (p := ⟨ga, 0, none⟩) h2).trans h.x0, (hb.cell (p := ⟨ga, 1, none⟩) h2).trans h.x1, (hb.cell (p := ⟨ga, 2, none⟩) h2).trans h.x2, (hb.cell (p := ⟨gt, 0, none⟩) h3).trans h.t0, (hb.cell (p := ⟨gt, 1, none⟩) h3).trans h.t1, (hb.cell (p := ⟨gt, 2, none⟩) h3).trans h.t2, (hb.cell (p := ⟨gt, 3, none⟩) h3).trans h.t3, (hb.cell (p := ⟨gt, 4, none⟩) h3).trans h.t4⟩
theorem MetS.drew {w : World} {gc ga gt : Nat} {k0 k1 k2 x0 x1 x2 : Int} {t : ThrV} (h : MetS w gc ga gt k0 k1 k2 x0 x1 x2 t) : MetS w.drew gc ga gt k0 k1 k2 x0 x1 x2 t :=
  ⟨h.k0, h.k1, h.k2, h.x0, h.x1, h.x2, h.t0, h.t1, h.t2, h.t3, h.t4⟩
theorem MetS.setCell {w : World} {gc ga gt : Nat} {k0 k1 k2 x0 x1 x2 : Int} {t : ThrV} (h : MetS w gc ga gt k0 k1 k2 x0 x1 x2 t) {q : Addr} {u : Value} (h1 : q.block ≠ gc) (h2 : q.block ≠ ga) (h3 : q.block ≠ gt) : MetS (w.setCell q u) gc ga gt k0 k1 k2 x0 x1 x2 t :=
  ⟨Mem.keep_set h1 h.k0, Mem.keep_set h1 h.k1, Mem.keep_set h1 h.k2, Mem.keep_set h2 h.x0, Mem.keep_set h2 h.x1, Mem.keep_set h2 h.x2, Mem.keep_set h3 h.t0, Mem.keep_set h3 h.t1, Mem.keep_set h3 h.t2, Mem.keep_set h3 h.t3, Mem.keep_set h3 h.t4⟩
set_option maxRecDepth 100000 in
set_option maxHeartbeats 4000000 in
theorem met_c (p : CfgV) (ths : List ThrV) (x0 x1 x2 : Int) (w : World) (hp : p.ok w w.heap.size ths) (hn : p.n ≤ 1000000) (hr : ∀ t ∈ ths, RightT t) (hx0 : ThrV.I64 x0) (hx1 : ThrV.I64 x1) (hx2 : ThrV.I64 x2) :
    Calls Try.prog 34 #[.agg p.arr, .agg #[.int .i64 x0, .int .i64 x1, .int .i64 x2]] w (NewB p.n ((metL p x0 x1 x2 ths).map .bool) w) := by
  have hlen := hp.len
  have hsl := hp.sl
  have Hp := Lib.hid hp
  have Hr := Lib.hid hr
  have hll : ((metL p x0 x1 x2 ths).map Value.bool).length = p.n := by simp [metL, hlen]
  obtain ⟨L, hL⟩ : ∃ L, L = (metL p x0 x1 x2 ths).map Value.bool := ⟨_, rfl⟩
  rw [← hL] at hll ⊢
  have HL := Lib.hid hL
  have Hx := Lib.hid (And.intro hx0 (And.intro hx1 hx2))
  clear hL hp hr hx0 hx1 hx2
  obtain ⟨k0, k1, k2, a0, a1, a2, A, n, c, per, ret, age, dead⟩ := p
  unfold CfgV.arr
  dsimp only at hn hlen hsl hll ⊢
  obtain ⟨wm, hmk, hO, hbm, hwm⟩ := make_of elt rfl n hn (by decide) ((w.alloc (.cells #[.int .i64 k0, .int .i64 k1, .int .i64 k2, .int .i64 a0, .int .i64 a1, .int .i64 a2, .slice A n c, .int .i64 per, .int .i64 ret, .int .i64 age, .int .i64 dead] 47)).alloc (.cells #[.int .i64 x0, .int .i64 x1, .int .i64 x2] 44))
  rw [World.size_alloc, World.size_alloc] at hmk hO hbm hwm
  have zm := hbm.size
  have L1 : Below w.heap.size w wm := (((Below.refl _ _).alloc (Nat.le_refl _) _).alloc (by simp) _).trans (hbm.mono (by omega))
  have B0 : Mem.Blk wm w.heap.size 47 #[.int .i64 k0, .int .i64 k1, .int .i64 k2, .int .i64 a0, .int .i64 a1, .int .i64 a2, .slice A n c, .int .i64 per, .int .i64 ret, .int .i64 age, .int .i64 dead] := Mem.Blk.new.alloc.below hbm (by omega)
  have B1 : Mem.Blk wm (w.heap.size + 1) 44 #[.int .i64 x0, .int .i64 x1, .int .i64 x2] := by
    have q := Mem.Blk.new (w := w.alloc (.cells #[.int .i64 k0, .int .i64 k1, .int .i64 k2, .int .i64 a0, .int .i64 a1, .int .i64 a2, .slice A n c, .int .i64 per, .int .i64 ret, .int .i64 age, .int .i64 dead] 47)) (t := 44) (cs := #[.int .i64 x0, .int .i64 x1, .int .i64 x2])
    rw [World.size_alloc] at q
    exact q.below hbm (by omega)
  have hO2 : BRow wm w.heap.size (some ⟨w.heap.size + 1 + 1, 0, none⟩) n n (part L (.bool false) 0) := by
    rw [part_zero, hll]
    exact own_low hO (by omega)
  have zO : w.heap.size + 3 ≤ wm.heap.size := by
    omega
  have m6 : wm.cell? ⟨w.heap.size, 6, none⟩ = some (.slice A n c) := B0.cell 6
  clear hbm hO zm
  go_enter Try.func34, Try.ntmps34
  go_wp2_with fail
  go_loopw [15] (fun vi wr => ∃ k : Nat, k ≤ n ∧ vi = .int .i64 k ∧ Below w.heap.size w wr ∧ w.heap.size + 3 ≤ wr.heap.size ∧ Mem.Blk wr w.heap.size 47 #[.int .i64 k0, .int .i64 k1, .int .i64 k2, .int .i64 a0, .int .i64 a1, .int .i64 a2, .slice A n c, .int .i64 per, .int .i64 ret, .int .i64 age, .int .i64 dead] ∧ Mem.Blk wr (w.heap.size + 1) 44 #[.int .i64 x0, .int .i64 x1, .int .i64 x2] ∧ BRow wr w.heap.size (some ⟨w.heap.size + 1 + 1, 0, none⟩) n n (part L (.bool false) k)) (fun i _ => n - (intOf i).toNat)
  case atStart => exact ⟨0, by omega, rfl, L1, zO, B0, B1, hO2⟩
  case round =>
    clear L1 hO2 hmk B0 B1 m6 zO
    obtain ⟨k, hk, rfl, hbr, hz, B0, B1, hrow⟩ := hrel
    by_cases hlt : k < n
    · obtain ⟨g, hl, hg, hg1, hg2, hcell, hfz, hset⟩ := own_at hrow hlt
      obtain rfl : w.heap.size + 1 + 1 = g := by simpa using hg
      obtain ⟨ad, hlk, rfl, _, hbk, hat⟩ := ThrV.at_ (hsl.below hbr) hlt
      have hmem : ths[k] ∈ ths := List.getElem_mem hlk
      have hrt := Hr.out _ hmem
      have hso := Hp.out.each _ hmem
      have hLk : L[k]'(by omega) = .bool (metC k0 k1 k2 x0 x1 x2 ths[k]) := by
        have := HL.out
        subst this
        simp [metL]
      have hset' : Hid (∀ b, b = metC k0 k1 k2 x0 x1 x2 ths[k] → ∀ wx : World, (∀ y : Value, (wx.setCell ⟨w.heap.size + 1 + 1, k, none⟩ y).ownsRow w.heap.size 4 1 (.slice (some ⟨w.heap.size + 1 + 1, 0, none⟩) n n) n ((part L (.bool false) k).set k y)) → BRow (wx.setCell ⟨w.heap.size + 1 + 1, k, none⟩ (.bool b)) w.heap.size (some ⟨w.heap.size + 1 + 1, 0, none⟩) n n (part L (.bool false) (k + 1))) := by
        intro b hb wx hx
        have q := hx (.bool b)
        rw [hb, ← hLk] at q
        rw [hb, ← hLk, ← part_set L _ k (by omega)]
        exact q
      have hcall : Hid (∀ (cap av : Int) (w : World), ThrV.I64 cap → ThrV.I64 av → Calls Try.prog 59 #[.agg ths[k].arr, .int .i64 cap, .int .i64 av] w fun e w' => e = .returned (.bool (metT ths[k] cap av)) ∧ Below w.heap.size w w') := fun cap av w h1 h2 => tmet_c ths[k] cap av w hso h1 h2
      have hmd : Hid (metC k0 k1 k2 x0 x1 x2 ths[k] = metT ths[k] (pick3 k0 k1 k2 ths[k].sig) (pick3 x0 x1 x2 ths[k].sig)) := rfl
      have hs0 := hrt.s0
      have hs2 := hrt.s2
      obtain ⟨t, ht⟩ : ∃ t, t = ths[k] := ⟨_, rfl⟩
      rw [← ht] at hs0 hs2 hat hcall hset' hmd
      clear hset hrt hso hLk hmem ht hcell
      obtain ⟨sig, pct, amt, soft, grace⟩ := t
      unfold ThrV.arr at hcall
      dsimp only at hs0 hs2 hcall hmd
      obtain ⟨c0, c1, c2, c3, c4⟩ := hat
      dsimp only at c0 c1 c2 c3 c4
      have hor : sig = 0 ∨ sig = 1 ∨ sig = 2 := by omega
      rcases hor with rfl | rfl | rfl
      · go_wp2_with fail
        clear c0 c1 c2 c3 c4
        have LW : Below w.heap.size w (wr.alloc (.cells (ThrV.arr ⟨0, pct, amt, soft, grace⟩) 67)) := hbr.alloc hbr.size _
        have M0 : MetS (wr.alloc (.cells (ThrV.arr ⟨0, pct, amt, soft, grace⟩) 67)) w.heap.size (w.heap.size + 1) wr.heap.size k0 k1 k2 x0 x1 x2 ⟨0, pct, amt, soft, grace⟩ :=
          have T0 := Mem.Blk.new (w := wr) (t := 67) (cs := ThrV.arr ⟨0, pct, amt, soft, grace⟩)
          ⟨B0.alloc.cell 0, B0.alloc.cell 1, B0.alloc.cell 2, B1.alloc.cell 0, B1.alloc.cell 1, B1.alloc.cell 2, T0.cell 0, T0.cell 1, T0.cell 2, T0.cell 3, T0.cell 4⟩
        refine Reg.start (S := (fun w' => MetS w' w.heap.size (w.heap.size + 1) wr.heap.size k0 k1 k2 x0 x1 x2 ⟨0, pct, amt, soft, grace⟩)) (by kernel_rfl) ?_
        refine Reg.takes (n := 3) (by kernel_rfl) (fun _ _ d _ _ h => by cases d <;> exact h) M0.drew [0, 1, 2, 3, 4, 5, 6, 7, 8, 9, 10, 11] _ _ (by kernel_rfl) ?_
        iterate 12 (refine Reg.det_step rfl (fun K' hK' => ?_); go_simp; (first | (refine hK' _ ?_; clear hK' K') | (apply Exists.intro; refine ⟨fun wx hwx => ?_, hK' _ ?_⟩; (first | rfl | (have fk0 := hwx.k0; have fk1 := hwx.k1; have fk2 := hwx.k2; have fx0 := hwx.x0; have fx1 := hwx.x1; have fx2 := hwx.x2; have ft0 := hwx.t0; have ft1 := hwx.t1; have ft2 := hwx.t2; have ft3 := hwx.t3; have ft4 := hwx.t4; dsimp only at ft0 ft1 ft2 ft3 ft4; go_simp; first | done | rfl)); clear hK' K')))
        refine Reg.det_nil ?_
        refine Reg.one (i := 12) (n := 2) (by kernel_rfl) ?_
        refine Reg.call rfl rfl (by go_simp; exact ⟨rfl, rfl⟩) ?_
        refine (hcall.out k0 x0 _ (by first | exact Hp.out.c0 | exact Hp.out.c1 | exact Hp.out.c2) (by first | exact Hx.out.1 | exact Hx.out.2.1 | exact Hx.out.2.2)).mono ?_
        rintro e w2 ⟨rfl, hb2⟩
        have L2 : Below w.heap.size w w2 := LW.drew.trans (hb2.mono LW.size)
        have z2 : wr.heap.size + 1 ≤ w2.heap.size := by
          have q : (wr.alloc (.cells (ThrV.arr ⟨0, pct, amt, soft, grace⟩) 67)).heap.size ≤ w2.heap.size := hb2.size
          rw [World.size_alloc] at q; exact q
        have M2 := MetS.below M0.drew hb2 (by simp <;> omega) (by simp <;> omega) (by simp <;> omega)
        have D0 := Mem.Blk.belowS B0.alloc.drew hb2
        have D1 : Mem.Blk w2 (w.heap.size + 1) 44 #[.int .i64 x0, .int .i64 x1, .int .i64 x2] := Mem.Blk.belowS B1.alloc.drew hb2
        have hrow2 : BRow w2 w.heap.size (some ⟨w.heap.size + 1 + 1, 0, none⟩) n n (part L (.bool false) k) := own_below (World.ownsRow.drew (World.ownsRow.alloc hrow _)) hb2 (Nat.le_refl _)
        obtain ⟨g, _, hgg, _, hgl, _, hfz2, hset2⟩ := own_at hrow2 hlt
        obtain rfl : w.heap.size + 1 + 1 = g := by simpa using hgg
        have Hset2 := hset'.out _ hmd.out.symm w2 hset2
        have HS := Lib.hid Hset2
        clear hset2 Hset2 hgg
        refine ⟨_, rfl, M2, ?_⟩
        refine Reg.takes (n := 1) (by kernel_rfl) (fun _ _ d _ _ h => by cases d <;> exact h) M2 [13] _ _ (by kernel_rfl) ?_
        iterate 1 (refine Reg.det_step rfl (fun K' hK' => ?_); go_simp; (first | (refine hK' _ ?_; clear hK' K') | (apply Exists.intro; refine ⟨fun wx hwx => ?_, hK' _ ?_⟩; (first | rfl | (have fk0 := hwx.k0; have fk1 := hwx.k1; have fk2 := hwx.k2; have fx0 := hwx.x0; have fx1 := hwx.x1; have fx2 := hwx.x2; have ft0 := hwx.t0; have ft1 := hwx.t1; have ft2 := hwx.t2; have ft3 := hwx.t3; have ft4 := hwx.t4; dsimp only at ft0 ft1 ft2 ft3 ft4; go_simp; first | done | rfl)); clear hK' K')))
        refine Reg.det_nil ?_
        refine Reg.one (i := 14) (n := 0) (by kernel_rfl) ?_
        refine Reg.skip rfl rfl (w' := w2.setCell ⟨w.heap.size + 1 + 1, k, none⟩ (.bool (metT ⟨0, pct, amt, soft, grace⟩ k0 x0))) (by go_simp) (M2.setCell (by simp <;> omega) (by simp <;> omega) (by simp <;> omega)) ?_
        refine wpAnyH_done (by kernel_rfl) ?_ _
        go_wp2_with fail
        go_roundw
        case rel => exact ⟨k + 1, by omega, by go_num, L2.setCell (by simp <;> omega) _, by simp <;> omega, D0.far (by simp <;> omega), D1.far (by simp <;> omega), HS.out⟩
        case measure => simp [intOf]; omega
      · go_wp2_with fail
        clear c0 c1 c2 c3 c4
        have LW : Below w.heap.size w (wr.alloc (.cells (ThrV.arr ⟨1, pct, amt, soft, grace⟩) 67)) := hbr.alloc hbr.size _
        have M0 : MetS (wr.alloc (.cells (ThrV.arr ⟨1, pct, amt, soft, grace⟩) 67)) w.heap.size (w.heap.size + 1) wr.heap.size k0 k1 k2 x0 x1 x2 ⟨1, pct, amt, soft, grace⟩ :=
          have T0 := Mem.Blk.new (w := wr) (t := 67) (cs := ThrV.arr ⟨1, pct, amt, soft, grace⟩)
          ⟨B0.alloc.cell 0, B0.alloc.cell 1, B0.alloc.cell 2, B1.alloc.cell 0, B1.alloc.cell 1, B1.alloc.cell 2, T0.cell 0, T0.cell 1, T0.cell 2, T0.cell 3, T0.cell 4⟩
        refine Reg.start (S := (fun w' => MetS w' w.heap.size (w.heap.size + 1) wr.heap.size k0 k1 k2 x0 x1 x2 ⟨1, pct, amt, soft, grace⟩)) (by kernel_rfl) ?_
        refine Reg.takes (n := 3) (by kernel_rfl) (fun _ _ d _ _ h => by cases d <;> exact h) M0.drew [0, 1, 2, 3, 4, 5, 6, 7, 8, 9, 10, 11] _ _ (by kernel_rfl) ?_
        iterate 12 (refine Reg.det_step rfl (fun K' hK' => ?_); go_simp; (first | (refine hK' _ ?_; clear hK' K') | (apply Exists.intro; refine ⟨fun wx hwx => ?_, hK' _ ?_⟩; (first | rfl | (have fk0 := hwx.k0; have fk1 := hwx.k1; have fk2 := hwx.k2; have fx0 := hwx.x0; have fx1 := hwx.x1; have fx2 := hwx.x2; have ft0 := hwx.t0; have ft1 := hwx.t1; have ft2 := hwx.t2; have ft3 := hwx.t3; have ft4 := hwx.t4; dsimp only at ft0 ft1 ft2 ft3 ft4; go_simp; first | done | rfl)); clear hK' K')))
        refine Reg.det_nil ?_
        refine Reg.one (i := 12) (n := 2) (by kernel_rfl) ?_
        refine Reg.call rfl rfl (by go_simp; exact ⟨rfl, rfl⟩) ?_
        refine (hcall.out k1 x1 _ (by first | exact Hp.out.c0 | exact Hp.out.c1 | exact Hp.out.c2) (by first | exact Hx.out.1 | exact Hx.out.2.1 | exact Hx.out.2.2)).mono ?_
        rintro e w2 ⟨rfl, hb2⟩
        have L2 : Below w.heap.size w w2 := LW.drew.trans (hb2.mono LW.size)
        have z2 : wr.heap.size + 1 ≤ w2.heap.size := by
          have q : (wr.alloc (.cells (ThrV.arr ⟨1, pct, amt, soft, grace⟩) 67)).heap.size ≤ w2.heap.size := hb2.size
          rw [World.size_alloc] at q; exact q
        have M2 := MetS.below M0.drew hb2 (by simp <;> omega) (by simp <;> omega) (by simp <;> omega)
        have D0 := Mem.Blk.belowS B0.alloc.drew hb2
        have D1 : Mem.Blk w2 (w.heap.size + 1) 44 #[.int .i64 x0, .int .i64 x1, .int .i64 x2] := Mem.Blk.belowS B1.alloc.drew hb2
        have hrow2 : BRow w2 w.heap.size (some ⟨w.heap.size + 1 + 1, 0, none⟩) n n (part L (.bool false) k) := own_below (World.ownsRow.drew (World.ownsRow.alloc hrow _)) hb2 (Nat.le_refl _)
        obtain ⟨g, _, hgg, _, hgl, _, hfz2, hset2⟩ := own_at hrow2 hlt
        obtain rfl : w.heap.size + 1 + 1 = g := by simpa using hgg
        have Hset2 := hset'.out _ hmd.out.symm w2 hset2
        have HS := Lib.hid Hset2
        clear hset2 Hset2 hgg
        refine ⟨_, rfl, M2, ?_⟩
        refine Reg.takes (n := 1) (by kernel_rfl) (fun _ _ d _ _ h => by cases d <;> exact h) M2 [13] _ _ (by kernel_rfl) ?_
        iterate 1 (refine Reg.det_step rfl (fun K' hK' => ?_); go_simp; (first | (refine hK' _ ?_; clear hK' K') | (apply Exists.intro; refine ⟨fun wx hwx => ?_, hK' _ ?_⟩; (first | rfl | (have fk0 := hwx.k0; have fk1 := hwx.k1; have fk2 := hwx.k2; have fx0 := hwx.x0; have fx1 := hwx.x1; have fx2 := hwx.x2; have ft0 := hwx.t0; have ft1 := hwx.t1; have ft2 := hwx.t2; have ft3 := hwx.t3; have ft4 := hwx.t4; dsimp only at ft0 ft1 ft2 ft3 ft4; go_simp; first | done | rfl)); clear hK' K')))
        refine Reg.det_nil ?_
        refine Reg.one (i := 14) (n := 0) (by kernel_rfl) ?_
        refine Reg.skip rfl rfl (w' := w2.setCell ⟨w.heap.size + 1 + 1, k, none⟩ (.bool (metT ⟨1, pct, amt, soft, grace⟩ k1 x1))) (by go_simp) (M2.setCell (by simp <;> omega) (by simp <;> omega) (by simp <;> omega)) ?_
        refine wpAnyH_done (by kernel_rfl) ?_ _
        go_wp2_with fail
        go_roundw
        case rel => exact ⟨k + 1, by omega, by go_num, L2.setCell (by simp <;> omega) _, by simp <;> omega, D0.far (by simp <;> omega), D1.far (by simp <;> omega), HS.out⟩
        case measure => simp [intOf]; omega
      · go_wp2_with fail
        clear c0 c1 c2 c3 c4
        have LW : Below w.heap.size w (wr.alloc (.cells (ThrV.arr ⟨2, pct, amt, soft, grace⟩) 67)) := hbr.alloc hbr.size _
        have M0 : MetS (wr.alloc (.cells (ThrV.arr ⟨2, pct, amt, soft, grace⟩) 67)) w.heap.size (w.heap.size + 1) wr.heap.size k0 k1 k2 x0 x1 x2 ⟨2, pct, amt, soft, grace⟩ :=
          have T0 := Mem.Blk.new (w := wr) (t := 67) (cs := ThrV.arr ⟨2, pct, amt, soft, grace⟩)
          ⟨B0.alloc.cell 0, B0.alloc.cell 1, B0.alloc.cell 2, B1.alloc.cell 0, B1.alloc.cell 1, B1.alloc.cell 2, T0.cell 0, T0.cell 1, T0.cell 2, T0.cell 3, T0.cell 4⟩
        refine Reg.start (S := (fun w' => MetS w' w.heap.size (w.heap.size + 1) wr.heap.size k0 k1 k2 x0 x1 x2 ⟨2, pct, amt, soft, grace⟩)) (by kernel_rfl) ?_
        refine Reg.takes (n := 3) (by kernel_rfl) (fun _ _ d _ _ h => by cases d <;> exact h) M0.drew [0, 1, 2, 3, 4, 5, 6, 7, 8, 9, 10, 11] _ _ (by kernel_rfl) ?_
        iterate 12 (refine Reg.det_step rfl (fun K' hK' => ?_); go_simp; (first | (refine hK' _ ?_; clear hK' K') | (apply Exists.intro; refine ⟨fun wx hwx => ?_, hK' _ ?_⟩; (first | rfl | (have fk0 := hwx.k0; have fk1 := hwx.k1; have fk2 := hwx.k2; have fx0 := hwx.x0; have fx1 := hwx.x1; have fx2 := hwx.x2; have ft0 := hwx.t0; have ft1 := hwx.t1; have ft2 := hwx.t2; have ft3 := hwx.t3; have ft4 := hwx.t4; dsimp only at ft0 ft1 ft2 ft3 ft4; go_simp; first | done | rfl)); clear hK' K')))
        refine Reg.det_nil ?_
        refine Reg.one (i := 12) (n := 2) (by kernel_rfl) ?_
        refine Reg.call rfl rfl (by go_simp; exact ⟨rfl, rfl⟩) ?_
        refine (hcall.out k2 x2 _ (by first | exact Hp.out.c0 | exact Hp.out.c1 | exact Hp.out.c2) (by first | exact Hx.out.1 | exact Hx.out.2.1 | exact Hx.out.2.2)).mono ?_
        rintro e w2 ⟨rfl, hb2⟩
        have L2 : Below w.heap.size w w2 := LW.drew.trans (hb2.mono LW.size)
        have z2 : wr.heap.size + 1 ≤ w2.heap.size := by
          have q : (wr.alloc (.cells (ThrV.arr ⟨2, pct, amt, soft, grace⟩) 67)).heap.size ≤ w2.heap.size := hb2.size
          rw [World.size_alloc] at q; exact q
        have M2 := MetS.below M0.drew hb2 (by simp <;> omega) (by simp <;> omega) (by simp <;> omega)
        have D0 := Mem.Blk.belowS B0.alloc.drew hb2
        have D1 : Mem.Blk w2 (w.heap.size + 1) 44 #[.int .i64 x0, .int .i64 x1, .int .i64 x2] := Mem.Blk.belowS B1.alloc.drew hb2
        have hrow2 : BRow w2 w.heap.size (some ⟨w.heap.size + 1 + 1, 0, none⟩) n n (part L (.bool false) k) := own_below (World.ownsRow.drew (World.ownsRow.alloc hrow _)) hb2 (Nat.le_refl _)
        obtain ⟨g, _, hgg, _, hgl, _, hfz2, hset2⟩ := own_at hrow2 hlt
        obtain rfl : w.heap.size + 1 + 1 = g := by simpa using hgg
        have Hset2 := hset'.out _ hmd.out.symm w2 hset2
        have HS := Lib.hid Hset2
        clear hset2 Hset2 hgg
        refine ⟨_, rfl, M2, ?_⟩
        refine Reg.takes (n := 1) (by kernel_rfl) (fun _ _ d _ _ h => by cases d <;> exact h) M2 [13] _ _ (by kernel_rfl) ?_
        iterate 1 (refine Reg.det_step rfl (fun K' hK' => ?_); go_simp; (first | (refine hK' _ ?_; clear hK' K') | (apply Exists.intro; refine ⟨fun wx hwx => ?_, hK' _ ?_⟩; (first | rfl | (have fk0 := hwx.k0; have fk1 := hwx.k1; have fk2 := hwx.k2; have fx0 := hwx.x0; have fx1 := hwx.x1; have fx2 := hwx.x2; have ft0 := hwx.t0; have ft1 := hwx.t1; have ft2 := hwx.t2; have ft3 := hwx.t3; have ft4 := hwx.t4; dsimp only at ft0 ft1 ft2 ft3 ft4; go_simp; first | done | rfl)); clear hK' K')))
        refine Reg.det_nil ?_
        refine Reg.one (i := 14) (n := 0) (by kernel_rfl) ?_
        refine Reg.skip rfl rfl (w' := w2.setCell ⟨w.heap.size + 1 + 1, k, none⟩ (.bool (metT ⟨2, pct, amt, soft, grace⟩ k2 x2))) (by go_simp) (M2.setCell (by simp <;> omega) (by simp <;> omega) (by simp <;> omega)) ?_
        refine wpAnyH_done (by kernel_rfl) ?_ _
        go_wp2_with fail
        go_roundw
        case rel => exact ⟨k + 1, by omega, by go_num, L2.setCell (by simp <;> omega) _, by simp <;> omega, D0.far (by simp <;> omega), D1.far (by simp <;> omega), HS.out⟩
        case measure => simp [intOf]; omega
    · obtain rfl : k = n := by omega
      go_wp2_with fail
      go_ret
      have q := hrow
      have e : part L (.bool false) k = L := by have := part_all L (.bool false); rw [hll] at this; exact this
      rw [e] at q
      exact ⟨_, _, rfl, q, hbr⟩
end Grc
end Go.Proofs.Ytjfbnobijlkicaa
