/- The walks of layer 13 (qos): the reference's score; what the laws ask ahead of all. -/
import Derived.Test.YtgdbpjaebdlnjaaQosC
import Derived.Test.YtgdbpjaebdlnjaaQosD
namespace Go.Proofs.Ytgdbpjaebdlnjaa
open Go.RowKit
namespace PodV
/-- a block holds a pod -/
structure AtB (w : World) (g : Nat) (p : PodV) : Prop where
  c0 : w.cell? ⟨g, 0, none⟩ = some (.string p.id)
  c1 : w.cell? ⟨g, 1, none⟩ = some (.int .i64 p.prio)
  c2 : w.cell? ⟨g, 2, none⟩ = some (.bool p.crit)
  c3 : w.cell? ⟨g, 3, none⟩ = some (.int .i64 p.r0)
  c4 : w.cell? ⟨g, 4, none⟩ = some (.int .i64 p.r1)
  c5 : w.cell? ⟨g, 5, none⟩ = some (.int .i64 p.r2)
  c6 : w.cell? ⟨g, 6, none⟩ = some (.int .i64 p.l0)
  c7 : w.cell? ⟨g, 7, none⟩ = some (.int .i64 p.l1)
  c8 : w.cell? ⟨g, 8, none⟩ = some (.int .i64 p.l2)
  c9 : w.cell? ⟨g, 9, none⟩ = some (.string p.img)
  c10 : w.cell? ⟨g, 10, none⟩ = some (.int .i64 p.size)
theorem of_blk {w : World} {g : Nat} {t : TypeId} {p : PodV} (h : Mem.Blk w g t p.arr) : AtB w g p :=
  ⟨h.cell 0, h.cell 1, h.cell 2, h.cell 3, h.cell 4, h.cell 5, h.cell 6, h.cell 7, h.cell 8, h.cell 9, h.cell 10⟩
end PodV
instance (n : Int) : Decidable (I64 n) := by unfold I64; infer_instance
namespace Qos
set_option maxRecDepth 100000 in
set_option maxHeartbeats 1000000 in
theorem rscore_c (p : PodV) (m : Int) (w : World) (hp : p.ok) (hf : RightF p) (hm : I64 m) : Calls Try.prog 19 #[.agg p.arr, .int .i64 m] w (ScoreSaid p m w) := by
  have hcl := fun w => rclass_c p w hf
  have h3 := cls_three p
  have hth : Hid (∀ w, Calls Try.prog 21 #[.int .i64 p.r1, .int .i64 m] w fun e w' => e = .returned (.int .i64 (thou p.r1 m)) ∧ Below w.heap.size w w') := fun w => rthou_c p.r1 m w hp.r1.2 hm.2
  have hsc : Hid (score p m = if cls p = 1 ∨ p.crit = true then 0 else if cls p = 3 then 1000 else max 2 (min 999 (1000 - (thou p.r1 m : Int)))) := rfl
  have hle := thou_le p.r1 m
  have Hcl := Lib.hid hcl
  clear hcl hp hm hf
  unfold ScoreSaid
  obtain ⟨s, hs⟩ : ∃ s, s = score p m := ⟨_, rfl⟩
  rw [← hs] at hsc
  rw [← hs]
  clear hs
  obtain ⟨id, prio, crit, r0, r1, r2, l0, l1, l2, img, size⟩ := p
  unfold PodV.arr at Hcl ⊢
  unfold ClassSaid at Hcl
  dsimp only at Hcl hth hsc hle ⊢
  generalize cls ⟨id, prio, crit, r0, r1, r2, l0, l1, l2, img, size⟩ = c at *
  generalize thou r1 m = t at *
  go_enter Try.func19, Try.ntmps19
  go_wp2_with fail
  refine (Hcl.out _).mono ?_
  rintro e w1 ⟨rfl, hb1⟩
  have L1 : Below w.heap.size w w1 := ((Below.refl _ _).alloc (Nat.le_refl _) _).trans (hb1.mono (by simp))
  have B1 : Mem.Blk w1 w.heap.size 24 #[.string id, .int .i64 prio, .bool crit, .int .i64 r0, .int .i64 r1, .int .i64 r2, .int .i64 l0, .int .i64 l1, .int .i64 l2, .string img, .int .i64 size] := Mem.Blk.new.belowS hb1
  have c2 : w1.cell? ⟨w.heap.size, 2, none⟩ = some (.bool crit) := B1.cell 2
  have c4 : w1.cell? ⟨w.heap.size, 4, none⟩ = some (.int .i64 r1) := B1.cell 4
  clear hb1 B1
  rcases h3 with rfl | rfl | rfl
  · go_wp2_with fail
    go_ret
    exact ⟨by rw [hsc.out]; rfl, L1⟩
  · cases crit with
    | true =>
      go_wp2_with fail
      go_ret
      exact ⟨by rw [hsc.out]; rfl, L1⟩
    | false =>
      go_wp2_with fail
      refine (hth.out _).mono ?_
      rintro e w2 ⟨rfl, hb2⟩
      have hs2 : s = max 2 (min 999 (1000 - (t : Int))) := hsc.out
      have Hs2 := Lib.hid hs2
      have L2 : Below w.heap.size w w2 := L1.trans (hb2.mono L1.size)
      clear hs2 hsc hb2 L1
      have hor : 998 < t ∨ t = 0 ∨ 1 ≤ t ∧ t ≤ 998 := by omega
      rcases hor with q | rfl | ⟨q, q'⟩
      · have d1 : decide (1000 - (t : Int) < 2) = true := by simp; omega
        clear q
        go_wp2_with fail
        go_ret
        refine ⟨congrArg (fun z => Ending.returned (Value.int .i64 z)) (?_ : _ = s), L2⟩
        have := Hs2.out
        simp at d1
        omega
      · go_wp2_with fail
        go_ret
        refine ⟨congrArg (fun z => Ending.returned (Value.int .i64 z)) (?_ : _ = s), L2⟩
        have := Hs2.out
        omega
      · have d1 : decide (1000 - (t : Int) < 2) = false := by simp; omega
        have d2 : decide (1000 - (t : Int) > 999) = false := by simp; omega
        have Q := Lib.hid (And.intro q q')
        clear q q'
        go_wp2_with fail
        go_ret
        refine ⟨congrArg (fun z => Ending.returned (Value.int .i64 z)) (?_ : _ = s), L2⟩
        have := Hs2.out
        have := Q.out
        omega
  · cases crit with
    | true =>
      go_wp2_with fail
      go_ret
      exact ⟨by rw [hsc.out]; rfl, L1⟩
    | false =>
      go_wp2_with fail
      go_ret
      exact ⟨by rw [hsc.out]; rfl, L1⟩
def pg : PodV := ⟨⟨#[103]⟩, 0, false, 1, 2, 0, 1, 2, 9, ⟨#[120]⟩, 0⟩
def pb : PodV := ⟨⟨#[98]⟩, 0, false, 1, 50, 0, 0, 0, 0, ⟨#[120]⟩, 0⟩
def pn : PodV := ⟨⟨#[110]⟩, 0, false, 0, 0, 0, 0, 0, 0, ⟨#[120]⟩, 0⟩
theorem pg_ok : pg.ok := ⟨by decide, by decide, by decide, by decide, by decide, by decide, by decide, by decide, by decide, by decide⟩
theorem pb_ok : pb.ok := ⟨by decide, by decide, by decide, by decide, by decide, by decide, by decide, by decide, by decide, by decide⟩
theorem pn_ok : pn.ok := ⟨by decide, by decide, by decide, by decide, by decide, by decide, by decide, by decide, by decide, by decide⟩
theorem score_pb : score pb 100 = 500 := by decide +kernel
theorem score_pn : score pn 100 = 1000 := by decide +kernel
theorem score_pg : score pg 100 = 0 := by decide +kernel
theorem thou_13 : thou 1 3 = 333 := by decide +kernel
def cellsOf3 : List Value := PodV.flat [pg, pb, pb]
set_option maxRecDepth 100000 in
set_option maxHeartbeats 2000000 in
theorem qawake_c (w : World) : Calls Try.prog 13 #[] w fun e w' => e = .returned (.bool true) ∧ Below w.heap.size w w' := by
  have he4 := fun a0 a1 a2 a3 b0 b1 b2 b3 w => run_eq4 9998 a0 a1 a2 a3 b0 b1 b2 b3 w
  go_enter Try.func13, Try.ntmps13
  go_wp2_with fail
  refine (class_c pg _).mono ?_
  rintro e w1 ⟨e1, hb1⟩
  have q : e = .returned (.int .i64 1) := e1
  clear e1
  subst q
  have L1 : Below w.heap.size w w1 := ((((Below.refl _ _).alloc (Nat.le_refl _) _).alloc (by simp) _).alloc (by simp; omega) _).trans (hb1.mono (by simp; omega))
  have D0 : Mem.Blk w1 w.heap.size 24 pg.arr := (Mem.Blk.new (cs := pg.arr)).alloc.alloc.belowS hb1
  have D1 : Mem.Blk w1 (w.heap.size + 1) 24 pb.arr := by
    have q := (Mem.Blk.new (w := w.alloc (.cells pg.arr 24)) (t := 24) (cs := pb.arr)).alloc (o := .cells pn.arr 24) |>.belowS hb1
    rw [World.size_alloc] at q; exact q
  have D2 : Mem.Blk w1 (w.heap.size + 2) 24 pn.arr := by
    have q := (Mem.Blk.new (w := (w.alloc (.cells pg.arr 24)).alloc (.cells pb.arr 24)) (t := 24) (cs := pn.arr)) |>.belowS hb1
    rw [World.size_alloc, World.size_alloc] at q; exact q
  clear hb1
  obtain ⟨c0, c1, c2, c3, c4, c5, c6, c7, c8, c9, c10⟩ := PodV.of_blk D1
  go_wp2_with fail
  clear c0 c1 c2 c3 c4 c5 c6 c7 c8 c9 c10
  refine (class_c pb _).mono ?_
  rintro e w2 ⟨e2, hb2⟩
  have q : e = .returned (.int .i64 2) := e2
  clear e2
  subst q
  have L2 : Below w.heap.size w w2 := L1.trans (hb2.mono L1.size)
  replace D0 := D0.belowS hb2
  replace D1 := D1.belowS hb2
  replace D2 := D2.belowS hb2
  clear hb2 L1
  obtain ⟨c0, c1, c2, c3, c4, c5, c6, c7, c8, c9, c10⟩ := PodV.of_blk D2
  go_wp2_with fail
  clear c0 c1 c2 c3 c4 c5 c6 c7 c8 c9 c10
  refine (class_c pn _).mono ?_
  rintro e w3 ⟨e3, hb3⟩
  have q : e = .returned (.int .i64 3) := e3
  clear e3
  subst q
  have L3 : Below w.heap.size w w3 := L2.trans (hb3.mono L2.size)
  replace D0 := D0.belowS hb3
  replace D1 := D1.belowS hb3
  replace D2 := D2.belowS hb3
  clear hb3 L2
  obtain ⟨c0, c1, c2, c3, c4, c5, c6, c7, c8, c9, c10⟩ := PodV.of_blk D1
  go_wp2_with fail
  clear c0 c1 c2 c3 c4 c5 c6 c7 c8 c9 c10
  refine (score_c pb 100 _ pb_ok (by decide)).mono ?_
  rintro e w4 ⟨e4, hb4⟩
  rw [score_pb] at e4
  have q : e = .returned (.int .i64 500) := e4
  clear e4
  subst q
  have L4 : Below w.heap.size w w4 := L3.trans (hb4.mono L3.size)
  replace D0 := D0.belowS hb4
  replace D1 := D1.belowS hb4
  replace D2 := D2.belowS hb4
  clear hb4 L3
  obtain ⟨c0, c1, c2, c3, c4, c5, c6, c7, c8, c9, c10⟩ := PodV.of_blk D2
  go_wp2_with fail
  clear c0 c1 c2 c3 c4 c5 c6 c7 c8 c9 c10
  refine (score_c pn 100 _ pn_ok (by decide)).mono ?_
  rintro e w5 ⟨e5, hb5⟩
  rw [score_pn] at e5
  have q : e = .returned (.int .i64 1000) := e5
  clear e5
  subst q
  have L5 : Below w.heap.size w w5 := L4.trans (hb5.mono L4.size)
  replace D0 := D0.belowS hb5
  replace D1 := D1.belowS hb5
  replace D2 := D2.belowS hb5
  clear hb5 L4
  obtain ⟨c0, c1, c2, c3, c4, c5, c6, c7, c8, c9, c10⟩ := PodV.of_blk D0
  go_wp2_with fail
  clear c0 c1 c2 c3 c4 c5 c6 c7 c8 c9 c10
  refine (score_c pg 100 _ pg_ok (by decide)).mono ?_
  rintro e w6 ⟨e6, hb6⟩
  rw [score_pg] at e6
  have q : e = .returned (.int .i64 0) := e6
  clear e6
  subst q
  have L6 : Below w.heap.size w w6 := L5.trans (hb6.mono L5.size)
  replace D0 := D0.belowS hb6
  replace D1 := D1.belowS hb6
  replace D2 := D2.belowS hb6
  clear hb6 L5
  go_wp2_with fail
  refine (thou_c 1 3 _ (by decide) (by decide)).mono ?_
  rintro e w7 ⟨e7, hb7⟩
  rw [thou_13] at e7
  have q : e = .returned (.int .i64 333) := e7
  clear e7
  subst q
  have L7 : Below w.heap.size w w7 := L6.trans (hb7.mono L6.size)
  replace D0 := D0.belowS hb7
  replace D1 := D1.belowS hb7
  replace D2 := D2.belowS hb7
  clear hb7 L6
  obtain ⟨c0, c1, c2, c3, c4, c5, c6, c7, c8, c9, c10⟩ := PodV.of_blk D0
  obtain ⟨d0, d1, d2, d3, d4, d5, d6, d7, d8, d9, d10⟩ := PodV.of_blk D1
  go_wp2_with fail
  clear c0 c1 c2 c3 c4 c5 c6 c7 c8 c9 c10 d0 d1 d2 d3 d4 d5 d6 d7 d8 d9 d10
  refine (count_c _ 3 3 [pg, pb, pb] _ ?lit1 (by decide)).mono ?_
  · exact (Mem.new_sl (n := 3) (size := 11) rfl rfl rfl).more (by simp)
  rintro e w8 ⟨e8, hb8⟩
  have q : e = .returned (.agg #[.int .i64 0, .int .i64 1, .int .i64 2, .int .i64 0]) := e8
  clear e8
  subst q
  have L8 : Below w.heap.size w w8 := (L7.alloc L7.size _).trans (hb8.mono (by have := L7.size; simp; omega))
  go_wp2_with fail
  go_ret
  exact ⟨rfl, L8⟩
end Qos
end Go.Proofs.Ytgdbpjaebdlnjaa
