/- QosClasses: the walk. -/
import Derived.Test.YtgdbpjaebdlnjaaQosParts
import Derived.Test.YtgdbpjaebdlnjaaPodM
namespace Go.Proofs.Ytgdbpjaebdlnjaa
open Go.RowKit
namespace qosClasses
open Qos
theorem score_bd (p : PodV) (m : Int) : 0 ≤ score p m ∧ score p m ≤ 1000 := by unfold score; (repeat' split) <;> omega
theorem score_kind (p : PodV) (m : Int) : (p.crit = true → score p m = 0) ∧ (cls p = 1 → score p m = 0) ∧ (cls p = 3 → p.crit = false → score p m = 1000) ∧ (cls p = 2 → p.crit = false → 2 ≤ score p m ∧ score p m ≤ 999) := by
  unfold score
  refine ⟨fun h => ?_, fun h => ?_, fun h h2 => ?_, fun h h2 => ?_⟩
  · rw [if_pos (.inr h)]
  · rw [if_pos (.inl h)]
  · rw [if_neg (by rw [h, h2]; simp), if_pos h]
  · rw [if_neg (by rw [h, h2]; simp), if_neg (by omega)]; omega
set_option maxRecDepth 100000 in
set_option maxHeartbeats 4000000 in
theorem walk (v1 v2 : Value) (w : World) (h1 : Frame.Arg Try.prog w 24 v1) (h2 : Frame.Arg Try.prog w 3 v2) :
    Calls Try.prog 3 #[v1, v2] w fun e w' => e = .returned (.bool true) ∧ Below w.heap.size w w' := by
  obtain ⟨p, rfl, hp⟩ := PodV.of_arg h1
  obtain ⟨m, rfl, hm⟩ := h2.int Try.underlying3
  have hm := Frame.bd_i64 hm
  have hm' : I64 m := hm
  obtain ⟨hm0, hm1⟩ := hm
  have hsm : Hid (∀ w, Calls Try.prog 14 #[.agg p.arr] w (AnyBb w)) := fun w => small_c p w hp
  have hri : Hid (∀ w, Calls Try.prog 15 #[.agg p.arr] w (RightSaid p w)) := fun w => right_c p w hp
  have hcl : Hid (∀ w, Calls Try.prog 16 #[.agg p.arr] w (ClassSaid p w)) := fun w => class_c p w
  have hsc : Hid (∀ w, Calls Try.prog 17 #[.agg p.arr, .int .i64 m] w (ScoreSaid p m w)) := fun w => score_c p m w hp hm'
  have hrcl : Hid (RightF p → ∀ w, Calls Try.prog 18 #[.agg p.arr] w (ClassSaid p w)) := fun hf w => rclass_c p w hf
  have hrsc : Hid (RightF p → ∀ w, Calls Try.prog 19 #[.agg p.arr, .int .i64 m] w (ScoreSaid p m w)) := fun hf w => rscore_c p m w hp hf hm'
  have h3 := cls_three p
  have hbd := score_bd p m
  have hkind := Lib.hid (score_kind p m)
  clear h1 h2 hp hm'
  unfold ClassSaid at hcl hrcl
  unfold ScoreSaid at hsc hrsc
  unfold RightSaid at hri
  obtain ⟨F, hF⟩ : ∃ F : Prop, F = RightF p := ⟨_, rfl⟩
  rw [← hF] at hri hrcl hrsc
  clear hF
  generalize cls p = c at *
  generalize score p m = s at *
  obtain ⟨id, prio, crit, r0, r1, r2, l0, l1, l2, img, size⟩ := p
  unfold PodV.arr at hsm hri hcl hsc hrcl hrsc ⊢
  dsimp only at hsm hri hcl hsc hrcl hrsc hkind ⊢
  obtain ⟨hs0, hs1⟩ := hbd
  go_enter Try.func3, Try.ntmps3
  go_wp2_with fail
  refine (qawake_c _).mono ?_
  rintro e w1 ⟨rfl, hb1⟩
  have L1 : Below w.heap.size w w1 := ((Below.refl _ _).alloc (Nat.le_refl _) _).trans (hb1.mono (by simp))
  have z1 : w.heap.size + 1 ≤ w1.heap.size := by have := hb1.size; simpa using this
  have D1 : PodV.AtB w1 w.heap.size ⟨id, prio, crit, r0, r1, r2, l0, l1, l2, img, size⟩ := PodV.of_blk (t := 24) (Mem.Blk.new.belowS hb1)
  clear hb1
  obtain ⟨c0, c1, c2, c3, c4, c5, c6, c7, c8, c9, c10⟩ := D1
  dsimp only at c0 c1 c2 c3 c4 c5 c6 c7 c8 c9 c10
  go_wp2_with fail
  refine (hsm.out _).mono ?_
  rintro e w2 ⟨b, rfl, hb2⟩
  have L2 : Below w.heap.size w w2 := L1.trans (hb2.mono L1.size)
  have z2 : w.heap.size + 1 ≤ w2.heap.size := Nat.le_trans z1 hb2.size
  have D2 : PodV.AtB w2 w.heap.size ⟨id, prio, crit, r0, r1, r2, l0, l1, l2, img, size⟩ := PodV.AtB.below ⟨c0, c1, c2, c3, c4, c5, c6, c7, c8, c9, c10⟩ hb2 (by omega)
  clear hb2 c0 c1 c2 c3 c4 c5 c6 c7 c8 c9 c10 L1
  obtain ⟨c0, c1, c2, c3, c4, c5, c6, c7, c8, c9, c10⟩ := D2
  dsimp only at c0 c1 c2 c3 c4 c5 c6 c7 c8 c9 c10
  cases b with
  | false =>
    go_wp2_with fail
    refine (qawake_c _).mono ?_
    rintro e w3 ⟨rfl, hb3⟩
    go_wp2_with fail
    go_ret
    exact ⟨rfl, L2.trans (hb3.mono L2.size)⟩
  | true =>
    go_wp2_with fail
    refine (hri.out _).mono ?_
    rintro e w3 ⟨b, rfl, hfb, hb3⟩
    have L3 : Below w.heap.size w w3 := L2.trans (hb3.mono L2.size)
    have z3 : w.heap.size + 1 ≤ w3.heap.size := Nat.le_trans z2 hb3.size
    have D3 : PodV.AtB w3 w.heap.size ⟨id, prio, crit, r0, r1, r2, l0, l1, l2, img, size⟩ := PodV.AtB.below ⟨c0, c1, c2, c3, c4, c5, c6, c7, c8, c9, c10⟩ hb3 (by omega)
    clear hb3 c0 c1 c2 c3 c4 c5 c6 c7 c8 c9 c10 L2
    obtain ⟨c0, c1, c2, c3, c4, c5, c6, c7, c8, c9, c10⟩ := D3
    dsimp only at c0 c1 c2 c3 c4 c5 c6 c7 c8 c9 c10
    have hor : b = false ∨ b = true ∧ (m < 1 ∨ 1 ≤ m) := by cases b <;> simp <;> omega
    rcases hor with rfl | ⟨rfl, hmm | hmm⟩
    · clear hfb
      go_wp2_with fail
      refine (qawake_c _).mono ?_
      rintro e w4 ⟨rfl, hb4⟩
      go_wp2_with fail
      go_ret
      exact ⟨rfl, L3.trans (hb4.mono L3.size)⟩
    · clear hfb
      go_wp2_with fail
      refine (qawake_c _).mono ?_
      rintro e w4 ⟨rfl, hb4⟩
      go_wp2_with fail
      go_ret
      exact ⟨rfl, L3.trans (hb4.mono L3.size)⟩
    · have HF := Lib.hid (hfb rfl)
      clear hfb
      go_wp2_with fail
      refine (hcl.out _).mono ?_
      rintro e w4 ⟨rfl, hb4⟩
      have L4 : Below w.heap.size w w4 := L3.trans (hb4.mono L3.size)
      have z4 : w.heap.size + 1 ≤ w4.heap.size := Nat.le_trans z3 hb4.size
      have D4 : PodV.AtB w4 w.heap.size ⟨id, prio, crit, r0, r1, r2, l0, l1, l2, img, size⟩ := PodV.AtB.below ⟨c0, c1, c2, c3, c4, c5, c6, c7, c8, c9, c10⟩ hb4 (by omega)
      clear hb4 c0 c1 c2 c3 c4 c5 c6 c7 c8 c9 c10 L3
      obtain ⟨c0, c1, c2, c3, c4, c5, c6, c7, c8, c9, c10⟩ := D4
      dsimp only at c0 c1 c2 c3 c4 c5 c6 c7 c8 c9 c10
      go_wp2_with fail
      refine (hsc.out _).mono ?_
      rintro e w5 ⟨rfl, hb5⟩
      have L5 : Below w.heap.size w w5 := L4.trans (hb5.mono L4.size)
      have z5 : w.heap.size + 1 ≤ w5.heap.size := Nat.le_trans z4 hb5.size
      have D5 : PodV.AtB w5 w.heap.size ⟨id, prio, crit, r0, r1, r2, l0, l1, l2, img, size⟩ := PodV.AtB.below ⟨c0, c1, c2, c3, c4, c5, c6, c7, c8, c9, c10⟩ hb5 (by omega)
      clear hb5 c0 c1 c2 c3 c4 c5 c6 c7 c8 c9 c10 L4
      obtain ⟨c0, c1, c2, c3, c4, c5, c6, c7, c8, c9, c10⟩ := D5
      dsimp only at c0 c1 c2 c3 c4 c5 c6 c7 c8 c9 c10
      go_wp2_with fail
      refine (hrcl.out HF.out _).mono ?_
      rintro e w6 ⟨rfl, hb6⟩
      have L6 : Below w.heap.size w w6 := L5.trans (hb6.mono L5.size)
      have z6 : w.heap.size + 1 ≤ w6.heap.size := Nat.le_trans z5 hb6.size
      have D6 : PodV.AtB w6 w.heap.size ⟨id, prio, crit, r0, r1, r2, l0, l1, l2, img, size⟩ := PodV.AtB.below ⟨c0, c1, c2, c3, c4, c5, c6, c7, c8, c9, c10⟩ hb6 (by omega)
      clear hb6 c0 c1 c2 c3 c4 c5 c6 c7 c8 c9 c10 L5
      obtain ⟨c0, c1, c2, c3, c4, c5, c6, c7, c8, c9, c10⟩ := D6
      dsimp only at c0 c1 c2 c3 c4 c5 c6 c7 c8 c9 c10
      go_wp2_with fail
      refine (hrsc.out HF.out _).mono ?_
      rintro e w7 ⟨rfl, hb7⟩
      have L7 : Below w.heap.size w w7 := L6.trans (hb7.mono L6.size)
      have k2 : w7.cell? ⟨w.heap.size, 2, none⟩ = some (.bool crit) := (hb7.cell (p := ⟨w.heap.size, 2, none⟩) (by show w.heap.size < _; omega)).trans c2
      clear hb7 c0 c1 c2 c3 c4 c5 c6 c7 c8 c9 c10 L6 hsm hri hcl hsc hrcl hrsc
      have g1 : decide (s < 0) = false := by simp; omega
      have g2 : decide (s > 1000) = false := by simp; omega
      obtain ⟨q1, q2, q3, q4⟩ := hkind.out
      clear hkind
      cases crit with
      | true =>
        obtain rfl := q1 rfl
        clear q1 q2 q3 q4
        go_wp2_with fail
        go_ret
        exact ⟨rfl, L7⟩
      | false =>
        rcases h3 with rfl | rfl | rfl
        · obtain rfl := q2 rfl
          clear q1 q2 q3 q4
          go_wp2_with fail
          go_ret
          exact ⟨rfl, L7⟩
        · obtain ⟨y1, y2⟩ := q4 rfl rfl
          clear q1 q2 q3 q4
          have d1 : decide (s ≥ 2) = true := by simpa using y1
          have d2 : decide (s ≤ 999) = true := by simpa using y2
          go_wp2_with fail
          go_ret
          exact ⟨rfl, L7⟩
        · obtain rfl := q3 rfl rfl
          clear q1 q2 q3 q4
          go_wp2_with fail
          go_ret
          exact ⟨rfl, L7⟩
end qosClasses
end Go.Proofs.Ytgdbpjaebdlnjaa
