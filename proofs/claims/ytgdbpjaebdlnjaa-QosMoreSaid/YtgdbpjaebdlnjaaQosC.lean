/- The walks of the reference of layer 13 (qos): classes, scores; counts. -/
import Derived.Test.YtgdbpjaebdlnjaaQosF
import Derived.Test.YtgdbpjaebdlnjaaQosS
namespace Go.Proofs.Ytgdbpjaebdlnjaa
open Go.RowKit
namespace Qos
/-- the first i resources: nothing of them asked for, no limit -/
def noneTo (r0 r1 r2 l0 l1 l2 : Int) : Nat → Bool
  | 0 => true
  | 1 => (r0 == 0) && (l0 == 0)
  | 2 => (r0 == 0) && (l0 == 0) && ((r1 == 0) && (l1 == 0))
  | _ => (r0 == 0) && (l0 == 0) && ((r1 == 0) && (l1 == 0)) && ((r2 == 0) && (l2 == 0))
set_option maxRecDepth 100000 in
set_option maxHeartbeats 4000000 in
theorem rclass_c (p : PodV) (w : World) (hf : RightF p) : Calls Try.prog 18 #[.agg p.arr] w (ClassSaid p w) := by
  have hl0 := hf.l0
  have hl1 := hf.l1
  have hcl : Hid (∀ c, (noneTo p.r0 p.r1 p.r2 p.l0 p.l1 p.l2 3 = true → c = 3) → (noneTo p.r0 p.r1 p.r2 p.l0 p.l1 p.l2 3 = false → (p.l0 = 0 ∨ p.l0 ≠ p.r0 ∨ p.l1 = 0 ∨ p.l1 ≠ p.r1 → c = 2) ∧ (¬ (p.l0 = 0 ∨ p.l0 ≠ p.r0 ∨ p.l1 = 0 ∨ p.l1 ≠ p.r1) → c = 1)) → c = cls p) := by
    intro c h1 h2
    have e : noneTo p.r0 p.r1 p.r2 p.l0 p.l1 p.l2 3 = decide (p.r0 = 0 ∧ p.r1 = 0 ∧ p.r2 = 0 ∧ p.l0 = 0 ∧ p.l1 = 0 ∧ p.l2 = 0) := by
      rw [Bool.eq_iff_iff]
      simp [noneTo]
      omega
    rw [e] at h1 h2
    simp only [decide_eq_true_eq, decide_eq_false_iff_not] at h1 h2
    unfold cls
    split
    · exact h1 (by assumption)
    · split
      · exact (h2 (by assumption)).1 (by assumption)
      · exact (h2 (by assumption)).2 (by assumption)
  unfold ClassSaid
  obtain ⟨c, hc⟩ : ∃ c, c = cls p := ⟨_, rfl⟩
  rw [← hc] at hcl
  rw [← hc]
  have Hc : Hid (∀ x, (noneTo p.r0 p.r1 p.r2 p.l0 p.l1 p.l2 3 = true → x = 3) → (noneTo p.r0 p.r1 p.r2 p.l0 p.l1 p.l2 3 = false → (p.l0 = 0 ∨ p.l0 ≠ p.r0 ∨ p.l1 = 0 ∨ p.l1 ≠ p.r1 → x = 2) ∧ (¬ (p.l0 = 0 ∨ p.l0 ≠ p.r0 ∨ p.l1 = 0 ∨ p.l1 ≠ p.r1) → x = 1)) → x = c) := hcl
  clear hc hcl hf
  obtain ⟨id, prio, crit, r0, r1, r2, l0, l1, l2, img, size⟩ := p
  unfold PodV.arr
  dsimp only at Hc hl0 hl1 ⊢
  go_enter Try.func18, Try.ntmps18
  go_wp2_with fail
  go_loopw [3, 4] (fun v3 vi wr => ∃ (i : Nat) (z : Bool), i ≤ 3 ∧ vi = .int .i64 i ∧ v3 = .bool z ∧ Below w.heap.size w wr ∧ Mem.Blk wr w.heap.size 24 #[.string id, .int .i64 prio, .bool crit, .int .i64 r0, .int .i64 r1, .int .i64 r2, .int .i64 l0, .int .i64 l1, .int .i64 l2, .string img, .int .i64 size] ∧ Hid (z = noneTo r0 r1 r2 l0 l1 l2 i)) (fun _ i _ => 3 - (intOf i).toNat)
  case atStart => exact ⟨0, true, by omega, rfl, rfl, (Below.refl _ _).alloc (Nat.le_refl _) _, Mem.Blk.new, rfl⟩
  case round =>
    obtain ⟨i, z, hi, rfl, rfl, hbr, hblk, hz⟩ := hrel
    have k3 : wr.cell? ⟨w.heap.size, 3, none⟩ = some (.int .i64 r0) := hblk.cell 3
    have k4 : wr.cell? ⟨w.heap.size, 4, none⟩ = some (.int .i64 r1) := hblk.cell 4
    have k5 : wr.cell? ⟨w.heap.size, 5, none⟩ = some (.int .i64 r2) := hblk.cell 5
    have k6 : wr.cell? ⟨w.heap.size, 6, none⟩ = some (.int .i64 l0) := hblk.cell 6
    have k7 : wr.cell? ⟨w.heap.size, 7, none⟩ = some (.int .i64 l1) := hblk.cell 7
    have k8 : wr.cell? ⟨w.heap.size, 8, none⟩ = some (.int .i64 l2) := hblk.cell 8
    have hor : i = 0 ∨ i = 1 ∨ i = 2 ∨ i = 3 := by omega
    rcases hor with rfl | rfl | rfl | rfl
    · cases z with
      | false =>
        go_wp2_with fail
        go_roundw
        case rel => exact ⟨1, _, by omega, rfl, rfl, hbr, hblk, (by have q := hz.out; cases q)⟩
        case measure => simp [intOf]
      | true =>
        have hor : (r0 == 0) = false ∨ (r0 == 0) = true ∧ ((l0 == 0) = false ∨ (l0 == 0) = true) := by cases (r0 == 0) <;> cases (l0 == 0) <;> simp
        rcases hor with d1 | ⟨d1, d2 | d2⟩
        · go_wp2_with fail
          go_roundw
          case rel =>
            refine ⟨1, _, by omega, rfl, rfl, hbr, hblk, ?_⟩
            have q := hz.out
            show _ = _
            simp only [noneTo] at q ⊢
            simp [d1]
          case measure => simp [intOf]
        · go_wp2_with fail
          go_roundw
          case rel =>
            refine ⟨1, _, by omega, rfl, rfl, hbr, hblk, ?_⟩
            have q := hz.out
            show _ = _
            simp only [noneTo] at q ⊢
            simp [d1, d2]
          case measure => simp [intOf]
        · go_wp2_with fail
          go_roundw
          case rel =>
            refine ⟨1, _, by omega, rfl, rfl, hbr, hblk, ?_⟩
            have q := hz.out
            show _ = _
            simp only [noneTo] at q ⊢
            simp [d1, d2]
          case measure => simp [intOf]
    · cases z with
      | false =>
        go_wp2_with fail
        go_roundw
        case rel => exact ⟨2, _, by omega, rfl, rfl, hbr, hblk, (by have q := hz.out; show _ = _; simp only [noneTo] at q ⊢; rw [← q]; rfl)⟩
        case measure => simp [intOf]
      | true =>
        have hor : (r1 == 0) = false ∨ (r1 == 0) = true ∧ ((l1 == 0) = false ∨ (l1 == 0) = true) := by cases (r1 == 0) <;> cases (l1 == 0) <;> simp
        rcases hor with d1 | ⟨d1, d2 | d2⟩
        · go_wp2_with fail
          go_roundw
          case rel =>
            refine ⟨2, _, by omega, rfl, rfl, hbr, hblk, ?_⟩
            have q := hz.out
            show _ = _
            simp only [noneTo] at q ⊢
            simp [← q, d1]
          case measure => simp [intOf]
        · go_wp2_with fail
          go_roundw
          case rel =>
            refine ⟨2, _, by omega, rfl, rfl, hbr, hblk, ?_⟩
            have q := hz.out
            show _ = _
            simp only [noneTo] at q ⊢
            simp [← q, d1, d2]
          case measure => simp [intOf]
        · go_wp2_with fail
          go_roundw
          case rel =>
            refine ⟨2, _, by omega, rfl, rfl, hbr, hblk, ?_⟩
            have q := hz.out
            show _ = _
            simp only [noneTo] at q ⊢
            simp [← q, d1, d2]
          case measure => simp [intOf]
    · cases z with
      | false =>
        go_wp2_with fail
        go_roundw
        case rel => exact ⟨3, _, by omega, rfl, rfl, hbr, hblk, (by have q := hz.out; show _ = _; simp only [noneTo] at q ⊢; rw [← q]; rfl)⟩
        case measure => simp [intOf]
      | true =>
        have hor : (r2 == 0) = false ∨ (r2 == 0) = true ∧ ((l2 == 0) = false ∨ (l2 == 0) = true) := by cases (r2 == 0) <;> cases (l2 == 0) <;> simp
        rcases hor with d1 | ⟨d1, d2 | d2⟩
        · go_wp2_with fail
          go_roundw
          case rel =>
            refine ⟨3, _, by omega, rfl, rfl, hbr, hblk, ?_⟩
            have q := hz.out
            show _ = _
            simp only [noneTo] at q ⊢
            simp [← q, d1]
          case measure => simp [intOf]
        · go_wp2_with fail
          go_roundw
          case rel =>
            refine ⟨3, _, by omega, rfl, rfl, hbr, hblk, ?_⟩
            have q := hz.out
            show _ = _
            simp only [noneTo] at q ⊢
            simp [← q, d1, d2]
          case measure => simp [intOf]
        · go_wp2_with fail
          go_roundw
          case rel =>
            refine ⟨3, _, by omega, rfl, rfl, hbr, hblk, ?_⟩
            have q := hz.out
            show _ = _
            simp only [noneTo] at q ⊢
            simp [← q, d1, d2]
          case measure => simp [intOf]
    · cases z with
      | true =>
        go_wp2_with fail
        go_ret
        exact ⟨by rw [← Hc.out 3 (fun _ => rfl) (fun h => by rw [h] at hz; cases hz.out)]; rfl, hbr⟩
      | false =>
        have hor : l0 = 0 ∨ 0 < l0 ∧ (l0 ≠ r0 ∨ l0 = r0 ∧ (l1 = 0 ∨ 0 < l1 ∧ (l1 ≠ r1 ∨ l1 = r1))) := by omega
        rcases hor with q1 | ⟨q1, q2 | ⟨q2, q3 | ⟨q3, q4 | q4⟩⟩⟩
        · have d1 : decide (l0 > 0) = false := by first | (simp; omega) | simpa using q1
          have hres := Hc.out 2 (fun h => by rw [h] at hz; cases hz.out) (fun _ => ⟨fun _ => by rfl, fun _ => by omega⟩)
          have Hres := Lib.hid hres
          clear hres q1
          go_wp2_with fail
          go_ret
          exact ⟨by rw [← Hres.out]; rfl, hbr⟩
        · have d1 : decide (l0 > 0) = true := by first | (simp; omega) | simpa using q1
          have d2 : (l0 == r0) = false := by first | (simp; omega) | simpa using q2
          have hres := Hc.out 2 (fun h => by rw [h] at hz; cases hz.out) (fun _ => ⟨fun _ => by rfl, fun _ => by omega⟩)
          have Hres := Lib.hid hres
          clear hres q1 q2
          go_wp2_with fail
          go_ret
          exact ⟨by rw [← Hres.out]; rfl, hbr⟩
        · have d1 : decide (l0 > 0) = true := by first | (simp; omega) | simpa using q1
          have d2 : (l0 == r0) = true := by first | (simp; omega) | simpa using q2
          have d3 : decide (l1 > 0) = false := by first | (simp; omega) | simpa using q3
          have hres := Hc.out 2 (fun h => by rw [h] at hz; cases hz.out) (fun _ => ⟨fun _ => by rfl, fun _ => by omega⟩)
          have Hres := Lib.hid hres
          clear hres q1 q2 q3
          go_wp2_with fail
          go_ret
          exact ⟨by rw [← Hres.out]; rfl, hbr⟩
        · have d1 : decide (l0 > 0) = true := by first | (simp; omega) | simpa using q1
          have d2 : (l0 == r0) = true := by first | (simp; omega) | simpa using q2
          have d3 : decide (l1 > 0) = true := by first | (simp; omega) | simpa using q3
          have d4 : (l1 == r1) = false := by first | (simp; omega) | simpa using q4
          have hres := Hc.out 2 (fun h => by rw [h] at hz; cases hz.out) (fun _ => ⟨fun _ => by rfl, fun _ => by omega⟩)
          have Hres := Lib.hid hres
          clear hres q1 q2 q3 q4
          go_wp2_with fail
          go_ret
          exact ⟨by rw [← Hres.out]; rfl, hbr⟩
        · have d1 : decide (l0 > 0) = true := by first | (simp; omega) | simpa using q1
          have d2 : (l0 == r0) = true := by first | (simp; omega) | simpa using q2
          have d3 : decide (l1 > 0) = true := by first | (simp; omega) | simpa using q3
          have d4 : (l1 == r1) = true := by first | (simp; omega) | simpa using q4
          have hres := Hc.out 1 (fun h => by rw [h] at hz; cases hz.out) (fun _ => ⟨fun _ => by omega, fun _ => by rfl⟩)
          have Hres := Lib.hid hres
          clear hres q1 q2 q3 q4
          go_wp2_with fail
          go_ret
          exact ⟨by rw [← Hres.out]; rfl, hbr⟩
end Qos
end Go.Proofs.Ytgdbpjaebdlnjaa
