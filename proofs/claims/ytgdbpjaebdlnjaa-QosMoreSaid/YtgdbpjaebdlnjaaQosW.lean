/- The walks of layer 13 (qos). -/
import Derived.Test.YtgdbpjaebdlnjaaPod
import Derived.Test.YtgdbpjaebdlnjaaWideA
import Derived.Test.YtgdbpjaebdlnjaaReg
import Derived.Deep.DeepCutAuto
namespace Go.Proofs.Ytgdbpjaebdlnjaa
open Go.RowKit
namespace Qos
/-- a pod's class -/
def cls (p : PodV) : Int :=
  if p.r0 = 0 ∧ p.r1 = 0 ∧ p.r2 = 0 ∧ p.l0 = 0 ∧ p.l1 = 0 ∧ p.l2 = 0 then 3
  else if p.l0 = 0 ∨ p.l0 ≠ p.r0 ∨ p.l1 = 0 ∨ p.l1 ≠ p.r1 then 2 else 1
def ClassSaid (p : PodV) (W : World) (e : Ending) (w' : World) : Prop := e = .returned (.int .i64 (cls p)) ∧ Below W.heap.size W w'
set_option maxRecDepth 100000 in
set_option maxHeartbeats 2000000 in
theorem class_c (p : PodV) (w : World) : Calls Try.prog 16 #[.agg p.arr] w (ClassSaid p w) := by
  obtain ⟨id, prio, crit, r0, r1, r2, l0, l1, l2, img, size⟩ := p
  unfold PodV.arr
  dsimp only
  have he := eq3in
  by_cases hz : r0 = 0 ∧ r1 = 0 ∧ r2 = 0 ∧ l0 = 0 ∧ l1 = 0 ∧ l2 = 0
  · obtain ⟨rfl, rfl, rfl, rfl, rfl, rfl⟩ := hz
    go_enter Try.func16, Try.ntmps16
    go_wp2
    go_ret
    exact ⟨rfl, (Below.refl _ _).alloc (Nat.le_refl _) _⟩
  have hb : (r0 == 0 && (r1 == 0 && r2 == 0) && (l0 == 0 && (l1 == 0 && l2 == 0))) = false := by
    simp only [Bool.and_eq_false_iff, beq_eq_false_iff_ne]
    simp only [Bool.and_eq_true, not_and] at hz
    omega
  have hc : cls ⟨id, prio, crit, r0, r1, r2, l0, l1, l2, img, size⟩ = if l0 = 0 ∨ l0 ≠ r0 ∨ l1 = 0 ∨ l1 ≠ r1 then 2 else 1 := by
    unfold cls; simp only; rw [if_neg hz]
  have Hc := Lib.hid hc
  clear hc
  go_enter Try.func16, Try.ntmps16
  go_wp2_with fail
  all_goals
    go_loopw [3] (fun vi wr => ∃ i : Nat, i ≤ 2 ∧ vi = .int .i64 i ∧ Below w.heap.size w wr ∧ Mem.Blk wr w.heap.size 24 #[.string id, .int .i64 prio, .bool crit, .int .i64 r0, .int .i64 r1, .int .i64 r2, .int .i64 l0, .int .i64 l1, .int .i64 l2, .string img, .int .i64 size] ∧ (1 ≤ i → l0 ≠ 0 ∧ l0 = r0) ∧ (2 ≤ i → l1 ≠ 0 ∧ l1 = r1)) (fun i _ => 2 - (intOf i).toNat)
    case atStart => exact ⟨0, by omega, rfl, (Below.refl _ _).alloc (Nat.le_refl _) _, Mem.Blk.new, fun h => absurd h (by omega), fun h => absurd h (by omega)⟩
    case round =>
      obtain ⟨i, hi, rfl, hbr, hblk, hq, hq2⟩ := hrel
      have hor : i = 0 ∨ i = 1 ∨ i = 2 := by omega
      rcases hor with rfl | rfl | rfl
      · clear hq hq2
        by_cases hz0 : l0 = 0
        · have d1 : (l0 == 0) = true := by simp [hz0]
          have Hz := Lib.hid hz0
          clear hz0
          go_wp2_with fail
          refine Reg.start (S := (fun w' => Mem.Blk w' w.heap.size 24 #[.string id, .int .i64 prio, .bool crit, .int .i64 r0, .int .i64 r1, .int .i64 r2, .int .i64 l0, .int .i64 l1, .int .i64 l2, .string img, .int .i64 size])) (by kernel_rfl) ?_
          refine Reg.takes (n := 0) (by kernel_rfl) (fun _ _ d _ _ h => by cases d <;> exact h) hblk.drew [0, 1, 2, 3, 4, 5, 6, 7, 8, 9, 10, 11, 12, 13, 14, 15] _ _ (by kernel_rfl) ?_
          iterate 16 (refine Reg.det_step rfl (fun K' hK' => ?_); go_simp; (first | (refine hK' _ ?_; clear hK' K') | (apply Exists.intro; refine ⟨fun wx hwx => ?_, hK' _ ?_⟩; (first | rfl | (have cl : wx.cell? ⟨w.heap.size, 6, none⟩ = some (.int .i64 l0) := hwx.cell 6; have cr : wx.cell? ⟨w.heap.size, 3, none⟩ = some (.int .i64 r0) := hwx.cell 3; go_simp; first | done | rfl)); clear hK' K')))
          refine Reg.det_nil ?_
          refine wpAnyH_done (by kernel_rfl) ?_ _
          go_wp2_with fail
          go_ret
          exact ⟨by rw [Hc.out]; simp [Hz.out], hbr.drew⟩
        by_cases hr0 : l0 ≠ r0
        · have d1 : (l0 == 0) = false := by simp [hz0]
          have d2 : (l0 != r0) = true := by simp [hr0]
          have Hz := Lib.hid hz0
          have Hr := Lib.hid hr0
          clear hz0 hr0
          go_wp2_with fail
          refine Reg.start (S := (fun w' => Mem.Blk w' w.heap.size 24 #[.string id, .int .i64 prio, .bool crit, .int .i64 r0, .int .i64 r1, .int .i64 r2, .int .i64 l0, .int .i64 l1, .int .i64 l2, .string img, .int .i64 size])) (by kernel_rfl) ?_
          refine Reg.takes (n := 0) (by kernel_rfl) (fun _ _ d _ _ h => by cases d <;> exact h) hblk.drew [0, 1, 2, 3, 4, 5, 6, 7, 8, 9, 10, 11, 12, 13, 14, 15] _ _ (by kernel_rfl) ?_
          iterate 16 (refine Reg.det_step rfl (fun K' hK' => ?_); go_simp; (first | (refine hK' _ ?_; clear hK' K') | (apply Exists.intro; refine ⟨fun wx hwx => ?_, hK' _ ?_⟩; (first | rfl | (have cl : wx.cell? ⟨w.heap.size, 6, none⟩ = some (.int .i64 l0) := hwx.cell 6; have cr : wx.cell? ⟨w.heap.size, 3, none⟩ = some (.int .i64 r0) := hwx.cell 3; go_simp; first | done | rfl)); clear hK' K')))
          refine Reg.det_nil ?_
          refine wpAnyH_done (by kernel_rfl) ?_ _
          go_wp2_with fail
          go_ret
          exact ⟨by rw [Hc.out]; simp [Hz.out, Hr.out], hbr.drew⟩
        · have hr0 : l0 = r0 := Decidable.not_not.1 hr0
          have d1 : (l0 == 0) = false := by simp [hz0]
          have d2 : (l0 != r0) = false := by simp [hr0]
          have Hz := Lib.hid hz0
          have Hr := Lib.hid hr0
          clear hz0 hr0
          go_wp2_with fail
          refine Reg.start (S := (fun w' => Mem.Blk w' w.heap.size 24 #[.string id, .int .i64 prio, .bool crit, .int .i64 r0, .int .i64 r1, .int .i64 r2, .int .i64 l0, .int .i64 l1, .int .i64 l2, .string img, .int .i64 size])) (by kernel_rfl) ?_
          refine Reg.takes (n := 0) (by kernel_rfl) (fun _ _ d _ _ h => by cases d <;> exact h) hblk.drew [0, 1, 2, 3, 4, 5, 6, 7, 8, 9, 10, 11, 12, 13, 14, 15] _ _ (by kernel_rfl) ?_
          iterate 16 (refine Reg.det_step rfl (fun K' hK' => ?_); go_simp; (first | (refine hK' _ ?_; clear hK' K') | (apply Exists.intro; refine ⟨fun wx hwx => ?_, hK' _ ?_⟩; (first | rfl | (have cl : wx.cell? ⟨w.heap.size, 6, none⟩ = some (.int .i64 l0) := hwx.cell 6; have cr : wx.cell? ⟨w.heap.size, 3, none⟩ = some (.int .i64 r0) := hwx.cell 3; go_simp; first | done | rfl)); clear hK' K')))
          refine Reg.det_nil ?_
          refine wpAnyH_done (by kernel_rfl) ?_ _
          go_wp2_with fail
          go_roundw
          case rel => exact ⟨1, by omega, rfl, hbr.drew, hblk, fun _ => ⟨Hz.out, Hr.out⟩, fun h => absurd h (by omega)⟩
          case measure => simp [intOf]
      · have Hq := Lib.hid (hq (by omega))
        clear hq hq2
        by_cases hz1 : l1 = 0
        · have d1 : (l1 == 0) = true := by simp [hz1]
          have Hz := Lib.hid hz1
          clear hz1
          go_wp2_with fail
          refine Reg.start (S := (fun w' => Mem.Blk w' w.heap.size 24 #[.string id, .int .i64 prio, .bool crit, .int .i64 r0, .int .i64 r1, .int .i64 r2, .int .i64 l0, .int .i64 l1, .int .i64 l2, .string img, .int .i64 size])) (by kernel_rfl) ?_
          refine Reg.takes (n := 0) (by kernel_rfl) (fun _ _ d _ _ h => by cases d <;> exact h) hblk.drew [0, 1, 2, 3, 4, 5, 6, 7, 8, 9, 10, 11, 12, 13, 14, 15] _ _ (by kernel_rfl) ?_
          iterate 16 (refine Reg.det_step rfl (fun K' hK' => ?_); go_simp; (first | (refine hK' _ ?_; clear hK' K') | (apply Exists.intro; refine ⟨fun wx hwx => ?_, hK' _ ?_⟩; (first | rfl | (have cl : wx.cell? ⟨w.heap.size, 7, none⟩ = some (.int .i64 l1) := hwx.cell 7; have cr : wx.cell? ⟨w.heap.size, 4, none⟩ = some (.int .i64 r1) := hwx.cell 4; go_simp; first | done | rfl)); clear hK' K')))
          refine Reg.det_nil ?_
          refine wpAnyH_done (by kernel_rfl) ?_ _
          go_wp2_with fail
          go_ret
          exact ⟨by rw [Hc.out]; simp [Hz.out], hbr.drew⟩
        by_cases hr1 : l1 ≠ r1
        · have d1 : (l1 == 0) = false := by simp [hz1]
          have d2 : (l1 != r1) = true := by simp [hr1]
          have Hz := Lib.hid hz1
          have Hr := Lib.hid hr1
          clear hz1 hr1
          go_wp2_with fail
          refine Reg.start (S := (fun w' => Mem.Blk w' w.heap.size 24 #[.string id, .int .i64 prio, .bool crit, .int .i64 r0, .int .i64 r1, .int .i64 r2, .int .i64 l0, .int .i64 l1, .int .i64 l2, .string img, .int .i64 size])) (by kernel_rfl) ?_
          refine Reg.takes (n := 0) (by kernel_rfl) (fun _ _ d _ _ h => by cases d <;> exact h) hblk.drew [0, 1, 2, 3, 4, 5, 6, 7, 8, 9, 10, 11, 12, 13, 14, 15] _ _ (by kernel_rfl) ?_
          iterate 16 (refine Reg.det_step rfl (fun K' hK' => ?_); go_simp; (first | (refine hK' _ ?_; clear hK' K') | (apply Exists.intro; refine ⟨fun wx hwx => ?_, hK' _ ?_⟩; (first | rfl | (have cl : wx.cell? ⟨w.heap.size, 7, none⟩ = some (.int .i64 l1) := hwx.cell 7; have cr : wx.cell? ⟨w.heap.size, 4, none⟩ = some (.int .i64 r1) := hwx.cell 4; go_simp; first | done | rfl)); clear hK' K')))
          refine Reg.det_nil ?_
          refine wpAnyH_done (by kernel_rfl) ?_ _
          go_wp2_with fail
          go_ret
          exact ⟨by rw [Hc.out]; simp [Hz.out, Hr.out], hbr.drew⟩
        · have hr1 : l1 = r1 := Decidable.not_not.1 hr1
          have d1 : (l1 == 0) = false := by simp [hz1]
          have d2 : (l1 != r1) = false := by simp [hr1]
          have Hz := Lib.hid hz1
          have Hr := Lib.hid hr1
          clear hz1 hr1
          go_wp2_with fail
          refine Reg.start (S := (fun w' => Mem.Blk w' w.heap.size 24 #[.string id, .int .i64 prio, .bool crit, .int .i64 r0, .int .i64 r1, .int .i64 r2, .int .i64 l0, .int .i64 l1, .int .i64 l2, .string img, .int .i64 size])) (by kernel_rfl) ?_
          refine Reg.takes (n := 0) (by kernel_rfl) (fun _ _ d _ _ h => by cases d <;> exact h) hblk.drew [0, 1, 2, 3, 4, 5, 6, 7, 8, 9, 10, 11, 12, 13, 14, 15] _ _ (by kernel_rfl) ?_
          iterate 16 (refine Reg.det_step rfl (fun K' hK' => ?_); go_simp; (first | (refine hK' _ ?_; clear hK' K') | (apply Exists.intro; refine ⟨fun wx hwx => ?_, hK' _ ?_⟩; (first | rfl | (have cl : wx.cell? ⟨w.heap.size, 7, none⟩ = some (.int .i64 l1) := hwx.cell 7; have cr : wx.cell? ⟨w.heap.size, 4, none⟩ = some (.int .i64 r1) := hwx.cell 4; go_simp; first | done | rfl)); clear hK' K')))
          refine Reg.det_nil ?_
          refine wpAnyH_done (by kernel_rfl) ?_ _
          go_wp2_with fail
          go_roundw
          case rel => exact ⟨2, by omega, rfl, hbr.drew, hblk, fun _ => Hq.out, fun _ => ⟨Hz.out, Hr.out⟩⟩
          case measure => simp [intOf]
      · have Hq := Lib.hid (hq (by omega))
        have Hq2 := Lib.hid (hq2 (by omega))
        clear hq hq2
        go_wp2_with fail
        go_ret
        exact ⟨by rw [Hc.out, if_neg (by have q := Hq.out; have q' := Hq2.out; omega)]; rfl, hbr⟩
end Qos
end Go.Proofs.Ytgdbpjaebdlnjaa
