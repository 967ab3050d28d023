/- The walks of the reference of layer 12 (pod): names; right pods. -/
import Derived.Test.YtgdbpjaebdlnjaaPod
import Derived.Test.YtgdbpjaebdlnjaaReg
import Derived.Deep.DeepCutAuto
namespace Go.Proofs.Ytgdbpjaebdlnjaa
open Go.RowKit
namespace Qos
/-- some bool, and the world stays -/
def AnyB (W : World) (e : Ending) (w' : World) : Prop := ∃ b, e = .returned (.bool b) ∧ W = w'
set_option maxRecDepth 100000 in
set_option maxHeartbeats 1000000 in
theorem named_c (s : ByteArray) (w : World) (hs : s.size ≤ maxLen) : Calls Try.prog 30 #[.string s] w (AnyB w) := by
  unfold maxLen at hs
  go_enter Try.func30, Try.ntmps30
  go_wp2_with fail
  go_loop [3] (fun v3 => ∃ i : Nat, i ≤ s.size ∧ v3 = .int .i64 i) (fun i => s.size - (intOf i).toNat)
  case atStart => exact ⟨0, by omega, rfl⟩
  case round =>
    obtain ⟨i, hi, rfl⟩ := hrel
    by_cases hlt : i < s.size
    · go_wp2_with fail
      all_goals first
        | (go_ret; exact ⟨_, rfl, rfl⟩)
        | (refine ⟨⟨i + 1, by omega, by go_num⟩, ?_⟩; simp [intOf]; omega)
    · obtain rfl : i = s.size := by omega
      go_wp2_with fail
      all_goals (go_ret; exact ⟨_, rfl, rfl⟩)
/-- the numbers of a right pod -/
structure RightF (p : PodV) : Prop where
  r0 : 0 ≤ p.r0
  r1 : 0 ≤ p.r1
  r2 : 0 ≤ p.r2
  l0 : 0 ≤ p.l0
  l1 : 0 ≤ p.l1
  l2 : 0 ≤ p.l2
  q0 : p.l0 = 0 ∨ p.r0 ≤ p.l0
  q1 : p.l1 = 0 ∨ p.r1 ≤ p.l1
  q2 : p.l2 = 0 ∨ p.r2 ≤ p.l2
def RightSaid (p : PodV) (W : World) (e : Ending) (w' : World) : Prop := ∃ b, e = .returned (.bool b) ∧ (b = true → RightF p) ∧ Below W.heap.size W w'
/-- the parts of the first i resources -/
def RightTo (r0 r1 r2 l0 l1 l2 : Int) (i : Nat) : Prop :=
  (1 ≤ i → 0 ≤ r0 ∧ 0 ≤ l0 ∧ (l0 = 0 ∨ r0 ≤ l0)) ∧ (2 ≤ i → 0 ≤ r1 ∧ 0 ≤ l1 ∧ (l1 = 0 ∨ r1 ≤ l1)) ∧ (3 ≤ i → 0 ≤ r2 ∧ 0 ≤ l2 ∧ (l2 = 0 ∨ r2 ≤ l2))
set_option maxRecDepth 100000 in
set_option maxHeartbeats 8000000 in
theorem right_c (p : PodV) (w : World) (hp : p.ok) : Calls Try.prog 15 #[.agg p.arr] w (RightSaid p w) := by
  have hn1 : Hid (∀ w, Calls Try.prog 30 #[.string p.id] w (AnyB w)) := fun w => named_c p.id w hp.id
  have hn2 : Hid (∀ w, Calls Try.prog 30 #[.string p.img] w (AnyB w)) := fun w => named_c p.img w hp.img
  clear hp
  obtain ⟨id, prio, crit, r0, r1, r2, l0, l1, l2, img, size⟩ := p
  unfold PodV.arr
  dsimp only at hn1 hn2 ⊢
  go_enter Try.func15, Try.ntmps15
  go_wp2_with fail
  go_loopw [3] (fun vi wr => ∃ i : Nat, i ≤ 3 ∧ vi = .int .i64 i ∧ Below w.heap.size w wr ∧ Mem.Blk wr w.heap.size 24 #[.string id, .int .i64 prio, .bool crit, .int .i64 r0, .int .i64 r1, .int .i64 r2, .int .i64 l0, .int .i64 l1, .int .i64 l2, .string img, .int .i64 size] ∧ Hid (RightTo r0 r1 r2 l0 l1 l2 i)) (fun i _ => 3 - (intOf i).toNat)
  case atStart => exact ⟨0, by omega, rfl, (Below.refl _ _).alloc (Nat.le_refl _) _, Mem.Blk.new, ⟨fun h => absurd h (by omega), fun h => absurd h (by omega), fun h => absurd h (by omega)⟩⟩
  case round =>
    obtain ⟨i, hi, rfl, hbr, hblk, hq⟩ := hrel
    have hor : i = 0 ∨ i = 1 ∨ i = 2 ∨ i = 3 := by omega
    rcases hor with rfl | rfl | rfl | rfl
    · have hor : r0 < 0 ∨ 0 ≤ r0 ∧ (l0 < 0 ∨ 0 ≤ l0 ∧ (l0 = 0 ∨ l0 ≠ 0 ∧ (l0 < r0 ∨ r0 ≤ l0))) := by omega
      rcases hor with h1 | ⟨h1, h2 | ⟨h2, h3 | ⟨h3, h4 | h4⟩⟩⟩
      · have d1 : decide (r0 < 0) = true := by simpa using h1
        clear hq h1
        go_wp2_with fail
        refine Reg.start (S := (fun w' => Mem.Blk w' w.heap.size 24 #[.string id, .int .i64 prio, .bool crit, .int .i64 r0, .int .i64 r1, .int .i64 r2, .int .i64 l0, .int .i64 l1, .int .i64 l2, .string img, .int .i64 size])) (by kernel_rfl) ?_
        refine Reg.takes (n := 0) (by kernel_rfl) (fun _ _ d _ _ h => by cases d <;> exact h) hblk.drew [0, 1, 2, 3, 4, 5, 6, 7, 8, 9, 10, 11, 12, 13, 14, 15, 16, 17, 18, 19, 20, 21, 22, 23, 24, 25, 26, 27, 28, 29] _ _ (by kernel_rfl) ?_
        iterate 30 (refine Reg.det_step rfl (fun K' hK' => ?_); go_simp; (first | (refine hK' _ ?_; clear hK' K') | (apply Exists.intro; refine ⟨fun wx hwx => ?_, hK' _ ?_⟩; (first | rfl | (have cl : wx.cell? ⟨w.heap.size, 6, none⟩ = some (.int .i64 l0) := hwx.cell 6; have cr : wx.cell? ⟨w.heap.size, 3, none⟩ = some (.int .i64 r0) := hwx.cell 3; go_simp; first | done | rfl)); clear hK' K')))
        refine Reg.det_nil ?_
        refine wpAnyH_done (by kernel_rfl) ?_ _
        go_wp2_with fail
        go_ret
        exact ⟨false, rfl, fun h => (by cases h), hbr.drew⟩
      · have d1 : decide (r0 < 0) = false := by simpa using h1
        have d2 : decide (l0 < 0) = true := by simpa using h2
        clear hq h1 h2
        go_wp2_with fail
        refine Reg.start (S := (fun w' => Mem.Blk w' w.heap.size 24 #[.string id, .int .i64 prio, .bool crit, .int .i64 r0, .int .i64 r1, .int .i64 r2, .int .i64 l0, .int .i64 l1, .int .i64 l2, .string img, .int .i64 size])) (by kernel_rfl) ?_
        refine Reg.takes (n := 0) (by kernel_rfl) (fun _ _ d _ _ h => by cases d <;> exact h) hblk.drew [0, 1, 2, 3, 4, 5, 6, 7, 8, 9, 10, 11, 12, 13, 14, 15, 16, 17, 18, 19, 20, 21, 22, 23, 24, 25, 26, 27, 28, 29] _ _ (by kernel_rfl) ?_
        iterate 30 (refine Reg.det_step rfl (fun K' hK' => ?_); go_simp; (first | (refine hK' _ ?_; clear hK' K') | (apply Exists.intro; refine ⟨fun wx hwx => ?_, hK' _ ?_⟩; (first | rfl | (have cl : wx.cell? ⟨w.heap.size, 6, none⟩ = some (.int .i64 l0) := hwx.cell 6; have cr : wx.cell? ⟨w.heap.size, 3, none⟩ = some (.int .i64 r0) := hwx.cell 3; go_simp; first | done | rfl)); clear hK' K')))
        refine Reg.det_nil ?_
        refine wpAnyH_done (by kernel_rfl) ?_ _
        go_wp2_with fail
        go_ret
        exact ⟨false, rfl, fun h => (by cases h), hbr.drew⟩
      · have d1 : decide (r0 < 0) = false := by simpa using h1
        have d2 : decide (l0 < 0) = false := by simpa using h2
        have d3 : (l0 != 0) = false := by simpa using h3
        have Hq2 : Hid (RightTo r0 r1 r2 l0 l1 l2 1) := by
          obtain ⟨q0, q1, q2⟩ := hq.out
          exact ⟨fun _ => by omega, fun _ => by omega, fun _ => by omega⟩
        clear hq h1 h2 h3
        go_wp2_with fail
        refine Reg.start (S := (fun w' => Mem.Blk w' w.heap.size 24 #[.string id, .int .i64 prio, .bool crit, .int .i64 r0, .int .i64 r1, .int .i64 r2, .int .i64 l0, .int .i64 l1, .int .i64 l2, .string img, .int .i64 size])) (by kernel_rfl) ?_
        refine Reg.takes (n := 0) (by kernel_rfl) (fun _ _ d _ _ h => by cases d <;> exact h) hblk.drew [0, 1, 2, 3, 4, 5, 6, 7, 8, 9, 10, 11, 12, 13, 14, 15, 16, 17, 18, 19, 20, 21, 22, 23, 24, 25, 26, 27, 28, 29] _ _ (by kernel_rfl) ?_
        iterate 30 (refine Reg.det_step rfl (fun K' hK' => ?_); go_simp; (first | (refine hK' _ ?_; clear hK' K') | (apply Exists.intro; refine ⟨fun wx hwx => ?_, hK' _ ?_⟩; (first | rfl | (have cl : wx.cell? ⟨w.heap.size, 6, none⟩ = some (.int .i64 l0) := hwx.cell 6; have cr : wx.cell? ⟨w.heap.size, 3, none⟩ = some (.int .i64 r0) := hwx.cell 3; go_simp; first | done | rfl)); clear hK' K')))
        refine Reg.det_nil ?_
        refine wpAnyH_done (by kernel_rfl) ?_ _
        go_wp2_with fail
        go_roundw
        case rel => exact ⟨1, by omega, rfl, hbr.drew, hblk, Hq2⟩
        case measure => simp [intOf]
      · have d1 : decide (r0 < 0) = false := by simpa using h1
        have d2 : decide (l0 < 0) = false := by simpa using h2
        have d3 : (l0 != 0) = true := by simpa using h3
        have d4 : decide (l0 < r0) = true := by simpa using h4
        clear hq h1 h2 h3 h4
        go_wp2_with fail
        refine Reg.start (S := (fun w' => Mem.Blk w' w.heap.size 24 #[.string id, .int .i64 prio, .bool crit, .int .i64 r0, .int .i64 r1, .int .i64 r2, .int .i64 l0, .int .i64 l1, .int .i64 l2, .string img, .int .i64 size])) (by kernel_rfl) ?_
        refine Reg.takes (n := 0) (by kernel_rfl) (fun _ _ d _ _ h => by cases d <;> exact h) hblk.drew [0, 1, 2, 3, 4, 5, 6, 7, 8, 9, 10, 11, 12, 13, 14, 15, 16, 17, 18, 19, 20, 21, 22, 23, 24, 25, 26, 27, 28, 29] _ _ (by kernel_rfl) ?_
        iterate 30 (refine Reg.det_step rfl (fun K' hK' => ?_); go_simp; (first | (refine hK' _ ?_; clear hK' K') | (apply Exists.intro; refine ⟨fun wx hwx => ?_, hK' _ ?_⟩; (first | rfl | (have cl : wx.cell? ⟨w.heap.size, 6, none⟩ = some (.int .i64 l0) := hwx.cell 6; have cr : wx.cell? ⟨w.heap.size, 3, none⟩ = some (.int .i64 r0) := hwx.cell 3; go_simp; first | done | rfl)); clear hK' K')))
        refine Reg.det_nil ?_
        refine wpAnyH_done (by kernel_rfl) ?_ _
        go_wp2_with fail
        go_ret
        exact ⟨false, rfl, fun h => (by cases h), hbr.drew⟩
      · have d1 : decide (r0 < 0) = false := by simpa using h1
        have d2 : decide (l0 < 0) = false := by simpa using h2
        have d3 : (l0 != 0) = true := by simpa using h3
        have d4 : decide (l0 < r0) = false := by simpa using h4
        have Hq2 : Hid (RightTo r0 r1 r2 l0 l1 l2 1) := by
          obtain ⟨q0, q1, q2⟩ := hq.out
          exact ⟨fun _ => by omega, fun _ => by omega, fun _ => by omega⟩
        clear hq h1 h2 h3 h4
        go_wp2_with fail
        refine Reg.start (S := (fun w' => Mem.Blk w' w.heap.size 24 #[.string id, .int .i64 prio, .bool crit, .int .i64 r0, .int .i64 r1, .int .i64 r2, .int .i64 l0, .int .i64 l1, .int .i64 l2, .string img, .int .i64 size])) (by kernel_rfl) ?_
        refine Reg.takes (n := 0) (by kernel_rfl) (fun _ _ d _ _ h => by cases d <;> exact h) hblk.drew [0, 1, 2, 3, 4, 5, 6, 7, 8, 9, 10, 11, 12, 13, 14, 15, 16, 17, 18, 19, 20, 21, 22, 23, 24, 25, 26, 27, 28, 29] _ _ (by kernel_rfl) ?_
        iterate 30 (refine Reg.det_step rfl (fun K' hK' => ?_); go_simp; (first | (refine hK' _ ?_; clear hK' K') | (apply Exists.intro; refine ⟨fun wx hwx => ?_, hK' _ ?_⟩; (first | rfl | (have cl : wx.cell? ⟨w.heap.size, 6, none⟩ = some (.int .i64 l0) := hwx.cell 6; have cr : wx.cell? ⟨w.heap.size, 3, none⟩ = some (.int .i64 r0) := hwx.cell 3; go_simp; first | done | rfl)); clear hK' K')))
        refine Reg.det_nil ?_
        refine wpAnyH_done (by kernel_rfl) ?_ _
        go_wp2_with fail
        go_roundw
        case rel => exact ⟨1, by omega, rfl, hbr.drew, hblk, Hq2⟩
        case measure => simp [intOf]
    · have hor : r1 < 0 ∨ 0 ≤ r1 ∧ (l1 < 0 ∨ 0 ≤ l1 ∧ (l1 = 0 ∨ l1 ≠ 0 ∧ (l1 < r1 ∨ r1 ≤ l1))) := by omega
      rcases hor with h1 | ⟨h1, h2 | ⟨h2, h3 | ⟨h3, h4 | h4⟩⟩⟩
      · have d1 : decide (r1 < 0) = true := by simpa using h1
        clear hq h1
        go_wp2_with fail
        refine Reg.start (S := (fun w' => Mem.Blk w' w.heap.size 24 #[.string id, .int .i64 prio, .bool crit, .int .i64 r0, .int .i64 r1, .int .i64 r2, .int .i64 l0, .int .i64 l1, .int .i64 l2, .string img, .int .i64 size])) (by kernel_rfl) ?_
        refine Reg.takes (n := 0) (by kernel_rfl) (fun _ _ d _ _ h => by cases d <;> exact h) hblk.drew [0, 1, 2, 3, 4, 5, 6, 7, 8, 9, 10, 11, 12, 13, 14, 15, 16, 17, 18, 19, 20, 21, 22, 23, 24, 25, 26, 27, 28, 29] _ _ (by kernel_rfl) ?_
        iterate 30 (refine Reg.det_step rfl (fun K' hK' => ?_); go_simp; (first | (refine hK' _ ?_; clear hK' K') | (apply Exists.intro; refine ⟨fun wx hwx => ?_, hK' _ ?_⟩; (first | rfl | (have cl : wx.cell? ⟨w.heap.size, 7, none⟩ = some (.int .i64 l1) := hwx.cell 7; have cr : wx.cell? ⟨w.heap.size, 4, none⟩ = some (.int .i64 r1) := hwx.cell 4; go_simp; first | done | rfl)); clear hK' K')))
        refine Reg.det_nil ?_
        refine wpAnyH_done (by kernel_rfl) ?_ _
        go_wp2_with fail
        go_ret
        exact ⟨false, rfl, fun h => (by cases h), hbr.drew⟩
      · have d1 : decide (r1 < 0) = false := by simpa using h1
        have d2 : decide (l1 < 0) = true := by simpa using h2
        clear hq h1 h2
        go_wp2_with fail
        refine Reg.start (S := (fun w' => Mem.Blk w' w.heap.size 24 #[.string id, .int .i64 prio, .bool crit, .int .i64 r0, .int .i64 r1, .int .i64 r2, .int .i64 l0, .int .i64 l1, .int .i64 l2, .string img, .int .i64 size])) (by kernel_rfl) ?_
        refine Reg.takes (n := 0) (by kernel_rfl) (fun _ _ d _ _ h => by cases d <;> exact h) hblk.drew [0, 1, 2, 3, 4, 5, 6, 7, 8, 9, 10, 11, 12, 13, 14, 15, 16, 17, 18, 19, 20, 21, 22, 23, 24, 25, 26, 27, 28, 29] _ _ (by kernel_rfl) ?_
        iterate 30 (refine Reg.det_step rfl (fun K' hK' => ?_); go_simp; (first | (refine hK' _ ?_; clear hK' K') | (apply Exists.intro; refine ⟨fun wx hwx => ?_, hK' _ ?_⟩; (first | rfl | (have cl : wx.cell? ⟨w.heap.size, 7, none⟩ = some (.int .i64 l1) := hwx.cell 7; have cr : wx.cell? ⟨w.heap.size, 4, none⟩ = some (.int .i64 r1) := hwx.cell 4; go_simp; first | done | rfl)); clear hK' K')))
        refine Reg.det_nil ?_
        refine wpAnyH_done (by kernel_rfl) ?_ _
        go_wp2_with fail
        go_ret
        exact ⟨false, rfl, fun h => (by cases h), hbr.drew⟩
      · have d1 : decide (r1 < 0) = false := by simpa using h1
        have d2 : decide (l1 < 0) = false := by simpa using h2
        have d3 : (l1 != 0) = false := by simpa using h3
        have Hq2 : Hid (RightTo r0 r1 r2 l0 l1 l2 2) := by
          obtain ⟨q0, q1, q2⟩ := hq.out
          exact ⟨fun _ => by omega, fun _ => by omega, fun _ => by omega⟩
        clear hq h1 h2 h3
        go_wp2_with fail
        refine Reg.start (S := (fun w' => Mem.Blk w' w.heap.size 24 #[.string id, .int .i64 prio, .bool crit, .int .i64 r0, .int .i64 r1, .int .i64 r2, .int .i64 l0, .int .i64 l1, .int .i64 l2, .string img, .int .i64 size])) (by kernel_rfl) ?_
        refine Reg.takes (n := 0) (by kernel_rfl) (fun _ _ d _ _ h => by cases d <;> exact h) hblk.drew [0, 1, 2, 3, 4, 5, 6, 7, 8, 9, 10, 11, 12, 13, 14, 15, 16, 17, 18, 19, 20, 21, 22, 23, 24, 25, 26, 27, 28, 29] _ _ (by kernel_rfl) ?_
        iterate 30 (refine Reg.det_step rfl (fun K' hK' => ?_); go_simp; (first | (refine hK' _ ?_; clear hK' K') | (apply Exists.intro; refine ⟨fun wx hwx => ?_, hK' _ ?_⟩; (first | rfl | (have cl : wx.cell? ⟨w.heap.size, 7, none⟩ = some (.int .i64 l1) := hwx.cell 7; have cr : wx.cell? ⟨w.heap.size, 4, none⟩ = some (.int .i64 r1) := hwx.cell 4; go_simp; first | done | rfl)); clear hK' K')))
        refine Reg.det_nil ?_
        refine wpAnyH_done (by kernel_rfl) ?_ _
        go_wp2_with fail
        go_roundw
        case rel => exact ⟨2, by omega, rfl, hbr.drew, hblk, Hq2⟩
        case measure => simp [intOf]
      · have d1 : decide (r1 < 0) = false := by simpa using h1
        have d2 : decide (l1 < 0) = false := by simpa using h2
        have d3 : (l1 != 0) = true := by simpa using h3
        have d4 : decide (l1 < r1) = true := by simpa using h4
        clear hq h1 h2 h3 h4
        go_wp2_with fail
        refine Reg.start (S := (fun w' => Mem.Blk w' w.heap.size 24 #[.string id, .int .i64 prio, .bool crit, .int .i64 r0, .int .i64 r1, .int .i64 r2, .int .i64 l0, .int .i64 l1, .int .i64 l2, .string img, .int .i64 size])) (by kernel_rfl) ?_
        refine Reg.takes (n := 0) (by kernel_rfl) (fun _ _ d _ _ h => by cases d <;> exact h) hblk.drew [0, 1, 2, 3, 4, 5, 6, 7, 8, 9, 10, 11, 12, 13, 14, 15, 16, 17, 18, 19, 20, 21, 22, 23, 24, 25, 26, 27, 28, 29] _ _ (by kernel_rfl) ?_
        iterate 30 (refine Reg.det_step rfl (fun K' hK' => ?_); go_simp; (first | (refine hK' _ ?_; clear hK' K') | (apply Exists.intro; refine ⟨fun wx hwx => ?_, hK' _ ?_⟩; (first | rfl | (have cl : wx.cell? ⟨w.heap.size, 7, none⟩ = some (.int .i64 l1) := hwx.cell 7; have cr : wx.cell? ⟨w.heap.size, 4, none⟩ = some (.int .i64 r1) := hwx.cell 4; go_simp; first | done | rfl)); clear hK' K')))
        refine Reg.det_nil ?_
        refine wpAnyH_done (by kernel_rfl) ?_ _
        go_wp2_with fail
        go_ret
        exact ⟨false, rfl, fun h => (by cases h), hbr.drew⟩
      · have d1 : decide (r1 < 0) = false := by simpa using h1
        have d2 : decide (l1 < 0) = false := by simpa using h2
        have d3 : (l1 != 0) = true := by simpa using h3
        have d4 : decide (l1 < r1) = false := by simpa using h4
        have Hq2 : Hid (RightTo r0 r1 r2 l0 l1 l2 2) := by
          obtain ⟨q0, q1, q2⟩ := hq.out
          exact ⟨fun _ => by omega, fun _ => by omega, fun _ => by omega⟩
        clear hq h1 h2 h3 h4
        go_wp2_with fail
        refine Reg.start (S := (fun w' => Mem.Blk w' w.heap.size 24 #[.string id, .int .i64 prio, .bool crit, .int .i64 r0, .int .i64 r1, .int .i64 r2, .int .i64 l0, .int .i64 l1, .int .i64 l2, .string img, .int .i64 size])) (by kernel_rfl) ?_
        refine Reg.takes (n := 0) (by kernel_rfl) (fun _ _ d _ _ h => by cases d <;> exact h) hblk.drew [0, 1, 2, 3, 4, 5, 6, 7, 8, 9, 10, 11, 12, 13, 14, 15, 16, 17, 18, 19, 20, 21, 22, 23, 24, 25, 26, 27, 28, 29] _ _ (by kernel_rfl) ?_
        iterate 30 (refine Reg.det_step rfl (fun K' hK' => ?_); go_simp; (first | (refine hK' _ ?_; clear hK' K') | (apply Exists.intro; refine ⟨fun wx hwx => ?_, hK' _ ?_⟩; (first | rfl | (have cl : wx.cell? ⟨w.heap.size, 7, none⟩ = some (.int .i64 l1) := hwx.cell 7; have cr : wx.cell? ⟨w.heap.size, 4, none⟩ = some (.int .i64 r1) := hwx.cell 4; go_simp; first | done | rfl)); clear hK' K')))
        refine Reg.det_nil ?_
        refine wpAnyH_done (by kernel_rfl) ?_ _
        go_wp2_with fail
        go_roundw
        case rel => exact ⟨2, by omega, rfl, hbr.drew, hblk, Hq2⟩
        case measure => simp [intOf]
    · have hor : r2 < 0 ∨ 0 ≤ r2 ∧ (l2 < 0 ∨ 0 ≤ l2 ∧ (l2 = 0 ∨ l2 ≠ 0 ∧ (l2 < r2 ∨ r2 ≤ l2))) := by omega
      rcases hor with h1 | ⟨h1, h2 | ⟨h2, h3 | ⟨h3, h4 | h4⟩⟩⟩
      · have d1 : decide (r2 < 0) = true := by simpa using h1
        clear hq h1
        go_wp2_with fail
        refine Reg.start (S := (fun w' => Mem.Blk w' w.heap.size 24 #[.string id, .int .i64 prio, .bool crit, .int .i64 r0, .int .i64 r1, .int .i64 r2, .int .i64 l0, .int .i64 l1, .int .i64 l2, .string img, .int .i64 size])) (by kernel_rfl) ?_
        refine Reg.takes (n := 0) (by kernel_rfl) (fun _ _ d _ _ h => by cases d <;> exact h) hblk.drew [0, 1, 2, 3, 4, 5, 6, 7, 8, 9, 10, 11, 12, 13, 14, 15, 16, 17, 18, 19, 20, 21, 22, 23, 24, 25, 26, 27, 28, 29] _ _ (by kernel_rfl) ?_
        iterate 30 (refine Reg.det_step rfl (fun K' hK' => ?_); go_simp; (first | (refine hK' _ ?_; clear hK' K') | (apply Exists.intro; refine ⟨fun wx hwx => ?_, hK' _ ?_⟩; (first | rfl | (have cl : wx.cell? ⟨w.heap.size, 8, none⟩ = some (.int .i64 l2) := hwx.cell 8; have cr : wx.cell? ⟨w.heap.size, 5, none⟩ = some (.int .i64 r2) := hwx.cell 5; go_simp; first | done | rfl)); clear hK' K')))
        refine Reg.det_nil ?_
        refine wpAnyH_done (by kernel_rfl) ?_ _
        go_wp2_with fail
        go_ret
        exact ⟨false, rfl, fun h => (by cases h), hbr.drew⟩
      · have d1 : decide (r2 < 0) = false := by simpa using h1
        have d2 : decide (l2 < 0) = true := by simpa using h2
        clear hq h1 h2
        go_wp2_with fail
        refine Reg.start (S := (fun w' => Mem.Blk w' w.heap.size 24 #[.string id, .int .i64 prio, .bool crit, .int .i64 r0, .int .i64 r1, .int .i64 r2, .int .i64 l0, .int .i64 l1, .int .i64 l2, .string img, .int .i64 size])) (by kernel_rfl) ?_
        refine Reg.takes (n := 0) (by kernel_rfl) (fun _ _ d _ _ h => by cases d <;> exact h) hblk.drew [0, 1, 2, 3, 4, 5, 6, 7, 8, 9, 10, 11, 12, 13, 14, 15, 16, 17, 18, 19, 20, 21, 22, 23, 24, 25, 26, 27, 28, 29] _ _ (by kernel_rfl) ?_
        iterate 30 (refine Reg.det_step rfl (fun K' hK' => ?_); go_simp; (first | (refine hK' _ ?_; clear hK' K') | (apply Exists.intro; refine ⟨fun wx hwx => ?_, hK' _ ?_⟩; (first | rfl | (have cl : wx.cell? ⟨w.heap.size, 8, none⟩ = some (.int .i64 l2) := hwx.cell 8; have cr : wx.cell? ⟨w.heap.size, 5, none⟩ = some (.int .i64 r2) := hwx.cell 5; go_simp; first | done | rfl)); clear hK' K')))
        refine Reg.det_nil ?_
        refine wpAnyH_done (by kernel_rfl) ?_ _
        go_wp2_with fail
        go_ret
        exact ⟨false, rfl, fun h => (by cases h), hbr.drew⟩
      · have d1 : decide (r2 < 0) = false := by simpa using h1
        have d2 : decide (l2 < 0) = false := by simpa using h2
        have d3 : (l2 != 0) = false := by simpa using h3
        have Hq2 : Hid (RightTo r0 r1 r2 l0 l1 l2 3) := by
          obtain ⟨q0, q1, q2⟩ := hq.out
          exact ⟨fun _ => by omega, fun _ => by omega, fun _ => by omega⟩
        clear hq h1 h2 h3
        go_wp2_with fail
        refine Reg.start (S := (fun w' => Mem.Blk w' w.heap.size 24 #[.string id, .int .i64 prio, .bool crit, .int .i64 r0, .int .i64 r1, .int .i64 r2, .int .i64 l0, .int .i64 l1, .int .i64 l2, .string img, .int .i64 size])) (by kernel_rfl) ?_
        refine Reg.takes (n := 0) (by kernel_rfl) (fun _ _ d _ _ h => by cases d <;> exact h) hblk.drew [0, 1, 2, 3, 4, 5, 6, 7, 8, 9, 10, 11, 12, 13, 14, 15, 16, 17, 18, 19, 20, 21, 22, 23, 24, 25, 26, 27, 28, 29] _ _ (by kernel_rfl) ?_
        iterate 30 (refine Reg.det_step rfl (fun K' hK' => ?_); go_simp; (first | (refine hK' _ ?_; clear hK' K') | (apply Exists.intro; refine ⟨fun wx hwx => ?_, hK' _ ?_⟩; (first | rfl | (have cl : wx.cell? ⟨w.heap.size, 8, none⟩ = some (.int .i64 l2) := hwx.cell 8; have cr : wx.cell? ⟨w.heap.size, 5, none⟩ = some (.int .i64 r2) := hwx.cell 5; go_simp; first | done | rfl)); clear hK' K')))
        refine Reg.det_nil ?_
        refine wpAnyH_done (by kernel_rfl) ?_ _
        go_wp2_with fail
        go_roundw
        case rel => exact ⟨3, by omega, rfl, hbr.drew, hblk, Hq2⟩
        case measure => simp [intOf]
      · have d1 : decide (r2 < 0) = false := by simpa using h1
        have d2 : decide (l2 < 0) = false := by simpa using h2
        have d3 : (l2 != 0) = true := by simpa using h3
        have d4 : decide (l2 < r2) = true := by simpa using h4
        clear hq h1 h2 h3 h4
        go_wp2_with fail
        refine Reg.start (S := (fun w' => Mem.Blk w' w.heap.size 24 #[.string id, .int .i64 prio, .bool crit, .int .i64 r0, .int .i64 r1, .int .i64 r2, .int .i64 l0, .int .i64 l1, .int .i64 l2, .string img, .int .i64 size])) (by kernel_rfl) ?_
        refine Reg.takes (n := 0) (by kernel_rfl) (fun _ _ d _ _ h => by cases d <;> exact h) hblk.drew [0, 1, 2, 3, 4, 5, 6, 7, 8, 9, 10, 11, 12, 13, 14, 15, 16, 17, 18, 19, 20, 21, 22, 23, 24, 25, 26, 27, 28, 29] _ _ (by kernel_rfl) ?_
        iterate 30 (refine Reg.det_step rfl (fun K' hK' => ?_); go_simp; (first | (refine hK' _ ?_; clear hK' K') | (apply Exists.intro; refine ⟨fun wx hwx => ?_, hK' _ ?_⟩; (first | rfl | (have cl : wx.cell? ⟨w.heap.size, 8, none⟩ = some (.int .i64 l2) := hwx.cell 8; have cr : wx.cell? ⟨w.heap.size, 5, none⟩ = some (.int .i64 r2) := hwx.cell 5; go_simp; first | done | rfl)); clear hK' K')))
        refine Reg.det_nil ?_
        refine wpAnyH_done (by kernel_rfl) ?_ _
        go_wp2_with fail
        go_ret
        exact ⟨false, rfl, fun h => (by cases h), hbr.drew⟩
      · have d1 : decide (r2 < 0) = false := by simpa using h1
        have d2 : decide (l2 < 0) = false := by simpa using h2
        have d3 : (l2 != 0) = true := by simpa using h3
        have d4 : decide (l2 < r2) = false := by simpa using h4
        have Hq2 : Hid (RightTo r0 r1 r2 l0 l1 l2 3) := by
          obtain ⟨q0, q1, q2⟩ := hq.out
          exact ⟨fun _ => by omega, fun _ => by omega, fun _ => by omega⟩
        clear hq h1 h2 h3 h4
        go_wp2_with fail
        refine Reg.start (S := (fun w' => Mem.Blk w' w.heap.size 24 #[.string id, .int .i64 prio, .bool crit, .int .i64 r0, .int .i64 r1, .int .i64 r2, .int .i64 l0, .int .i64 l1, .int .i64 l2, .string img, .int .i64 size])) (by kernel_rfl) ?_
        refine Reg.takes (n := 0) (by kernel_rfl) (fun _ _ d _ _ h => by cases d <;> exact h) hblk.drew [0, 1, 2, 3, 4, 5, 6, 7, 8, 9, 10, 11, 12, 13, 14, 15, 16, 17, 18, 19, 20, 21, 22, 23, 24, 25, 26, 27, 28, 29] _ _ (by kernel_rfl) ?_
        iterate 30 (refine Reg.det_step rfl (fun K' hK' => ?_); go_simp; (first | (refine hK' _ ?_; clear hK' K') | (apply Exists.intro; refine ⟨fun wx hwx => ?_, hK' _ ?_⟩; (first | rfl | (have cl : wx.cell? ⟨w.heap.size, 8, none⟩ = some (.int .i64 l2) := hwx.cell 8; have cr : wx.cell? ⟨w.heap.size, 5, none⟩ = some (.int .i64 r2) := hwx.cell 5; go_simp; first | done | rfl)); clear hK' K')))
        refine Reg.det_nil ?_
        refine wpAnyH_done (by kernel_rfl) ?_ _
        go_wp2_with fail
        go_roundw
        case rel => exact ⟨3, by omega, rfl, hbr.drew, hblk, Hq2⟩
        case measure => simp [intOf]
    · have hF : Hid (RightF ⟨id, prio, crit, r0, r1, r2, l0, l1, l2, img, size⟩) := by
        obtain ⟨q0, q1, q2⟩ := hq.out
        obtain ⟨a0, b0, c0⟩ := q0 (by omega)
        obtain ⟨a1, b1, c1⟩ := q1 (by omega)
        obtain ⟨a2, b2, c2⟩ := q2 (by omega)
        exact ⟨a0, a1, a2, b0, b1, b2, c0, c1, c2⟩
      have k0 : wr.cell? ⟨w.heap.size, 0, none⟩ = some (.string id) := hblk.cell 0
      have k1 : wr.cell? ⟨w.heap.size, 1, none⟩ = some (.int .i64 prio) := hblk.cell 1
      have k9 : wr.cell? ⟨w.heap.size, 9, none⟩ = some (.string img) := hblk.cell 9
      have k10 : wr.cell? ⟨w.heap.size, 10, none⟩ = some (.int .i64 size) := hblk.cell 10
      clear hq hblk
      go_wp2_with fail
      refine (hn1.out _).mono ?_
      rintro e w' ⟨b1, rfl, rfl⟩
      cases b1
      · go_wp2_with fail
        all_goals (go_ret; exact ⟨_, rfl, fun _ => hF.out, hbr⟩)
      · go_wp2_with fail
        refine (hn2.out _).mono ?_
        rintro e w' ⟨b2, rfl, rfl⟩
        cases b2
        · go_wp2_with fail
          all_goals (go_ret; exact ⟨_, rfl, fun _ => hF.out, hbr⟩)
        · go_wp2_with fail
          all_goals (go_ret; exact ⟨_, rfl, fun _ => hF.out, hbr⟩)
end Qos
end Go.Proofs.Ytgdbpjaebdlnjaa
