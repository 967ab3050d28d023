/- The walks of layer 9 (frame): the reference's reading; what the laws ask ahead of all. -/
import Derived.Test.YtnaidihoijociaaFrameG
import Derived.Test.YtnaidihoijociaaOwnB
import Derived.Test.YtnaidihoijociaaReg
namespace Go.Proofs.Ytnaidihoijociaa
open Go.RowKit Bs
namespace Crc
def bsab : List Byte := [97#8, 98#8]
theorem isFrame_ab : isFrame (frame 7 bsab) = true := by decide +kernel
theorem isFrame_nil : isFrame [] = false := by decide +kernel
theorem verOf_ab : verOf (frame 7 bsab) = 7 := by decide +kernel
theorem bodyOf_ab : bodyOf (frame 7 bsab) = bsab := by decide +kernel
/-- no frame, by the reference -/
def RGetNo (W : World) (e : Ending) (w' : World) : Prop := e = .returned (.tuple #[.int .i64 0, .slice none 0 0, .bool false]) ∧ Below W.heap.size W w'
/-- a frame read, by the reference -/
def RGetYes (A : Option Addr) (n : Nat) (b : List Byte) (W : World) (e : Ending) (w' : World) : Prop :=
  ∃ A' c', e = .returned (.tuple #[.int .i64 (verOf b), .slice A' (n - 16) c', .bool true]) ∧ Bs w' W.heap.size A' (n - 16) (bodyOf b) ∧ Below W.heap.size W w'
/-- the version, byte by byte, the last first -/
def hv (b : List Byte) : Nat → Int
  | 0 => 0
  | k + 1 => 256 * hv b k + n8 (b.getD (7 - k) 0#8)
theorem hv_bd (b : List Byte) : (k : Nat) → 0 ≤ hv b k ∧ hv b k < 256 ^ k
  | 0 => by simp [hv]
  | k + 1 => by
    obtain ⟨h0, h1⟩ := hv_bd b k
    obtain ⟨q0, q1⟩ := n8_bd (b.getD (7 - k) 0#8)
    have e : (256 : Int) ^ (k + 1) = 256 ^ k * 256 := Int.pow_succ _ _
    rw [hv, e]
    omega
theorem hv_small (b : List Byte) {k : Nat} (h : k < 4) : 0 ≤ hv b k ∧ hv b k ≤ 16777215 := by
  obtain ⟨h0, h1⟩ := hv_bd b k
  have : k = 0 ∨ k = 1 ∨ k = 2 ∨ k = 3 := by omega
  rcases this with rfl | rfl | rfl | rfl <;> simp at h1 <;> omega
theorem hv4 (b : List Byte) : hv b 4 = numLE ((b.drop 4).take 4) := by
  simp only [hv, numLE, List.getD_eq_getElem?_getD, List.getElem?_take, List.getElem?_drop]
  simp
  omega
theorem verOf_ref {b : List Byte} (h : 12 ≤ b.length) : verOf b = hv b 4 := by
  rw [hv4]
  unfold verOf coreOf
  congr 1
  rw [List.drop_take, List.take_take]
  congr 1
  omega
set_option maxRecDepth 100000 in
set_option maxHeartbeats 1000000 in
theorem rfget_short (A : Option Addr) (n c : Nat) (w : World) (hn : n < 16) :
    Calls Try.prog 31 #[.slice A n c] w (RGetNo w) := by
  go_enter Try.func31, Try.ntmps31
  go_wp2
  refine bodyPost_ret (v := .tuple #[.int .i64 0, .slice none 0 0, .bool false]) (by simp [results, Try.results31, go_sem]) rfl ⟨rfl, Below.refl _ _⟩
set_option maxRecDepth 100000 in
set_option maxHeartbeats 2000000 in
theorem rfget_c (A : Option Addr) (m c : Nat) (b : List Byte) (w : World) (h : Bs w w.heap.size A (m + 16) b) (hm : m + 16 ≤ 100000) (hnc : m + 16 ≤ c) (hc : c ≤ maxLen) :
    Calls Try.prog 31 #[.slice A (m + 16) c] w fun e w' => (isFrame b = true → RGetYes A (m + 16) b w e w') ∧ (isFrame b = false → RGetNo w e w') := by
  have hln := h.len
  have hif := Lib.hid (isFrame_iff b (hv b 4) (by omega) (hv4 b))
  obtain ⟨v0, v1⟩ := numLE_bd ((b.drop 4).take 4)
  rw [← hv4] at v0 v1
  have Hver := Lib.hid (verOf_ref (b := b) (by omega))
  have hbody : Bs w w.heap.size (A.map fun a => a.add 12) m (bodyOf b) := by
    have := h.cut (l := 12) (k := m + 12) (by omega) (by omega)
    rw [show m + 12 - 12 = m from by omega] at this
    unfold bodyOf coreOf
    rw [hln, show m + 16 - 4 = m + 12 from by omega]; exact this
  have Hb : Hid ((b.take (b.length - 4)).drop 12 = bodyOf b) := rfl
  rcases A with _ | ad
  · obtain ⟨_, e, _⟩ := h.2 (by omega); cases e
  unfold maxLen at hc
  go_enter Try.func31, Try.ntmps31
  go_wp2_with fail
  go_loop [5, 6] (fun v5 v6 => ∃ j : Nat, 3 ≤ j ∧ j ≤ 7 ∧ v6 = .int .i64 j ∧ v5 = .int .i64 (hv b (7 - j))) (fun _ i => (intOf i).toNat)
  case atStart => exact ⟨7, by omega, by omega, rfl, rfl⟩
  case round =>
    obtain ⟨j, hj3, hj7, rfl, rfl⟩ := hrel
    by_cases hlt : 4 ≤ j
    · obtain ⟨ad', x, hl, hA, _, hbe, hcb⟩ := h.at_ (k := j) (by omega)
      obtain rfl : ad = ad' := by simpa using hA
      obtain ⟨x0, x1⟩ := n8_bd x
      obtain ⟨y0, y1⟩ := hv_small b (k := 7 - j) (by omega)
      have hst : Hid (hv b (7 - (j - 1)) = 256 * hv b (7 - j) + n8 x) := by
        show _ = _
        rw [show 7 - (j - 1) = 7 - j + 1 from by omega, hv, show 7 - (7 - j) = j from by omega, ← hbe]
        simp [List.getD_eq_getElem?_getD, hl]
      clear hbe hA
      generalize hv b (7 - j) = Y at *
      generalize n8 x = X at *
      go_wp2
      go_round
      case rel => exact ⟨j - 1, by omega, by omega, by go_num, by rw [hst.out]⟩
      case measure => simp [intOf]; omega
    · obtain rfl : j = 3 := by omega
      go_wp2_with fail
      have hb2 : Bs w w.heap.size (some { block := ad.block, off := ad.off + 12 }) m (bodyOf b) := by simpa [Addr.add] using hbody
      have hm2 : (m : Int) ≤ 1048576 := by omega
      have hmi : decide ((m : Int) > 1048576) = false := by simp; omega
      have hb2 : Bs w w.heap.size (some { block := ad.block, off := ad.off + 12 }) m (bodyOf b) := by simpa [Addr.add] using hbody
      have hcall : ∀ w' : World, w' = w.drew → Calls Try.prog 36 #[.int .i64 (hv b 4), .slice (some { block := ad.block, off := ad.off + 12 }) m (c - 12)] w' (OwnSaid (m + 16) (frame (hv b 4) (bodyOf b)) w') := by
        rintro w' rfl
        exact rfput_c (hv b 4) _ m (c - 12) (bodyOf b) _ v0 v1 (by omega) hb2
      have hif2 := hif.out
      have hl2 : decide (b.length ≤ 1048592) = true := by rw [hln]; simp; omega
      rw [hl2, Hb.out, Bool.true_and] at hif2
      have Hif2 := Lib.hid hif2
      have Hcall := Lib.hid hcall
      have Hh := Lib.hid h
      clear hif2 hl2 hif hcall hb2 h
      by_cases he : frame (hv b 4) (bodyOf b) = b
      · have hq : ((strOf (frame (hv b 4) (bodyOf b))).toList == (strOf b).toList) = true := by rw [he]; simp
        have He := Lib.hid he
        clear he
        refine Reg.start (S := (fun w' => (convert 27 9 (.slice (some ad) (m + 16) c)).run Try.prog w' = .ok (.string (strOf b)) w')) (by kernel_rfl) ?_
        refine Reg.takes (n := 4) (by kernel_rfl) (fun _ _ d _ _ h => by cases d <;> exact h) (run_str Hh.out.drew Try.underlying27 Try.underlying5 Try.underlying9) [0, 1, 2, 3, 4, 5, 8, 9] _ _ (by kernel_rfl) ?_
        repeat (refine Reg.det_step rfl (fun K' hK' => ?_); go_simp; (first | (refine hK' _ ?_; clear hK' K') | (apply Exists.intro; refine ⟨fun wx hwx => ?_, hK' _ ?_⟩; (first | rfl | (go_simp; first | done | rfl)); clear hK' K')))
        refine Reg.det_nil ?_
        refine Reg.one (i := 6) (n := 3) (by kernel_rfl) ?_
        refine Reg.call rfl rfl (by go_simp; exact ⟨rfl, rfl⟩) ?_
        refine (Hcall.out _ rfl).mono ?_
        rintro e w1 ⟨A1, c1, rfl, O1, hb1⟩
        have q2 : (convert 27 9 (.slice (some ad) (m + 16) c)).run Try.prog w1 = .ok (.string (strOf b)) w1 := run_str (Bs.below Hh.out.drew hb1) Try.underlying27 Try.underlying5 Try.underlying9
        have q1 := run_str (P := Try.prog) (c := c1) O1.bs (src := 27) (e := 5) (dst := 9) Try.underlying27 Try.underlying5 Try.underlying9
        refine ⟨_, rfl, q2, ?_⟩
        refine Reg.one (i := 7) (n := 2) (by kernel_rfl) ?_
        refine Reg.val rfl rfl (v := .string (strOf (frame (hv b 4) (bodyOf b)))) (w' := w1) (by go_simp) q2 ?_
        refine Reg.takes (n := 0) (by kernel_rfl) (fun _ _ d _ _ h => by cases d <;> exact h) q2 [10, 11] _ _ (by kernel_rfl) ?_
        repeat (refine Reg.det_step rfl (fun K' hK' => ?_); go_simp; (first | (refine hK' _ ?_; clear hK' K') | (apply Exists.intro; refine ⟨fun wx hwx => ?_, hK' _ ?_⟩; (first | rfl | (go_simp; first | done | rfl)); clear hK' K')))
        refine Reg.det_nil ?_
        refine wpAnyH_done (by kernel_rfl) ?_ _
        go_wp2_with fail
        refine bodyPost_ret (v := .tuple #[.int .i64 (hv b 4), .slice (some { block := ad.block, off := ad.off + 12 }) m (c - 12), .bool true]) (by simp [results, Try.results31, go_sem]) rfl ?_
        have hbb : Below w.heap.size w w1 := (Below.refl _ _).drew.trans hb1
        refine ⟨fun _ => ⟨some { block := ad.block, off := ad.off + 12 }, c - 12, by rw [Hver.out]; rfl, ?_, hbb⟩, fun hx => ?_⟩
        · have := hbody.below hbb
          simpa [Addr.add] using this
        · rw [Hif2.out] at hx
          simp [He.out] at hx
      · have hq : ((strOf (frame (hv b 4) (bodyOf b))).toList == (strOf b).toList) = false := by
          rw [Lib.toList_data, Lib.toList_data]
          simp only [beq_eq_false_iff_ne, ne_eq]
          intro e
          refine he (strOf_inj ?_)
          cases h1 : strOf (frame (hv b 4) (bodyOf b))
          cases h2 : strOf b
          rw [h1, h2] at e
          congr 1
          exact Array.toList_inj.1 e
        have He := Lib.hid he
        clear he
        refine Reg.start (S := (fun w' => (convert 27 9 (.slice (some ad) (m + 16) c)).run Try.prog w' = .ok (.string (strOf b)) w')) (by kernel_rfl) ?_
        refine Reg.takes (n := 4) (by kernel_rfl) (fun _ _ d _ _ h => by cases d <;> exact h) (run_str Hh.out.drew Try.underlying27 Try.underlying5 Try.underlying9) [0, 1, 2, 3, 4, 5, 8, 9] _ _ (by kernel_rfl) ?_
        repeat (refine Reg.det_step rfl (fun K' hK' => ?_); go_simp; (first | (refine hK' _ ?_; clear hK' K') | (apply Exists.intro; refine ⟨fun wx hwx => ?_, hK' _ ?_⟩; (first | rfl | (go_simp; first | done | rfl)); clear hK' K')))
        refine Reg.det_nil ?_
        refine Reg.one (i := 6) (n := 3) (by kernel_rfl) ?_
        refine Reg.call rfl rfl (by go_simp; exact ⟨rfl, rfl⟩) ?_
        refine (Hcall.out _ rfl).mono ?_
        rintro e w1 ⟨A1, c1, rfl, O1, hb1⟩
        have q2 : (convert 27 9 (.slice (some ad) (m + 16) c)).run Try.prog w1 = .ok (.string (strOf b)) w1 := run_str (Bs.below Hh.out.drew hb1) Try.underlying27 Try.underlying5 Try.underlying9
        have q1 := run_str (P := Try.prog) (c := c1) O1.bs (src := 27) (e := 5) (dst := 9) Try.underlying27 Try.underlying5 Try.underlying9
        refine ⟨_, rfl, q2, ?_⟩
        refine Reg.one (i := 7) (n := 2) (by kernel_rfl) ?_
        refine Reg.val rfl rfl (v := .string (strOf (frame (hv b 4) (bodyOf b)))) (w' := w1) (by go_simp) q2 ?_
        refine Reg.takes (n := 0) (by kernel_rfl) (fun _ _ d _ _ h => by cases d <;> exact h) q2 [10, 11] _ _ (by kernel_rfl) ?_
        repeat (refine Reg.det_step rfl (fun K' hK' => ?_); go_simp; (first | (refine hK' _ ?_; clear hK' K') | (apply Exists.intro; refine ⟨fun wx hwx => ?_, hK' _ ?_⟩; (first | rfl | (go_simp; first | done | rfl)); clear hK' K')))
        refine Reg.det_nil ?_
        refine wpAnyH_done (by kernel_rfl) ?_ _
        go_wp2_with fail
        refine bodyPost_ret (v := .tuple #[.int .i64 0, .slice none 0 0, .bool false]) (by simp [results, Try.results31, go_sem]) rfl ?_
        have hbb : Below w.heap.size w w1 := (Below.refl _ _).drew.trans hb1
        refine ⟨fun hx => ?_, fun _ => ⟨rfl, hbb⟩⟩
        rw [Hif2.out] at hx
        simp [He.out] at hx
end Crc
end Go.Proofs.Ytnaidihoijociaa
