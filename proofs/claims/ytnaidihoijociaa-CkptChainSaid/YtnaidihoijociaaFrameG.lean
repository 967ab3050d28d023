/- The walks of layer 9 (frame): frames read. -/
import Derived.Test.YtnaidihoijociaaFrameP
import Derived.Test.YtnaidihoijociaaReg
namespace Go.Proofs.Ytnaidihoijociaa
open Go.RowKit Bs
namespace Crc
theorem str_magic : strOf magic = ⟨#[66, 76, 71, 49]⟩ := rfl
theorem str_ne {l : List Byte} (h : l ≠ magic) : ((strOf l).toList == [66, 76, 71, 49]) = false := by
  rw [Lib.toList_data]
  simp only [beq_eq_false_iff_ne, ne_eq]
  intro e
  refine h (strOf_inj ?_)
  rw [str_magic]
  cases h1 : strOf l
  rw [h1] at e
  congr 1
  exact Array.toList_inj.1 e
/-- a slice of the call's own from a place on -/
theorem Own.cutBs {w : World} {B n c g l : Nat} {bs : List Byte} (h : Own w B (some ⟨g, 0, none⟩) n c bs) (hl : l ≤ n) : Bs w w.heap.size (some ⟨g, l, none⟩) (n - l) (bs.drop l) := by
  have := Bs.cut h.bs hl (Nat.le_refl n)
  rw [List.take_of_length_le (by have := h.bs.len; omega)] at this
  simp only [Option.map_some, Mem.add_zero_off] at this
  exact this
/-- no frame -/
def GetNo (W : World) (e : Ending) (w' : World) : Prop := e = .returned (.tuple #[.int .i64 0, .slice none 0 0, .int .i64 3]) ∧ Below W.heap.size W w'
/-- a frame read -/
def GetYes (n : Nat) (b : List Byte) (W : World) (e : Ending) (w' : World) : Prop :=
  ∃ A' c', e = .returned (.tuple #[.int .i64 (verOf b), .slice A' (n - 16) c', .int .i64 0]) ∧ Bs w' w'.heap.size A' (n - 16) (bodyOf b) ∧ (0 < n - 16 → ∃ g cc, A' = some ⟨g, 12, none⟩ ∧ Own w' W.heap.size (some ⟨g, 0, none⟩) (n - 4) cc (coreOf b)) ∧ Below W.heap.size W w'
set_option maxRecDepth 100000 in
set_option maxHeartbeats 2000000 in
theorem fget_yes (A : Option Addr) (n c : Nat) (b : List Byte) (w : World) (h : Bs w w.heap.size A n b) (hn : n ≤ 140737488355328) (hnc : n ≤ c) (hc : c ≤ maxLen) (hf : isFrame b = true) :
    Calls Try.prog 49 #[.slice A n c] w (GetYes n b w) := by
  have hln := h.len
  have hf' := hf
  unfold isFrame at hf'
  simp only [Bool.and_eq_true, decide_eq_true_eq] at hf'
  obtain ⟨⟨⟨⟨k1, k2⟩, k3⟩, k4⟩, k5⟩ := hf'
  rw [hln] at k2 k4 k5
  obtain ⟨m, rfl⟩ : ∃ m, n = m + 16 := ⟨n - 16, by omega⟩
  have K1 := Lib.hid k1
  have K3 := Lib.hid k3
  have K4 : Hid (numLE (((coreOf b).drop 8).take 4) = (m : Int)) := by show _ = _; have : lenOf b = numLE (((coreOf b).drop 8).take 4) := rfl; rw [← this, k4]; omega
  have hcore : Hid (b.take (m + 12) = coreOf b) := by show _ = _; unfold coreOf; rw [hln]; rfl
  clear k1 k3 k4 hln hf
  go_enter Try.func49, Try.ntmps49
  go_wp2_with fail
  refine (cut_yes A (m + 16) c b _ h hn hnc hc K1.out).mono ?_
  rintro e w1 ⟨A1, c1, rfl, O1', hb1⟩
  have O1 : Own w1 w.heap.size A1 (m + 12) c1 (coreOf b) := by have := O1'; rw [show m + 16 - 4 = m + 12 from by omega, hcore.out] at this; exact this
  have z1 := hb1.size
  have hc1 := O1.le
  unfold maxLen at hc1
  obtain ⟨g, _, _, rfl, hg1, hg2, _, _, _, _⟩ := O1.at_ (k := 0) (by omega)
  have q1 := run_str (P := Try.prog) (c := c1) (Bs.front (m := 4) (k := m + 8) (by have := O1.bs; rw [show 4 + (m + 8) = m + 12 from by omega]; exact this)) (src := 27) (e := 5) (dst := 9) Try.underlying27 Try.underlying5 Try.underlying9
  rw [K3.out, str_magic] at q1
  have e12 : m + 16 - 4 = m + 12 := by omega
  have hca : m + 12 ≤ c1 := hc1.1
  have hcb : c1 ≤ 9223372036854775807 := by omega
  clear O1' hc1
  rw [e12]
  clear e12
  go_wp2_with fail
  refine (number_c ⟨g, 8, none⟩ (m + 4) (c1 - 8) ((coreOf b).drop 8) _ (by omega) (by omega) (by omega) ?hs1 hg2).mono ?_
  · have := Own.cutBs O1 (l := 8) (by omega)
    rw [show m + 12 - 8 = m + 4 from by omega] at this; exact this
  rw [K4.out]
  rintro e w2 ⟨rfl, hb2⟩
  have O2 : Own w2 w.heap.size (some ⟨g, 0, none⟩) (m + 12) c1 (coreOf b) := own_below O1 hb2 (Nat.le_refl _)
  have L2 : Below w.heap.size w w2 := hb1.trans (hb2.mono z1)
  have hg3 : g < w2.heap.size := by have := hb2.size; omega
  clear hb1 hb2 O1 q1 hg2 z1
  have hnum : Calls Try.prog 62 #[.slice (some ⟨g, 4, none⟩) (m + 8) (c1 - 4)] w2.drew fun e W' => e = .returned (.int .i64 (verOf b)) ∧ Below w2.drew.heap.size w2.drew W' := number_c ⟨g, 4, none⟩ (m + 8) (c1 - 4) ((coreOf b).drop 4) w2.drew (by omega) (by omega) (by omega) (by have := Own.cutBs O2 (l := 4) (by omega); rw [show m + 12 - 4 = m + 8 from by omega] at this; exact this) hg3
  have Hnum := Lib.hid hnum
  clear hnum
  rcases Nat.lt_or_ge 12 c1 with hcc | hcc
  · have h4 : (4 : Int) ≤ (m : Int) + 12 := by omega
    have h12 : (12 : Int) ≤ (m : Int) + 12 := by omega
    have h4c : ¬ c1 = 4 := by omega
    have h12c : ¬ c1 = 12 := by omega
    have hcz : (m : Int) + 12 ≤ (c1 : Int) := by omega
    go_upto_region 4 with fail
    refine Reg.start (S := (fun _ => True)) (by kernel_rfl) ?_
    refine Reg.takes (n := 4) (by kernel_rfl) (fun _ _ d _ _ h => by cases d <;> exact h) trivial [0, 1, 3, 4] _ _ (by kernel_rfl) ?_
    repeat (refine Reg.det_step rfl (fun K' hK' => ?_); go_simp; (first | (refine hK' _ ?_; clear hK' K') | (apply Exists.intro; refine ⟨fun wx hwx => ?_, hK' _ ?_⟩; (first | rfl | (go_simp; first | done | rfl)); clear hK' K')))
    refine Reg.det_nil ?_
    refine Reg.one (i := 2) (n := 3) (by kernel_rfl) ?_
    refine Reg.call rfl rfl (by go_simp; exact ⟨rfl, rfl⟩) ?_
    refine Hnum.out.mono ?_
    rintro e w3 ⟨rfl, hb3⟩
    refine ⟨_, rfl, trivial, ?_⟩
    refine Reg.takes (n := 0) (by kernel_rfl) (fun _ _ d _ _ h => by cases d <;> exact h) trivial [5, 6, 7] _ _ (by kernel_rfl) ?_
    repeat (refine Reg.det_step rfl (fun K' hK' => ?_); go_simp; (first | (refine hK' _ ?_; clear hK' K') | (apply Exists.intro; refine ⟨fun wx hwx => ?_, hK' _ ?_⟩; (first | rfl | (go_simp; first | done | rfl)); clear hK' K')))
    refine Reg.det_nil ?_
    refine wpAnyH_done (by kernel_rfl) ?_ _
    go_wp2
    refine bodyPost_ret (v := .tuple #[.int .i64 (verOf b), .slice (some ⟨g, 12, none⟩) m (c1 - 12), .int .i64 0]) (by simp [results, Try.results49, go_sem]) rfl ?_
    have O3 : Own w3 w.heap.size (some ⟨g, 0, none⟩) (m + 12) c1 (coreOf b) := own_below (World.ownsRow.drew O2) hb3 (Nat.le_refl _)
    refine ⟨some ⟨g, 12, none⟩, c1 - 12, rfl, ?_, fun _ => ⟨g, c1, rfl, O3⟩, (L2.drew).trans (hb3.mono L2.size)⟩
    have q := Own.cutBs O3 (l := 12) (by omega)
    rw [show m + 12 - 12 = m + 16 - 16 from by omega] at q
    exact q
  · obtain rfl : m = 0 := by omega
    obtain rfl : c1 = 12 := by omega
    have hb0 : bodyOf b = [] := by
      unfold bodyOf
      exact List.drop_eq_nil_of_le (by have := O2.bs.len; omega)
    have Hb0 := Lib.hid hb0
    clear hb0
    go_upto_region 4 with fail
    refine Reg.start (S := (fun _ => True)) (by kernel_rfl) ?_
    refine Reg.takes (n := 4) (by kernel_rfl) (fun _ _ d _ _ h => by cases d <;> exact h) trivial [0, 1, 3, 4] _ _ (by kernel_rfl) ?_
    repeat (refine Reg.det_step rfl (fun K' hK' => ?_); go_simp; (first | (refine hK' _ ?_; clear hK' K') | (apply Exists.intro; refine ⟨fun wx hwx => ?_, hK' _ ?_⟩; (first | rfl | (go_simp; first | done | rfl)); clear hK' K')))
    refine Reg.det_nil ?_
    refine Reg.one (i := 2) (n := 3) (by kernel_rfl) ?_
    refine Reg.call rfl rfl (by go_simp; exact ⟨rfl, rfl⟩) ?_
    refine Hnum.out.mono ?_
    rintro e w3 ⟨rfl, hb3⟩
    refine ⟨_, rfl, trivial, ?_⟩
    refine Reg.takes (n := 0) (by kernel_rfl) (fun _ _ d _ _ h => by cases d <;> exact h) trivial [5, 6, 7] _ _ (by kernel_rfl) ?_
    repeat (refine Reg.det_step rfl (fun K' hK' => ?_); go_simp; (first | (refine hK' _ ?_; clear hK' K') | (apply Exists.intro; refine ⟨fun wx hwx => ?_, hK' _ ?_⟩; (first | rfl | (go_simp; first | done | rfl)); clear hK' K')))
    refine Reg.det_nil ?_
    refine wpAnyH_done (by kernel_rfl) ?_ _
    go_wp2
    refine bodyPost_ret (v := .tuple #[.int .i64 (verOf b), .slice (some ⟨g, 0, none⟩) 0 0, .int .i64 0]) (by simp [results, Try.results49, go_sem]) rfl ?_
    refine ⟨some ⟨g, 0, none⟩, 0, rfl, by rw [Hb0.out]; exact Bs.nil, fun h => absurd h (by omega), (L2.drew).trans (hb3.mono L2.size)⟩
set_option maxRecDepth 100000 in
set_option maxHeartbeats 2000000 in
theorem fget_no (A : Option Addr) (n c : Nat) (b : List Byte) (w : World) (h : Bs w w.heap.size A n b) (hn : n ≤ 140737488355328) (hnc : n ≤ c) (hc : c ≤ maxLen) (hf : isFrame b = false) :
    Calls Try.prog 49 #[.slice A n c] w (GetNo w) := by
  have hln := h.len
  by_cases k1 : cutOK b = true
  · have h4 : 4 ≤ n := by
      rcases Nat.lt_or_ge n 4 with h4 | h4
      · rw [cutOK_short (by omega)] at k1; cases k1
      · exact h4
    obtain ⟨m, rfl⟩ : ∃ m, n = m + 4 := ⟨n - 4, by omega⟩
    have K1 := Lib.hid k1
    have hcore : Hid (b.take m = coreOf b) := by show _ = _; unfold coreOf; rw [hln]; rfl
    have hor : m < 12 ∨ 12 ≤ m ∧ ((coreOf b).take 4 ≠ magic ∨ (coreOf b).take 4 = magic ∧ (lenOf b ≠ (m : Int) - 12 ∨ lenOf b = (m : Int) - 12 ∧ 1048576 < m - 12)) := by
      unfold isFrame at hf
      rw [k1, hln] at hf
      by_cases h1 : m < 12
      · exact .inl h1
      · refine .inr ⟨by omega, ?_⟩
        by_cases h2 : (coreOf b).take 4 = magic
        · refine .inr ⟨h2, ?_⟩
          by_cases h3 : lenOf b = (m : Int) - 12
          · refine .inr ⟨h3, ?_⟩
            rw [h2, h3] at hf
            simp at hf
            omega
          · exact .inl h3
        · exact .inl h2
    have Hor := Lib.hid hor
    clear hor k1 hln hf
    go_enter Try.func49, Try.ntmps49
    go_wp2_with fail
    refine (cut_yes A (m + 4) c b _ h hn hnc hc K1.out).mono ?_
    rintro e w1 ⟨A1, c1, rfl, O1', hb1⟩
    have O1 : Own w1 w.heap.size A1 m c1 (coreOf b) := by have := O1'; rw [show m + 4 - 4 = m from by omega, hcore.out] at this; exact this
    have z1 := hb1.size
    have hc1 := O1.le
    unfold maxLen at hc1
    have hca : m ≤ c1 := hc1.1
    have hcb : c1 ≤ 9223372036854775807 := by omega
    have e4 : m + 4 - 4 = m := by omega
    rw [e4]
    clear O1' hc1 e4
    rcases Hor.out with h1 | ⟨h1, h2⟩
    · clear Hor
      go_wp2
      refine bodyPost_ret (v := .tuple #[.int .i64 0, .slice none 0 0, .int .i64 3]) (by simp [results, Try.results49, go_sem]) rfl ⟨rfl, hb1⟩
    · obtain ⟨g, _, _, rfl, hg1, hg2, _, _, _, _⟩ := O1.at_ (k := 0) (by omega)
      have q1 := run_str (P := Try.prog) (c := c1) (Bs.front (m := 4) (k := m - 4) (by have := O1.bs; rw [show 4 + (m - 4) = m from by omega]; exact this)) (src := 27) (e := 5) (dst := 9) Try.underlying27 Try.underlying5 Try.underlying9
      rcases h2 with h2 | ⟨h2, h3⟩
      · have hs := str_ne h2
        generalize strOf (List.take 4 (coreOf b)) = S at *
        clear Hor h2
        go_wp2
        refine bodyPost_ret (v := .tuple #[.int .i64 0, .slice none 0 0, .int .i64 3]) (by simp [results, Try.results49, go_sem]) rfl ⟨rfl, hb1⟩
      · rw [h2, str_magic] at q1
        have hnum : Calls Try.prog 62 #[.slice (some ⟨g, 8, none⟩) (m - 8) (c1 - 8)] w1 fun e W' => e = .returned (.int .i64 (lenOf b)) ∧ Below w1.heap.size w1 W' := number_c ⟨g, 8, none⟩ (m - 8) (c1 - 8) ((coreOf b).drop 8) w1 (by omega) (by omega) (by omega) (Own.cutBs O1 (l := 8) (by omega)) hg2
        have Hnum := Lib.hid hnum
        clear hnum Hor h2
        obtain ⟨p, rfl⟩ : ∃ p, m = p + 12 := ⟨m - 12, by omega⟩
        have e8 : p + 12 - 8 = p + 4 := by omega
        rw [e8] at Hnum
        have e12 : ((p + 12 : Nat) : Int) - 12 = p := by omega
        rw [e12] at h3
        clear e8 e12
        obtain ⟨N, hN⟩ : ∃ N, N = lenOf b := ⟨_, rfl⟩
        rw [← hN] at h3 Hnum
        clear hN
        rcases h3 with h3 | ⟨h3, h5⟩
        · have hx : (N != (p : Int)) = true := by simp [h3]
          clear h3
          go_wp2_with fail
          refine Hnum.out.mono ?_
          rintro e w2 ⟨rfl, hb2⟩
          go_wp2
          refine bodyPost_ret (v := .tuple #[.int .i64 0, .slice none 0 0, .int .i64 3]) (by simp [results, Try.results49, go_sem]) rfl ⟨rfl, hb1.trans (hb2.mono z1)⟩
        · subst h3
          have hx : 1048576 < p := by omega
          clear h5
          go_wp2_with fail
          refine Hnum.out.mono ?_
          rintro e w2 ⟨rfl, hb2⟩
          go_wp2
          refine bodyPost_ret (v := .tuple #[.int .i64 0, .slice none 0 0, .int .i64 3]) (by simp [results, Try.results49, go_sem]) rfl ⟨rfl, hb1.trans (hb2.mono z1)⟩
  · have k0 : cutOK b = false := by simpa using k1
    have K0 := Lib.hid k0
    clear k1 k0 hln hf
    go_enter Try.func49, Try.ntmps49
    go_wp2_with fail
    refine (cut_no A n c b _ h hn hnc hc K0.out).mono ?_
    rintro e w1 ⟨A1, c1, rfl, _, hb1⟩
    go_wp2
    refine bodyPost_ret (v := .tuple #[.int .i64 0, .slice none 0 0, .int .i64 3]) (by simp [results, Try.results49, go_sem]) rfl ⟨rfl, hb1⟩
end Crc
end Go.Proofs.Ytnaidihoijociaa
