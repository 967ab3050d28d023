/- BoxRuns: the walk. -/
import Derived.Test.YtfcdmfiblmnbkaaBoxA
import Derived.Test.YtfcdmfiblmnbkaaFrame
namespace Go.Proofs.Ytfcdmfiblmnbkaa.boxRuns
open Go.RowKit Go.Maps Box
set_option maxHeartbeats 4000000 in
theorem core (A A2 : Option Addr) (n c m c2 : Nat) (l : List Int) (well : List Bool) (r : Int) (w : World) (hl : Mem.Ints w w.heap.size .i64 A n l) (hw : Mem.Sl w w.heap.size 1 A2 m (well.map Value.bool)) (hlz : ∀ z ∈ l, (Lit.int .i64 z).wf = true)
    (hn : n ≤ 300) (hm : m ≤ 300) :
    Calls Try.prog 9 #[.slice A n c, .slice A2 m c2, .int .i64 r] w fun e w' => e = .returned (.bool true) ∧ Below w.heap.size w w' := by
  have hln := hl.len
  have hwn : well.length = m := by have := hw.1; simpa using this
  have hn' : decide (300 < n) = false := by simp; omega
  have hm' : decide (300 < m) = false := by simp; omega
  go_enter Try.func9, Try.ntmps9
  go_wp2_with (go_at_call 24; refine (awake_c _).mono ?_; rintro e w1 ⟨rfl, hb1⟩)
  go_loopw [8, 9] (fun vn vi wr => ∃ k : Nat, k ≤ n ∧ vi = .int .i64 k ∧ vn = .int .i64 (runTo l well r k).2 ∧ Below w.heap.size w wr ∧ In wr w1.heap.size (runTo l well r k).1) (fun _ i _ => n - (intOf i).toNat)
  case atStart => exact ⟨0, Nat.zero_le _, rfl, rfl, hb1.alloc hb1.size _, Mem.Blk.new⟩
  case round =>
    obtain ⟨k, hk, rfl, rfl, hbr, hB⟩ := hrel
    have hz1 := hb1.size
    clear hb1
    obtain ⟨okb, hn0, hnk⟩ := runTo_ok l well r k
    obtain ⟨⟨s, t⟩, hbk⟩ : ∃ b, b = (runTo l well r k).1 := ⟨_, rfl⟩
    rw [← hbk] at hB okb
    have Hbk := Lib.hid hbk
    clear hbk
    obtain ⟨o1, o2, o3, o4⟩ := okb
    simp only at o1 o2 o3 o4
    have hgr := hB.lt
    by_cases hlt : k < n
    · obtain ⟨ad, q, hlk, rfl, hadb, hq, hcq⟩ := (hl.below hbr).at_ hlt
      have Hq := Lib.hid hq
      clear hq
      obtain ⟨wb, hwb⟩ : ∃ wb, wb = well.getD k true := ⟨_, rfl⟩
      have hcq' := hcq
      go_upto_region 8 with fail
      go_cut [10, 11] (fun s12 s13 wx => ∃ g12, s12 = .pointer (some ⟨g12, 0, none⟩) ∧ s13 = .bool (nxt s q != 0) ∧ w1.heap.size ≠ g12 ∧ Below w.heap.size w wx ∧ In wx w1.heap.size (s, t) ∧ In wx g12 (Box.step (s, t) q wb r))
      case first =>
        have c0 : wr.cell? ⟨w1.heap.size, 0, none⟩ = some (.int .i64 s) := hB.cell 0
        have c1 : wr.cell? ⟨w1.heap.size, 1, none⟩ = some (.int .i64 t) := hB.cell 1
        by_cases hkm : k < m
        · obtain ⟨ad2, hbl, rfl, had2, hcb⟩ := (hw.below hbr).at_ hkm
          have hcb' : wr.cell? (ad2.add k) = some (.bool wb) := by rw [hcb, hwb]; simp [List.getD_eq_getElem?_getD, List.getElem?_eq_getElem (show k < well.length by omega)]
          have hge : decide (m ≤ k) = false := by simp; omega
          clear hcb hwb
          refine Reg.start (S := fun w' => Below wr.heap.size wr w') (by kernel_rfl) ?_
          refine Reg.takes (n := 7) (by kernel_rfl) (fun _ _ d _ _ h => by cases d <;> exact h) (Below.refl _ _).drew [0, 1, 2, 3, 4, 5, 6, 7, 8, 9, 10, 11, 12, 13, 14, 15] _ _ (by kernel_rfl) ?_
          repeat (refine Reg.det_step rfl (fun K' hK' => ?_); go_simp; (first | (refine hK' _ ?_; clear hK' K') | (apply Exists.intro; refine ⟨fun wx hwx => ?_, hK' _ ?_⟩; (first | rfl | (have e0 := (hwx.cell (p := ⟨w1.heap.size, 0, none⟩) hgr).trans c0; have e1 := (hwx.cell (p := ⟨w1.heap.size, 1, none⟩) hgr).trans c1; have e2 := (hwx.cell (p := ad.add k) (by simp [Mem.add_block]; omega)).trans hcq'; have e3 := (hwx.cell (p := ad2.add k) (by simp [Mem.add_block]; omega)).trans hcb'; go_simp; first | done | rfl)); clear hK' K')))
          refine Reg.det_nil ?_
          refine Reg.two (i := 16) (j := 20) (n := 6) (by kernel_rfl) ?_ ?_
          · refine Reg.call rfl rfl (by go_simp; exact ⟨rfl, rfl⟩) ?_
            refine (rdo_c s t q r wb wr.drew o4).mono ?_
            rintro e w2 ⟨rfl, hb2⟩
            have B2 : In w2 w1.heap.size (s, t) := hB.drew.belowS hb2
            have L2 : Below w.heap.size w w2 := hbr.drew.trans (hb2.mono hbr.size)
            have z2 : wr.heap.size ≤ w2.heap.size := hb2.size
            have S2 : Below wr.heap.size wr w2 := (Below.refl _ _).drew.trans hb2
            refine ⟨_, rfl, S2, ?_⟩
            refine Reg.takes (n := 3) (by kernel_rfl) (fun _ _ d _ _ h => by cases d <;> exact h) S2 [17, 18, 19] _ _ (by kernel_rfl) ?_
            repeat (refine Reg.det_step rfl (fun K' hK' => ?_); go_simp; (first | (refine hK' _ ?_; clear hK' K') | (apply Exists.intro; refine ⟨fun wx hwx => ?_, hK' _ ?_⟩; (first | rfl | (go_simp; first | done | rfl)); clear hK' K')))
            refine Reg.det_nil ?_
            refine Reg.one (i := 20) (n := 2) (by kernel_rfl) ?_
            refine Reg.val rfl rfl (v := .pointer (some ⟨w2.heap.size, 0, none⟩)) (w' := w2.alloc (.cells #[.int .i64 0, .int .i64 0] 33)) (by go_simp) (S2.alloc z2 _) ?_
            refine Reg.one (i := 21) (n := 1) (by kernel_rfl) ?_
            refine Reg.skip rfl rfl (w' := w2.alloc (.cells #[.int .i64 (Box.step (s, t) q wb r).1, .int .i64 (Box.step (s, t) q wb r).2] 33)) (by go_simp) (S2.alloc z2 _) ?_
            refine Reg.takes (n := 0) (by kernel_rfl) (fun _ _ d _ _ h => by cases d <;> exact h) (S2.alloc z2 _) [22] _ _ (by kernel_rfl) ?_
            repeat (refine Reg.det_step rfl (fun K' hK' => ?_); go_simp; (first | (refine hK' _ ?_; clear hK' K') | (apply Exists.intro; refine ⟨fun wx hwx => ?_, hK' _ ?_⟩; (first | rfl | (go_simp; first | done | rfl)); clear hK' K')))
            refine Reg.det_nil ?_
            refine wpAnyH_done (by kernel_rfl) ?_ _
            go_wp2_with fail
            go_meet
            exact ⟨_, rfl, rfl, by omega, L2.alloc (by omega) _, B2.alloc, Mem.Blk.new⟩
          · refine Reg.val rfl rfl (v := .pointer (some ⟨wr.heap.size, 0, none⟩)) (w' := wr.drew.alloc (.cells #[.int .i64 0, .int .i64 0] 33)) (by go_simp) ((Below.refl _ _).drew.alloc (Nat.le_refl _) _) ?_
            refine Reg.one (i := 16) (n := 5) (by kernel_rfl) ?_
            refine Reg.call rfl rfl (by go_simp; exact ⟨rfl, rfl⟩) ?_
            refine (rdo_c s t q r wb (wr.drew.alloc (.cells #[.int .i64 0, .int .i64 0] 33)) o4).mono ?_
            rintro e w2 ⟨rfl, hb2⟩
            have B2 : In w2 w1.heap.size (s, t) := hB.drew.alloc.belowS hb2
            have N2 : In w2 wr.heap.size (0, 0) := Mem.Blk.belowS (Mem.Blk.new (w := wr.drew)) hb2
            have L2 : Below w.heap.size w w2 := (hbr.drew.alloc hbr.size _).trans (hb2.mono (by simp; omega))
            have z2 : wr.heap.size + 1 ≤ w2.heap.size := by have := hb2.size; simp at this; omega
            have S2 : Below wr.heap.size wr w2 := ((Below.refl _ _).drew.alloc (Nat.le_refl _) _).trans (hb2.mono (by simp))
            have a0 : w2.cell? ⟨wr.heap.size, 0, none⟩ = some (.int .i64 0) := N2.cell 0
            have a1 : w2.cell? ⟨wr.heap.size, 1, none⟩ = some (.int .i64 0) := N2.cell 1
            have af := N2.frozen
            refine ⟨_, rfl, S2, ?_⟩
            refine Reg.takes (n := 2) (by kernel_rfl) (fun _ _ d _ _ h => by cases d <;> exact h) S2 [17, 18, 19] _ _ (by kernel_rfl) ?_
            repeat (refine Reg.det_step rfl (fun K' hK' => ?_); go_simp; (first | (refine hK' _ ?_; clear hK' K') | (apply Exists.intro; refine ⟨fun wx hwx => ?_, hK' _ ?_⟩; (first | rfl | (go_simp; first | done | rfl)); clear hK' K')))
            refine Reg.det_nil ?_
            refine Reg.one (i := 21) (n := 1) (by kernel_rfl) ?_
            refine Reg.skip rfl rfl (w' := (w2.setCell ⟨wr.heap.size, 0, none⟩ (.int .i64 (Box.step (s, t) q wb r).1)).setCell ⟨wr.heap.size, 1, none⟩ (.int .i64 (Box.step (s, t) q wb r).2)) (by go_simp) ((S2.setCell (Nat.le_refl _) _).setCell (Nat.le_refl _) _) ?_
            refine Reg.takes (n := 0) (by kernel_rfl) (fun _ _ d _ _ h => by cases d <;> exact h) ((S2.setCell (p := ⟨wr.heap.size, 0, none⟩) (Nat.le_refl _) _).setCell (p := ⟨wr.heap.size, 1, none⟩) (Nat.le_refl _) _) [22] _ _ (by kernel_rfl) ?_
            repeat (refine Reg.det_step rfl (fun K' hK' => ?_); go_simp; (first | (refine hK' _ ?_; clear hK' K') | (apply Exists.intro; refine ⟨fun wx hwx => ?_, hK' _ ?_⟩; (first | rfl | (go_simp; first | done | rfl)); clear hK' K')))
            refine Reg.det_nil ?_
            refine wpAnyH_done (by kernel_rfl) ?_ _
            go_wp2_with fail
            go_meet
            exact ⟨_, rfl, rfl, by omega, (L2.setCell (by simp; omega) _).setCell (by simp; omega) _, (B2.far (by simp; omega)).far (by simp; omega), (N2.set_ 0 _).set_ 1 _⟩
        · have hwb' : wb = true := by rw [hwb]; simp [List.getD_eq_getElem?_getD, List.getElem?_eq_none (show well.length ≤ k by omega)]
          have hge : decide (m ≤ k) = true := by simp; omega
          clear hwb
          subst hwb'
          refine Reg.start (S := fun w' => Below wr.heap.size wr w') (by kernel_rfl) ?_
          refine Reg.takes (n := 7) (by kernel_rfl) (fun _ _ d _ _ h => by cases d <;> exact h) (Below.refl _ _).drew [0, 1, 2, 3, 4, 5, 6, 7, 8, 9, 10, 11, 12, 13, 14, 15] _ _ (by kernel_rfl) ?_
          repeat (refine Reg.det_step rfl (fun K' hK' => ?_); go_simp; (first | (refine hK' _ ?_; clear hK' K') | (apply Exists.intro; refine ⟨fun wx hwx => ?_, hK' _ ?_⟩; (first | rfl | (have e0 := (hwx.cell (p := ⟨w1.heap.size, 0, none⟩) hgr).trans c0; have e1 := (hwx.cell (p := ⟨w1.heap.size, 1, none⟩) hgr).trans c1; have e2 := (hwx.cell (p := ad.add k) (by simp [Mem.add_block]; omega)).trans hcq'; go_simp; first | done | rfl)); clear hK' K')))
          refine Reg.det_nil ?_
          refine Reg.two (i := 16) (j := 20) (n := 6) (by kernel_rfl) ?_ ?_
          · refine Reg.call rfl rfl (by go_simp; exact ⟨rfl, rfl⟩) ?_
            refine (rdo_c s t q r true wr.drew o4).mono ?_
            rintro e w2 ⟨rfl, hb2⟩
            have B2 : In w2 w1.heap.size (s, t) := hB.drew.belowS hb2
            have L2 : Below w.heap.size w w2 := hbr.drew.trans (hb2.mono hbr.size)
            have z2 : wr.heap.size ≤ w2.heap.size := hb2.size
            have S2 : Below wr.heap.size wr w2 := (Below.refl _ _).drew.trans hb2
            refine ⟨_, rfl, S2, ?_⟩
            refine Reg.takes (n := 3) (by kernel_rfl) (fun _ _ d _ _ h => by cases d <;> exact h) S2 [17, 18, 19] _ _ (by kernel_rfl) ?_
            repeat (refine Reg.det_step rfl (fun K' hK' => ?_); go_simp; (first | (refine hK' _ ?_; clear hK' K') | (apply Exists.intro; refine ⟨fun wx hwx => ?_, hK' _ ?_⟩; (first | rfl | (go_simp; first | done | rfl)); clear hK' K')))
            refine Reg.det_nil ?_
            refine Reg.one (i := 20) (n := 2) (by kernel_rfl) ?_
            refine Reg.val rfl rfl (v := .pointer (some ⟨w2.heap.size, 0, none⟩)) (w' := w2.alloc (.cells #[.int .i64 0, .int .i64 0] 33)) (by go_simp) (S2.alloc z2 _) ?_
            refine Reg.one (i := 21) (n := 1) (by kernel_rfl) ?_
            refine Reg.skip rfl rfl (w' := w2.alloc (.cells #[.int .i64 (Box.step (s, t) q true r).1, .int .i64 (Box.step (s, t) q true r).2] 33)) (by go_simp) (S2.alloc z2 _) ?_
            refine Reg.takes (n := 0) (by kernel_rfl) (fun _ _ d _ _ h => by cases d <;> exact h) (S2.alloc z2 _) [22] _ _ (by kernel_rfl) ?_
            repeat (refine Reg.det_step rfl (fun K' hK' => ?_); go_simp; (first | (refine hK' _ ?_; clear hK' K') | (apply Exists.intro; refine ⟨fun wx hwx => ?_, hK' _ ?_⟩; (first | rfl | (go_simp; first | done | rfl)); clear hK' K')))
            refine Reg.det_nil ?_
            refine wpAnyH_done (by kernel_rfl) ?_ _
            go_wp2_with fail
            go_meet
            exact ⟨_, rfl, rfl, by omega, L2.alloc (by omega) _, B2.alloc, Mem.Blk.new⟩
          · refine Reg.val rfl rfl (v := .pointer (some ⟨wr.heap.size, 0, none⟩)) (w' := wr.drew.alloc (.cells #[.int .i64 0, .int .i64 0] 33)) (by go_simp) ((Below.refl _ _).drew.alloc (Nat.le_refl _) _) ?_
            refine Reg.one (i := 16) (n := 5) (by kernel_rfl) ?_
            refine Reg.call rfl rfl (by go_simp; exact ⟨rfl, rfl⟩) ?_
            refine (rdo_c s t q r true (wr.drew.alloc (.cells #[.int .i64 0, .int .i64 0] 33)) o4).mono ?_
            rintro e w2 ⟨rfl, hb2⟩
            have B2 : In w2 w1.heap.size (s, t) := hB.drew.alloc.belowS hb2
            have N2 : In w2 wr.heap.size (0, 0) := Mem.Blk.belowS (Mem.Blk.new (w := wr.drew)) hb2
            have L2 : Below w.heap.size w w2 := (hbr.drew.alloc hbr.size _).trans (hb2.mono (by simp; omega))
            have z2 : wr.heap.size + 1 ≤ w2.heap.size := by have := hb2.size; simp at this; omega
            have S2 : Below wr.heap.size wr w2 := ((Below.refl _ _).drew.alloc (Nat.le_refl _) _).trans (hb2.mono (by simp))
            have a0 : w2.cell? ⟨wr.heap.size, 0, none⟩ = some (.int .i64 0) := N2.cell 0
            have a1 : w2.cell? ⟨wr.heap.size, 1, none⟩ = some (.int .i64 0) := N2.cell 1
            have af := N2.frozen
            refine ⟨_, rfl, S2, ?_⟩
            refine Reg.takes (n := 2) (by kernel_rfl) (fun _ _ d _ _ h => by cases d <;> exact h) S2 [17, 18, 19] _ _ (by kernel_rfl) ?_
            repeat (refine Reg.det_step rfl (fun K' hK' => ?_); go_simp; (first | (refine hK' _ ?_; clear hK' K') | (apply Exists.intro; refine ⟨fun wx hwx => ?_, hK' _ ?_⟩; (first | rfl | (go_simp; first | done | rfl)); clear hK' K')))
            refine Reg.det_nil ?_
            refine Reg.one (i := 21) (n := 1) (by kernel_rfl) ?_
            refine Reg.skip rfl rfl (w' := (w2.setCell ⟨wr.heap.size, 0, none⟩ (.int .i64 (Box.step (s, t) q true r).1)).setCell ⟨wr.heap.size, 1, none⟩ (.int .i64 (Box.step (s, t) q true r).2)) (by go_simp) ((S2.setCell (Nat.le_refl _) _).setCell (Nat.le_refl _) _) ?_
            refine Reg.takes (n := 0) (by kernel_rfl) (fun _ _ d _ _ h => by cases d <;> exact h) ((S2.setCell (p := ⟨wr.heap.size, 0, none⟩) (Nat.le_refl _) _).setCell (p := ⟨wr.heap.size, 1, none⟩) (Nat.le_refl _) _) [22] _ _ (by kernel_rfl) ?_
            repeat (refine Reg.det_step rfl (fun K' hK' => ?_); go_simp; (first | (refine hK' _ ?_; clear hK' K') | (apply Exists.intro; refine ⟨fun wx hwx => ?_, hK' _ ?_⟩; (first | rfl | (go_simp; first | done | rfl)); clear hK' K')))
            refine Reg.det_nil ?_
            refine wpAnyH_done (by kernel_rfl) ?_ _
            go_wp2_with fail
            go_meet
            exact ⟨_, rfl, rfl, by omega, (L2.setCell (by simp; omega) _).setCell (by simp; omega) _, (B2.far (by simp; omega)).far (by simp; omega), (N2.set_ 0 _).set_ 1 _⟩
      case rest =>
        obtain ⟨g12, rfl, rfl, hne, L2, B2, N2⟩ := hcut
        have Hfin : Hid ((runTo l well r (k + 1)).1 = Box.step (s, t) q wb r ∧ (runTo l well r (k + 1)).2 = (runTo l well r k).2 + if nxt s q = 0 then 0 else 1) := by
          have e1 : l.getD k 0 = q := by rw [← Hq.out]; simp [List.getD_eq_getElem?_getD, List.getElem?_eq_getElem hlk]
          show _ ∧ _
          rw [runTo, e1, ← hwb, ← Hbk.out]
          exact ⟨rfl, rfl⟩
        have x0 : wc.cell? ⟨g12, 0, none⟩ = some (.int .i64 (Box.step (s, t) q wb r).1) := N2.cell 0
        have x1 : wc.cell? ⟨g12, 1, none⟩ = some (.int .i64 (Box.step (s, t) q wb r).2) := N2.cell 1
        have y0 : wc.cell? ⟨w1.heap.size, 0, none⟩ = some (.int .i64 s) := B2.cell 0
        have y1 : wc.cell? ⟨w1.heap.size, 1, none⟩ = some (.int .i64 t) := B2.cell 1
        have yf := B2.frozen
        have Hwb := Lib.hid hwb
        clear hwb
        by_cases h0 : nxt s q = 0
        · have he : (nxt s q != 0) = false := by simp [h0]
          have h0' := Lib.hid h0
          clear h0
          go_wp2
          go_roundw
          case rel => exact ⟨k + 1, by omega, by go_num, by rw [Hfin.out.2, if_pos h0'.out]; simp, (L2.setCell (by simp; omega) _).setCell (by simp; omega) _, by rw [Hfin.out.1]; exact (B2.set_ 0 _).set_ 1 _⟩
          case measure => simp [intOf]; omega
        · have he : (nxt s q != 0) = true := by simp [h0]
          have h0' := Lib.hid h0
          clear h0
          go_wp2
          go_roundw
          case rel => exact ⟨k + 1, by omega, by go_num, by rw [Hfin.out.2, if_neg h0'.out], (L2.setCell (by simp; omega) _).setCell (by simp; omega) _, by rw [Hfin.out.1]; exact (B2.set_ 0 _).set_ 1 _⟩
          case measure => simp [intOf]; omega
    · obtain rfl : k = n := by omega
      go_wp2_with fail
      refine (run_c _ _ _ _ _ _ _ _ r wr ((hl.below hbr).more hbr.size) ((hw.below hbr).more hbr.size) hlz (by omega) (by omega)).mono ?_
      rintro e w2 ⟨rfl, hb2⟩
      rw [← Hbk.out]
      have B2 : In (w2.alloc (.cells #[.int .i64 s, .int .i64 t] 33)) w1.heap.size (s, t) := (hB.belowS hb2).alloc
      have y0 : (w2.alloc (.cells #[.int .i64 s, .int .i64 t] 33)).cell? ⟨w1.heap.size, 0, none⟩ = some (.int .i64 s) := B2.cell 0
      have y1 : (w2.alloc (.cells #[.int .i64 s, .int .i64 t] 33)).cell? ⟨w1.heap.size, 1, none⟩ = some (.int .i64 t) := B2.cell 1
      go_wp2
      go_ret
      exact ⟨rfl, (hbr.trans (hb2.mono hbr.size)).alloc (by have := hbr.size; have := hb2.size; omega) _⟩
theorem walk (v1 v2 v3 : Value) (w : World) (h1 : Frame.Arg Try.prog w 26 v1) (h2 : Frame.Arg Try.prog w 42 v2) (h3 : Frame.Arg Try.prog w 3 v3) :
    Calls Try.prog 9 #[v1, v2, v3] w fun e w' => e = .returned (.bool true) ∧ Below w.heap.size w w' := by
  obtain ⟨A, n, c, zs, rfl, hc, hm, hr, hz⟩ := h1.ints Try.underlying26 Try.underlying3 (by kernel_rfl)
  obtain ⟨A2, n2, c2, bs, rfl, hc2, hm2, hr2⟩ := h2.bools Try.underlying42 Try.underlying4 (by kernel_rfl)
  obtain ⟨r, rfl, _⟩ := h3.int Try.underlying3
  unfold maxLen at hm hm2
  by_cases hn : 300 < n
  · have hn' : decide (300 < n) = true := by simp; omega
    go_enter Try.func9, Try.ntmps9
    go_wp2_with fail
    refine (awake_c _).mono ?_
    rintro e w1 ⟨rfl, hb1⟩
    go_wp2_with fail
    refine (awake_c _).mono ?_
    rintro e w2 ⟨rfl, hb2⟩
    go_wp2
    go_ret
    exact ⟨rfl, hb1.trans (hb2.mono hb1.size)⟩
  · by_cases hn2 : 300 < n2
    · have hn' : decide (300 < n) = false := by simp; omega
      have hn2' : decide (300 < n2) = true := by simp; omega
      go_enter Try.func9, Try.ntmps9
      go_wp2_with fail
      refine (awake_c _).mono ?_
      rintro e w1 ⟨rfl, hb1⟩
      go_wp2_with fail
      refine (awake_c _).mono ?_
      rintro e w2 ⟨rfl, hb2⟩
      go_wp2
      go_ret
      exact ⟨rfl, hb1.trans (hb2.mono hb1.size)⟩
    · exact core A A2 n c n2 c2 zs bs r w hr hr2.2 hz (by omega) (by omega)
end Go.Proofs.Ytfcdmfiblmnbkaa.boxRuns
