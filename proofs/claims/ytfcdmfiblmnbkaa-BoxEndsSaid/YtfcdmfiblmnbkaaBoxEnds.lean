/- BoxEnds: the walk. -/
import Derived.Test.YtfcdmfiblmnbkaaBoxA
import Derived.Test.YtfcdmfiblmnbkaaBoxM
import Derived.Test.YtfcdmfiblmnbkaaFrame
namespace Go.Proofs.Ytfcdmfiblmnbkaa.boxEnds
open Go.RowKit Go.Maps Box
/-- what comes of one that is broken, or gone -/
theorem ends (s t q r : Int) (x : Bool) (hs : s = 5 ∨ s = 6) (h0 : t ≤ 9223372036854775807) : ∃ y z c, Box.step (s, t) q x r = (y, z) ∧ err s q = c ∧ (y = 5 ∨ y = 6) ∧ z ≤ 9223372036854775807 ∧ (c = 7 ∧ y = s ∧ z = t ∨ c = 0 ∧ q = 4) := by
  rcases hs with rfl | rfl
  · exact ⟨5, t, 7, gone_stays _ _ _ _, gone_err _, Or.inl rfl, h0, Or.inl ⟨rfl, rfl, rfl⟩⟩
  · by_cases hq : q = 4
    · subst hq
      refine ⟨_, _, 0, rfl, rfl, (broken_goes t r x), ?_, Or.inr ⟨rfl, rfl⟩⟩
      have := (Sat.add_bd t 1).2
      show (Box.step (6, t) 4 x r).2 ≤ 9223372036854775807
      unfold Box.step; simp [nxt]
      split
      · decide
      · exact this
    · exact ⟨6, t, 7, broken_step _ _ _ _ hq, by rw [broken_err, if_neg hq], Or.inr rfl, h0, Or.inl ⟨rfl, rfl, rfl⟩⟩
/-- behind so many rounds -/
def Rel (w : World) (g : Nat) (T : Int) (wr : World) : Prop := ∃ s t, (s = 5 ∨ s = 6) ∧ t ≤ 9223372036854775807 ∧ Below w.heap.size w wr ∧ In wr g (5, T) ∧ In wr (g + 1) (s, t)
set_option maxRecDepth 4000 in
set_option maxHeartbeats 4000000 in
theorem core (T : Int) (A A2 : Option Addr) (n c m c2 : Nat) (l : List Int) (well : List Bool) (r : Int) (w : World) (hT : T ≤ 9223372036854775807) (hl : Mem.Ints w w.heap.size .i64 A n l) (hw : Mem.Sl w w.heap.size 1 A2 m (well.map Value.bool)) (hlz : ∀ z ∈ l, (Lit.int .i64 z).wf = true)
    (hn : n ≤ 200) (hm : m ≤ 200) :
    Calls Try.prog 11 #[.int .i64 T, .slice A n c, .slice A2 m c2, .int .i64 r] w fun e w' => e = .returned (.bool true) ∧ Below w.heap.size w w' := by
  have hln := hl.len
  have hwn : well.length = m := by have := hw.1; simpa using this
  have hn' : decide (200 < n) = false := by simp; omega
  have hm' : decide (200 < m) = false := by simp; omega
  go_enter Try.func11, Try.ntmps11
  go_wp2_with (go_at_call 24; refine (awake_c _).mono ?_; rintro e w1 ⟨rfl, hb1⟩)
  have hz1 := hb1.size
  go_loopw [11] (fun vi wr => ∃ k : Nat, k ≤ n ∧ vi = .int .i64 k ∧ Rel w w1.heap.size T wr) (fun i _ => n - (intOf i).toNat)
  case atStart => exact ⟨0, Nat.zero_le _, rfl, 6, T, Or.inr rfl, hT, (hb1.alloc hb1.size _).alloc (by simp; omega) _, Mem.Blk.new.alloc, by have := Mem.Blk.new (w := w1.alloc (.cells #[.int .i64 5, .int .i64 T] 33)) (cs := #[.int .i64 6, .int .i64 T]) (t := 33); simpa using this⟩
  case round =>
    obtain ⟨k, hk, rfl, s, t, hst, ht, hbr, G0, B0⟩ := hrel
    clear hb1
    have Hst := Lib.hid hst
    clear hst
    by_cases hlt : k < n
    · obtain ⟨ad, q, hlk, rfl, hadb, hq, hcq⟩ := (hl.below hbr).at_ hlt
      have hqw : (Lit.int .i64 q).wf = true := by rw [← hq]; exact hlz _ (List.getElem_mem hlk)
      clear hq
      obtain ⟨wb, hwb⟩ : ∃ wb, wb = well.getD k true := ⟨_, rfl⟩
      go_upto_region 8 with fail
      go_cut [12] (fun s12 wx => s12 = .bool wb ∧ wx = wr)
      case first =>
        by_cases hkm : k < m
        · obtain ⟨ad2, hbl, rfl, had2, hcb⟩ := (hw.below hbr).at_ hkm
          have hcb' : wr.cell? (ad2.add k) = some (.bool wb) := by rw [hcb, hwb]; simp [List.getD_eq_getElem?_getD, List.getElem?_eq_getElem (show k < well.length by omega)]
          have hge : decide (m ≤ k) = false := by simp; omega
          clear hcb hwb
          go_wp2_with fail
          go_meet
          exact ⟨rfl, rfl⟩
        · have hwb' : wb = true := by rw [hwb]; simp [List.getD_eq_getElem?_getD, List.getElem?_eq_none (show well.length ≤ k by omega)]
          have hge : decide (m ≤ k) = true := by simp; omega
          clear hwb
          subst hwb'
          go_wp2_with fail
          go_meet
          exact ⟨rfl, rfl⟩
      case rest =>
        obtain ⟨rfl, rfl⟩ := hcut
        rename World => wr
        clear hwb
        go_upto_region 9 with fail
        go_cut [13, 14] (fun s13 s14 wx => ∃ g, s13 = .pointer (some ⟨g, 0, none⟩) ∧ s14 = .int .i64 7 ∧ w1.heap.size ≠ g ∧ w1.heap.size + 1 ≠ g ∧ Below w.heap.size w wx ∧ In wx w1.heap.size (5, T) ∧ In wx (w1.heap.size + 1) (s, t) ∧ In wx g (5, T))
        case first =>
          have c0 : wr.cell? ⟨w1.heap.size, 0, none⟩ = some (.int .i64 5) := G0.cell 0
          have c1 : wr.cell? ⟨w1.heap.size, 1, none⟩ = some (.int .i64 T) := G0.cell 1
          have gG0 := G0.lt; have gB0 := B0.lt; have gW := hbr.size
          refine Reg.start (S := fun w' => Below wr.heap.size wr w') (by kernel_rfl) ?_
          refine Reg.takes (n := 7) (by kernel_rfl) (fun _ _ d _ _ h => by cases d <;> exact h) (Below.refl _ _).drew [0, 1, 2, 3, 4, 5, 6] _ _ (by kernel_rfl) ?_
          repeat (refine Reg.det_step rfl (fun K' hK' => ?_); go_simp; (first | (refine hK' _ ?_; clear hK' K') | (apply Exists.intro; refine ⟨fun wx hwx => ?_, hK' _ ?_⟩; (first | rfl | (have e0 := (hwx.cell (p := ⟨w1.heap.size, 0, none⟩) gG0).trans c0; have e1 := (hwx.cell (p := ⟨w1.heap.size, 1, none⟩) gG0).trans c1; have e2 := (hwx.cell (p := ad.add k) (by simp [Mem.add_block]; omega)).trans hcq; go_simp; first | done | rfl)); clear hK' K')))
          refine Reg.det_nil ?_
          refine Reg.two (i := 7) (j := 11) (n := 6) (by kernel_rfl) ?_ ?_
          · refine Reg.call rfl rfl (by go_simp; exact ⟨rfl, rfl⟩) ?_
            refine (do_v 5 T q r 5 T 7 wb _ (gone_stays _ _ _ _) (gone_err _) (by decide) hqw hT).mono ?_
            rintro e w2 ⟨rfl, hb2⟩
            have G0' : In w2 (w1.heap.size) (5, T) := G0.drew.belowS hb2
            have B0' : In w2 (w1.heap.size + 1) (s, t) := B0.drew.belowS hb2
            have L2 : Below w.heap.size w w2 := hbr.drew.trans (hb2.mono gW)
            have z2 : wr.heap.size ≤ w2.heap.size := hb2.size
            have S2 : Below wr.heap.size wr w2 := (Below.refl _ _).drew.trans hb2
            refine ⟨_, rfl, S2, ?_⟩
            refine Reg.takes (n := 3) (by kernel_rfl) (fun _ _ d _ _ h => by cases d <;> exact h) S2 [8, 9, 10] _ _ (by kernel_rfl) ?_
            repeat (refine Reg.det_step rfl (fun K' hK' => ?_); go_simp; (first | (refine hK' _ ?_; clear hK' K') | (apply Exists.intro; refine ⟨fun wx hwx => ?_, hK' _ ?_⟩; (first | rfl | (go_simp; first | done | rfl)); clear hK' K')))
            refine Reg.det_nil ?_
            refine Reg.one (i := 11) (n := 2) (by kernel_rfl) ?_
            refine Reg.val rfl rfl (v := .pointer (some ⟨w2.heap.size, 0, none⟩)) (w' := w2.alloc (.cells #[.int .i64 0, .int .i64 0] 33)) (by go_simp) (S2.alloc z2 _) ?_
            refine Reg.one (i := 12) (n := 1) (by kernel_rfl) ?_
            refine Reg.skip rfl rfl (w' := w2.alloc (.cells #[.int .i64 5, .int .i64 T] 33)) (by go_simp) (S2.alloc z2 _) ?_
            refine Reg.takes (n := 0) (by kernel_rfl) (fun _ _ d _ _ h => by cases d <;> exact h) (S2.alloc z2 _) [13] _ _ (by kernel_rfl) ?_
            repeat (refine Reg.det_step rfl (fun K' hK' => ?_); go_simp; (first | (refine hK' _ ?_; clear hK' K') | (apply Exists.intro; refine ⟨fun wx hwx => ?_, hK' _ ?_⟩; (first | rfl | (go_simp; first | done | rfl)); clear hK' K')))
            refine Reg.det_nil ?_
            refine wpAnyH_done (by kernel_rfl) ?_ _
            go_wp2_with fail
            go_meet
            exact ⟨_, rfl, rfl, by omega, by omega, L2.alloc (by omega) _, G0'.alloc, B0'.alloc, Mem.Blk.new⟩
          · refine Reg.val rfl rfl (v := .pointer (some ⟨wr.heap.size, 0, none⟩)) (w' := wr.drew.alloc (.cells #[.int .i64 0, .int .i64 0] 33)) (by go_simp) ((Below.refl _ _).drew.alloc (Nat.le_refl _) _) ?_
            refine Reg.one (i := 7) (n := 5) (by kernel_rfl) ?_
            refine Reg.call rfl rfl (by go_simp; exact ⟨rfl, rfl⟩) ?_
            refine (do_v 5 T q r 5 T 7 wb _ (gone_stays _ _ _ _) (gone_err _) (by decide) hqw hT).mono ?_
            rintro e w2 ⟨rfl, hb2⟩
            have G0' : In w2 (w1.heap.size) (5, T) := G0.drew.alloc.belowS hb2
            have B0' : In w2 (w1.heap.size + 1) (s, t) := B0.drew.alloc.belowS hb2
            have N2 : In w2 wr.heap.size (0, 0) := Mem.Blk.belowS (Mem.Blk.new (w := wr.drew)) hb2
            have L2 : Below w.heap.size w w2 := (hbr.drew.alloc gW _).trans (hb2.mono (by simp; omega))
            have z2 : wr.heap.size + 1 ≤ w2.heap.size := by have := hb2.size; simp at this; omega
            have S2 : Below wr.heap.size wr w2 := ((Below.refl _ _).drew.alloc (Nat.le_refl _) _).trans (hb2.mono (by simp))
            have a0 : w2.cell? ⟨wr.heap.size, 0, none⟩ = some (.int .i64 0) := N2.cell 0
            have a1 : w2.cell? ⟨wr.heap.size, 1, none⟩ = some (.int .i64 0) := N2.cell 1
            have af := N2.frozen
            refine ⟨_, rfl, S2, ?_⟩
            refine Reg.takes (n := 2) (by kernel_rfl) (fun _ _ d _ _ h => by cases d <;> exact h) S2 [8, 9, 10] _ _ (by kernel_rfl) ?_
            repeat (refine Reg.det_step rfl (fun K' hK' => ?_); go_simp; (first | (refine hK' _ ?_; clear hK' K') | (apply Exists.intro; refine ⟨fun wx hwx => ?_, hK' _ ?_⟩; (first | rfl | (go_simp; first | done | rfl)); clear hK' K')))
            refine Reg.det_nil ?_
            refine Reg.one (i := 12) (n := 1) (by kernel_rfl) ?_
            refine Reg.skip rfl rfl (w' := (w2.setCell ⟨wr.heap.size, 0, none⟩ (.int .i64 5)).setCell ⟨wr.heap.size, 1, none⟩ (.int .i64 T)) (by go_simp) ((S2.setCell (Nat.le_refl _) _).setCell (Nat.le_refl _) _) ?_
            refine Reg.takes (n := 0) (by kernel_rfl) (fun _ _ d _ _ h => by cases d <;> exact h) ((S2.setCell (p := ⟨wr.heap.size, 0, none⟩) (Nat.le_refl _) _).setCell (p := ⟨wr.heap.size, 1, none⟩) (Nat.le_refl _) _) [13] _ _ (by kernel_rfl) ?_
            repeat (refine Reg.det_step rfl (fun K' hK' => ?_); go_simp; (first | (refine hK' _ ?_; clear hK' K') | (apply Exists.intro; refine ⟨fun wx hwx => ?_, hK' _ ?_⟩; (first | rfl | (go_simp; first | done | rfl)); clear hK' K')))
            refine Reg.det_nil ?_
            refine wpAnyH_done (by kernel_rfl) ?_ _
            go_wp2_with fail
            go_meet
            exact ⟨_, rfl, rfl, by omega, by omega, (L2.setCell (by simp; omega) _).setCell (by simp; omega) _, (G0'.far (by simp; omega)).far (by simp; omega), (B0'.far (by simp; omega)).far (by simp; omega), (N2.set_ 0 _).set_ 1 _⟩
        case rest =>
          obtain ⟨g, rfl, rfl, hg1, hg2, L1, G1, B1, X1⟩ := hcut
          have hcq1 : wc.cell? (ad.add k) = some (.int .i64 q) := by
            obtain ⟨ad', q', _, e, _, hq', hc'⟩ := (hl.below L1).at_ hlt
            obtain ⟨_, q0, _, e0, _, hq0, hc0⟩ := (hl.below hbr).at_ hlt
            cases e; cases e0
            have : q = q0 := by rw [hcq] at hc0; simpa using hc0
            rw [hc', ← hq', hq0, this]
          rename World => wy
          clear hcq hbr G0 B0
          have x0 : wy.cell? ⟨g, 0, none⟩ = some (.int .i64 5) := X1.cell 0
          have x1 : wy.cell? ⟨g, 1, none⟩ = some (.int .i64 T) := X1.cell 1
          have c2 : wy.cell? ⟨w1.heap.size, 0, none⟩ = some (.int .i64 5) := G1.cell 0
          have c3 : wy.cell? ⟨w1.heap.size, 1, none⟩ = some (.int .i64 T) := G1.cell 1
          obtain ⟨y, z, cc, hs1, hs2, hy, hz, hp⟩ := ends s t q r wb Hst.out ht
          have Hy := Lib.hid hy
          have Hp := Lib.hid hp
          have Hs1 := Lib.hid hs1
          have Hs2 := Lib.hid hs2
          clear hy hp hs1 hs2
          go_upto_region 12 with fail
          clear x0 x1 c2 c3
          go_cut [15, 16] (fun s15 s16 wx => ∃ g15, s15 = .pointer (some ⟨g15, 0, none⟩) ∧ s16 = .int .i64 cc ∧ w1.heap.size ≠ g15 ∧ w1.heap.size + 1 ≠ g15 ∧ Below w.heap.size w wx ∧ In wx w1.heap.size (5, T) ∧ In wx (w1.heap.size + 1) (s, t) ∧ In wx g15 (y, z))
          case first =>
            have c0 : wy.cell? ⟨w1.heap.size + 1, 0, none⟩ = some (.int .i64 s) := B1.cell 0
            have c1 : wy.cell? ⟨w1.heap.size + 1, 1, none⟩ = some (.int .i64 t) := B1.cell 1
            have gG1 := G1.lt; have gB1 := B1.lt; have gW := L1.size
            refine Reg.start (S := fun w' => Below wy.heap.size wy w') (by kernel_rfl) ?_
            refine Reg.takes (n := 7) (by kernel_rfl) (fun _ _ d _ _ h => by cases d <;> exact h) (Below.refl _ _).drew [0, 1, 2, 3, 4, 5, 6] _ _ (by kernel_rfl) ?_
            repeat (refine Reg.det_step rfl (fun K' hK' => ?_); go_simp; (first | (refine hK' _ ?_; clear hK' K') | (apply Exists.intro; refine ⟨fun wx hwx => ?_, hK' _ ?_⟩; (first | rfl | (have e0 := (hwx.cell (p := ⟨w1.heap.size + 1, 0, none⟩) gB1).trans c0; have e1 := (hwx.cell (p := ⟨w1.heap.size + 1, 1, none⟩) gB1).trans c1; have e2 := (hwx.cell (p := ad.add k) (by simp [Mem.add_block]; omega)).trans hcq1; go_simp; first | done | rfl)); clear hK' K')))
            refine Reg.det_nil ?_
            refine Reg.two (i := 7) (j := 11) (n := 6) (by kernel_rfl) ?_ ?_
            · refine Reg.call rfl rfl (by go_simp; exact ⟨rfl, rfl⟩) ?_
              refine (do_v s t q r y z cc wb _ Hs1.out Hs2.out (by rcases Hst.out with rfl | rfl <;> decide) hqw ht).mono ?_
              rintro e w2 ⟨rfl, hb2⟩
              have G1' : In w2 (w1.heap.size) (5, T) := G1.drew.belowS hb2
              have B1' : In w2 (w1.heap.size + 1) (s, t) := B1.drew.belowS hb2
              have L2 : Below w.heap.size w w2 := L1.drew.trans (hb2.mono gW)
              have z2 : wy.heap.size ≤ w2.heap.size := hb2.size
              have S2 : Below wy.heap.size wy w2 := (Below.refl _ _).drew.trans hb2
              refine ⟨_, rfl, S2, ?_⟩
              refine Reg.takes (n := 3) (by kernel_rfl) (fun _ _ d _ _ h => by cases d <;> exact h) S2 [8, 9, 10] _ _ (by kernel_rfl) ?_
              repeat (refine Reg.det_step rfl (fun K' hK' => ?_); go_simp; (first | (refine hK' _ ?_; clear hK' K') | (apply Exists.intro; refine ⟨fun wx hwx => ?_, hK' _ ?_⟩; (first | rfl | (go_simp; first | done | rfl)); clear hK' K')))
              refine Reg.det_nil ?_
              refine Reg.one (i := 11) (n := 2) (by kernel_rfl) ?_
              refine Reg.val rfl rfl (v := .pointer (some ⟨w2.heap.size, 0, none⟩)) (w' := w2.alloc (.cells #[.int .i64 0, .int .i64 0] 33)) (by go_simp) (S2.alloc z2 _) ?_
              refine Reg.one (i := 12) (n := 1) (by kernel_rfl) ?_
              refine Reg.skip rfl rfl (w' := w2.alloc (.cells #[.int .i64 y, .int .i64 z] 33)) (by go_simp) (S2.alloc z2 _) ?_
              refine Reg.takes (n := 0) (by kernel_rfl) (fun _ _ d _ _ h => by cases d <;> exact h) (S2.alloc z2 _) [13] _ _ (by kernel_rfl) ?_
              repeat (refine Reg.det_step rfl (fun K' hK' => ?_); go_simp; (first | (refine hK' _ ?_; clear hK' K') | (apply Exists.intro; refine ⟨fun wx hwx => ?_, hK' _ ?_⟩; (first | rfl | (go_simp; first | done | rfl)); clear hK' K')))
              refine Reg.det_nil ?_
              refine wpAnyH_done (by kernel_rfl) ?_ _
              go_wp2_with fail
              go_meet
              exact ⟨_, rfl, rfl, by omega, by omega, L2.alloc (by omega) _, G1'.alloc, B1'.alloc, Mem.Blk.new⟩
            · refine Reg.val rfl rfl (v := .pointer (some ⟨wy.heap.size, 0, none⟩)) (w' := wy.drew.alloc (.cells #[.int .i64 0, .int .i64 0] 33)) (by go_simp) ((Below.refl _ _).drew.alloc (Nat.le_refl _) _) ?_
              refine Reg.one (i := 7) (n := 5) (by kernel_rfl) ?_
              refine Reg.call rfl rfl (by go_simp; exact ⟨rfl, rfl⟩) ?_
              refine (do_v s t q r y z cc wb _ Hs1.out Hs2.out (by rcases Hst.out with rfl | rfl <;> decide) hqw ht).mono ?_
              rintro e w2 ⟨rfl, hb2⟩
              have G1' : In w2 (w1.heap.size) (5, T) := G1.drew.alloc.belowS hb2
              have B1' : In w2 (w1.heap.size + 1) (s, t) := B1.drew.alloc.belowS hb2
              have N2 : In w2 wy.heap.size (0, 0) := Mem.Blk.belowS (Mem.Blk.new (w := wy.drew)) hb2
              have L2 : Below w.heap.size w w2 := (L1.drew.alloc gW _).trans (hb2.mono (by simp; omega))
              have z2 : wy.heap.size + 1 ≤ w2.heap.size := by have := hb2.size; simp at this; omega
              have S2 : Below wy.heap.size wy w2 := ((Below.refl _ _).drew.alloc (Nat.le_refl _) _).trans (hb2.mono (by simp))
              have a0 : w2.cell? ⟨wy.heap.size, 0, none⟩ = some (.int .i64 0) := N2.cell 0
              have a1 : w2.cell? ⟨wy.heap.size, 1, none⟩ = some (.int .i64 0) := N2.cell 1
              have af := N2.frozen
              refine ⟨_, rfl, S2, ?_⟩
              refine Reg.takes (n := 2) (by kernel_rfl) (fun _ _ d _ _ h => by cases d <;> exact h) S2 [8, 9, 10] _ _ (by kernel_rfl) ?_
              repeat (refine Reg.det_step rfl (fun K' hK' => ?_); go_simp; (first | (refine hK' _ ?_; clear hK' K') | (apply Exists.intro; refine ⟨fun wx hwx => ?_, hK' _ ?_⟩; (first | rfl | (go_simp; first | done | rfl)); clear hK' K')))
              refine Reg.det_nil ?_
              refine Reg.one (i := 12) (n := 1) (by kernel_rfl) ?_
              refine Reg.skip rfl rfl (w' := (w2.setCell ⟨wy.heap.size, 0, none⟩ (.int .i64 y)).setCell ⟨wy.heap.size, 1, none⟩ (.int .i64 z)) (by go_simp) ((S2.setCell (Nat.le_refl _) _).setCell (Nat.le_refl _) _) ?_
              refine Reg.takes (n := 0) (by kernel_rfl) (fun _ _ d _ _ h => by cases d <;> exact h) ((S2.setCell (p := ⟨wy.heap.size, 0, none⟩) (Nat.le_refl _) _).setCell (p := ⟨wy.heap.size, 1, none⟩) (Nat.le_refl _) _) [13] _ _ (by kernel_rfl) ?_
              repeat (refine Reg.det_step rfl (fun K' hK' => ?_); go_simp; (first | (refine hK' _ ?_; clear hK' K') | (apply Exists.intro; refine ⟨fun wx hwx => ?_, hK' _ ?_⟩; (first | rfl | (go_simp; first | done | rfl)); clear hK' K')))
              refine Reg.det_nil ?_
              refine wpAnyH_done (by kernel_rfl) ?_ _
              go_wp2_with fail
              go_meet
              exact ⟨_, rfl, rfl, by omega, by omega, (L2.setCell (by simp; omega) _).setCell (by simp; omega) _, (G1'.far (by simp; omega)).far (by simp; omega), (B1'.far (by simp; omega)).far (by simp; omega), (N2.set_ 0 _).set_ 1 _⟩
          case rest =>
            obtain ⟨g15, rfl, rfl, hg3, hg4, L2, G2, B2, Y2⟩ := hcut
            have hcq2 : wc.cell? (ad.add k) = some (.int .i64 q) := by
              obtain ⟨ad', q', _, e, _, hq', hc'⟩ := (hl.below L2).at_ hlt
              obtain ⟨_, q0, _, e0, _, hq0, hc0⟩ := (hl.below L1).at_ hlt
              cases e; cases e0
              have : q = q0 := by rw [hcq1] at hc0; simpa using hc0
              rw [hc', ← hq', hq0, this]
            clear hcq1 L1 G1 B1 X1
            have y0 : wc.cell? ⟨g15, 0, none⟩ = some (.int .i64 y) := Y2.cell 0
            have y1 : wc.cell? ⟨g15, 1, none⟩ = some (.int .i64 z) := Y2.cell 1
            have b0 : wc.cell? ⟨w1.heap.size + 1, 0, none⟩ = some (.int .i64 s) := B2.cell 0
            have b1 : wc.cell? ⟨w1.heap.size + 1, 1, none⟩ = some (.int .i64 t) := B2.cell 1
            have bf := B2.frozen
            clear Hs1 Hs2 Hst
            have hp := Hp.out
            have hy := Hy.out
            clear Hp Hy
            rcases hp with ⟨rfl, rfl, rfl⟩ | ⟨rfl, rfl⟩
            · rcases hy with rfl | rfl
              · go_wp2
                go_roundw
                case rel => exact ⟨k + 1, by omega, by go_num, _, _, Or.inl rfl, hz, (L2.setCell (by simp; omega) _).setCell (by simp; omega) _, (G2.far (by simp)).far (by simp), (B2.set_ 0 _).set_ 1 _⟩
                case measure => simp [intOf]; omega
              · go_wp2
                go_roundw
                case rel => exact ⟨k + 1, by omega, by go_num, _, _, Or.inr rfl, hz, (L2.setCell (by simp; omega) _).setCell (by simp; omega) _, (G2.far (by simp)).far (by simp), (B2.set_ 0 _).set_ 1 _⟩
                case measure => simp [intOf]; omega
            · rcases hy with rfl | rfl
              · go_wp2
                go_roundw
                case rel => exact ⟨k + 1, by omega, by go_num, _, _, Or.inl rfl, hz, (L2.setCell (by simp; omega) _).setCell (by simp; omega) _, (G2.far (by simp)).far (by simp), (B2.set_ 0 _).set_ 1 _⟩
                case measure => simp [intOf]; omega
              · go_wp2
                go_roundw
                case rel => exact ⟨k + 1, by omega, by go_num, _, _, Or.inr rfl, hz, (L2.setCell (by simp; omega) _).setCell (by simp; omega) _, (G2.far (by simp)).far (by simp), (B2.set_ 0 _).set_ 1 _⟩
                case measure => simp [intOf]; omega
    · obtain rfl : k = n := by omega
      go_wp2
      go_ret
      exact ⟨rfl, hbr⟩
theorem walk (v0 v1 v2 v3 : Value) (w : World) (h0 : Frame.Arg Try.prog w 3 v0) (h1 : Frame.Arg Try.prog w 26 v1) (h2 : Frame.Arg Try.prog w 42 v2) (h3 : Frame.Arg Try.prog w 3 v3) :
    Calls Try.prog 11 #[v0, v1, v2, v3] w fun e w' => e = .returned (.bool true) ∧ Below w.heap.size w w' := by
  obtain ⟨T, rfl, hT⟩ := h0.int Try.underlying3
  obtain ⟨A, n, c, zs, rfl, hc, hm, hr, hz⟩ := h1.ints Try.underlying26 Try.underlying3 (by kernel_rfl)
  obtain ⟨A2, n2, c2, bs, rfl, hc2, hm2, hr2⟩ := h2.bools Try.underlying42 Try.underlying4 (by kernel_rfl)
  obtain ⟨r, rfl, _⟩ := h3.int Try.underlying3
  unfold maxLen at hm hm2
  by_cases hn : 200 < n
  · have hn' : decide (200 < n) = true := by simp; omega
    go_enter Try.func11, Try.ntmps11
    go_wp2_with fail
    refine (awake_c _).mono ?_
    rintro e w1 ⟨rfl, hb1⟩
    go_wp2_with fail
    refine (awake_c _).mono ?_
    rintro e w2 ⟨rfl, hb2⟩
    go_wp2
    go_ret
    exact ⟨rfl, hb1.trans (hb2.mono hb1.size)⟩
  · by_cases hn2 : 200 < n2
    · have hn' : decide (200 < n) = false := by simp; omega
      have hn2' : decide (200 < n2) = true := by simp; omega
      go_enter Try.func11, Try.ntmps11
      go_wp2_with fail
      refine (awake_c _).mono ?_
      rintro e w1 ⟨rfl, hb1⟩
      go_wp2_with fail
      refine (awake_c _).mono ?_
      rintro e w2 ⟨rfl, hb2⟩
      go_wp2
      go_ret
      exact ⟨rfl, hb1.trans (hb2.mono hb1.size)⟩
    · exact core T A A2 n c n2 c2 zs bs r w (Frame.bd_i64 hT).2 hr hr2.2 hz (by omega) (by omega)
end Go.Proofs.Ytfcdmfiblmnbkaa.boxEnds
