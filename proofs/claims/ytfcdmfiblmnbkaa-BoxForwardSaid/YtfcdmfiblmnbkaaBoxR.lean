/- The walks of layer 14 (box): all that is asked, one behind the other. -/
import Derived.Test.YtfcdmfiblmnbkaaBoxD
import Derived.Deep.DeepCutAuto
import Derived.Test.YtfcdmfiblmnbkaaReg
namespace Go.Proofs.Ytfcdmfiblmnbkaa
open Go.RowKit Go.Maps
namespace Box
theorem wf_of {n : Int} (h1 : -9223372036854775808 ≤ n) (h2 : n ≤ 9223372036854775807) : (Lit.int .i64 n).wf = true := WalkArith.wf_i64 (by omega)
def RunSaid (b : B) (n : Int) (W : World) (e : Ending) (w' : World) : Prop := e = .returned (.tuple #[.agg #[.int .i64 b.1, .int .i64 b.2], .int .i64 n]) ∧ Below W.heap.size W w'
/-- a container in a block -/
abbrev In (w : World) (g : Nat) (b : B) : Prop := Mem.Blk w g 33 #[.int .i64 b.1, .int .i64 b.2]
set_option maxHeartbeats 4000000 in
theorem run_c (A A2 : Option Addr) (n c m c2 : Nat) (l : List Int) (well : List Bool) (r : Int) (w : World) (hl : Mem.Ints w w.heap.size .i64 A n l) (hw : Mem.Sl w w.heap.size 1 A2 m (well.map Value.bool)) (hlz : ∀ z ∈ l, (Lit.int .i64 z).wf = true)
    (hn : n ≤ 1000) (_hm : m ≤ 1000) :
    Calls Try.prog 30 #[.slice A n c, .slice A2 m c2, .int .i64 r] w (RunSaid (runTo l well r n).1 (runTo l well r n).2 w) := by
  have hln := hl.len
  have hwn : well.length = m := by have := hw.1; simpa using this
  go_enter Try.func30, Try.ntmps30
  go_wp2_with (go_at_call 31; refine (new_c _).mono ?_; rintro e w1 ⟨rfl, hb1⟩)
  have hz1 : w.heap.size + 1 ≤ w1.heap.size := by have := hb1.size; simpa using this
  have hbl1 : Below w.heap.size w w1 := ((Below.refl _ _).alloc (Nat.le_refl _) _).trans (hb1.mono (by simp))
  have hR : In w1 w.heap.size (0, 0) := Mem.Blk.belowS Mem.Blk.new hb1
  clear hb1
  go_loopw [9, 17] (fun vn vi wr => ∃ k : Nat, k ≤ n ∧ vi = .int .i64 k ∧ vn = .int .i64 (runTo l well r k).2 ∧ Below w.heap.size w wr ∧ In wr w.heap.size (0, 0) ∧ In wr w1.heap.size (runTo l well r k).1) (fun _ i _ => n - (intOf i).toNat)
  case atStart => exact ⟨0, Nat.zero_le _, rfl, rfl, hbl1.alloc (by omega) _, hR.alloc, Mem.Blk.new⟩
  case round =>
    obtain ⟨k, hk, rfl, rfl, hbr, hR', hB⟩ := hrel
    obtain ⟨okb, hn0, hnk⟩ := runTo_ok l well r k
    obtain ⟨⟨s, t⟩, hbk⟩ : ∃ b, b = (runTo l well r k).1 := ⟨_, rfl⟩
    rw [← hbk] at hB okb
    have Hbk := Lib.hid hbk
    clear hbk
    obtain ⟨o1, o2, o3, o4⟩ := okb
    simp only at o1 o2 o3 o4
    have hgr := hB.lt
    by_cases hlt : k < n
    · obtain ⟨ad, q, hlk, rfl, hadb, hq, hcq⟩ := (hl.below hbr).at_ hlt
      have hqw : (Lit.int .i64 q).wf = true := by rw [← hq]; exact hlz _ (List.getElem_mem hlk)
      have Hq := Lib.hid hq
      clear hq
      obtain ⟨wb, hwb⟩ : ∃ wb, wb = well.getD k true := ⟨_, rfl⟩
      go_upto_region 5 with fail
      go_cut [12, 13] (fun s12 s13 wx => ∃ g12, s12 = .pointer (some ⟨g12, 0, none⟩) ∧ s13 = .int .i64 (err s q) ∧ w1.heap.size ≠ g12 ∧ Below w.heap.size w wx ∧ In wx w.heap.size (0, 0) ∧ In wx w1.heap.size (s, t) ∧ In wx g12 (step (s, t) q wb r))
      case first =>
        have c0 : wr.cell? ⟨w1.heap.size, 0, none⟩ = some (.int .i64 s) := hB.cell 0
        have c1 : wr.cell? ⟨w1.heap.size, 1, none⟩ = some (.int .i64 t) := hB.cell 1
        by_cases hkm : k < m
        · obtain ⟨ad2, hbl, rfl, had2, hcb⟩ := (hw.below hbr).at_ hkm
          have hcb' : wr.cell? (ad2.add k) = some (.bool wb) := by rw [hcb, hwb]; simp [List.getD_eq_getElem?_getD, List.getElem?_eq_getElem (show k < well.length by omega)]
          have hge : decide (m ≤ k) = false := by simp; omega
          clear hcb hwb
          go_region_held3 (fun w' => w'.cell? ⟨w1.heap.size, 0, none⟩ = some (.int .i64 s) ∧ w'.cell? ⟨w1.heap.size, 1, none⟩ = some (.int .i64 t) ∧ w'.cell? (ad2.add k) = some (.bool wb))
            (refine ⟨?_, ?_, ?_⟩ <;> (repeat' (first | with_reducible exact k0 | with_reducible exact k1 | with_reducible exact k2 | with_reducible exact c0 | with_reducible exact c1 | with_reducible exact hcb' | with_reducible refine Mem.keep_alloc ?_ | with_reducible refine Mem.keep_set ?_ ?_ | with_reducible refine Mem.keep_drew ?_ | (simp only [Mem.add_block]; omega))))
            ((first
              | (go_at_call 25; refine (do_c s t q r wb (wr.drew.alloc (.cells #[.int .i64 0, .int .i64 0] 33)) (wf_of (by omega) (by omega)) hqw o4).mono ?_; rintro e w2 ⟨rfl, hb2⟩
                 have B2 : In w2 w1.heap.size (s, t) := hB.drew.alloc.belowS hb2
                 have R2 : In w2 w.heap.size (0, 0) := hR'.drew.alloc.belowS hb2
                 have N2 : In w2 wr.heap.size (0, 0) := Mem.Blk.belowS (Mem.Blk.new (w := wr.drew)) hb2
                 have L2 : Below w.heap.size w w2 := (hbr.drew.alloc hbr.size _).trans (hb2.mono (by simp; omega))
                 have z2 : wr.heap.size + 1 ≤ w2.heap.size := by have := hb2.size; simp at this; omega
                 have k0 : w2.cell? ⟨w1.heap.size, 0, none⟩ = some (.int .i64 s) := B2.cell 0
                 have k1 : w2.cell? ⟨w1.heap.size, 1, none⟩ = some (.int .i64 t) := B2.cell 1
                 have k2 : w2.cell? (ad2.add k) = some (.bool wb) := (hb2.cell (by simp [Mem.add_block]; omega)).trans (Mem.keep_alloc hcb')
                 have a0 : w2.cell? ⟨wr.heap.size, 0, none⟩ = some (.int .i64 0) := N2.cell 0
                 have a1 : w2.cell? ⟨wr.heap.size, 1, none⟩ = some (.int .i64 0) := N2.cell 1
                 have af := N2.frozen)
              | (go_at_call 25; refine (do_c s t q r wb wr.drew (wf_of (by omega) (by omega)) hqw o4).mono ?_; rintro e w2 ⟨rfl, hb2⟩
                 have B2 : In w2 w1.heap.size (s, t) := hB.drew.belowS hb2
                 have R2 : In w2 w.heap.size (0, 0) := hR'.drew.belowS hb2
                 have L2 : Below w.heap.size w w2 := hbr.drew.trans (hb2.mono hbr.size)
                 have z2 : wr.heap.size ≤ w2.heap.size := hb2.size
                 have k0 : w2.cell? ⟨w1.heap.size, 0, none⟩ = some (.int .i64 s) := B2.cell 0
                 have k1 : w2.cell? ⟨w1.heap.size, 1, none⟩ = some (.int .i64 t) := B2.cell 1
                 have k2 : w2.cell? (ad2.add k) = some (.bool wb) := (hb2.cell (by simp [Mem.add_block]; omega)).trans hcb')))
          · go_wp2_with fail
            go_meet
            exact ⟨_, rfl, rfl, by omega, L2.alloc (by omega) _, R2.alloc, B2.alloc, Mem.Blk.new⟩
          · go_wp2_with fail
            go_meet
            exact ⟨_, rfl, rfl, by omega, (L2.setCell (by simp; omega) _).setCell (by simp; omega) _, (R2.far (by simp; omega)).far (by simp; omega), (B2.far (by simp; omega)).far (by simp; omega), (N2.set_ 0 _).set_ 1 _⟩
        · have hwb' : wb = true := by rw [hwb]; simp [List.getD_eq_getElem?_getD, List.getElem?_eq_none (show well.length ≤ k by omega)]
          have hge : decide (m ≤ k) = true := by simp; omega
          clear hwb
          subst hwb'
          have hc : ∀ w', Below w.heap.size w w' → True := fun _ _ => trivial
          refine Reg.start (fun w' => Below wr.heap.size wr w') (by kernel_rfl) ?_
          refine Reg.takes (n := 7) (by kernel_rfl) (fun _ _ d _ _ h => by cases d <;> exact h) (Below.refl _ _).drew [0, 1, 2, 3, 4, 5, 6, 7, 8, 9, 10, 11, 12] _ _ (by kernel_rfl) ?_
          repeat (refine Reg.det_step rfl (fun K' hK' => ?_); go_simp; (first | (refine hK' _ ?_; clear hK' K') | (apply Exists.intro; refine ⟨fun wx hwx => ?_, hK' _ ?_⟩; (first | rfl | (have e0 := (hwx.cell (p := ⟨w1.heap.size, 0, none⟩) hgr).trans c0; have e1 := (hwx.cell (p := ⟨w1.heap.size, 1, none⟩) hgr).trans c1; go_simp; first | done | rfl)); clear hK' K')))
          refine Reg.det_nil ?_
          refine Reg.two (i := 13) (j := 17) (n := 6) (by kernel_rfl) ?_ ?_
          · refine Reg.call rfl rfl (by go_simp; exact ⟨rfl, rfl⟩) ?_
            refine (do_c s t q r true wr.drew (wf_of (by omega) (by omega)) hqw o4).mono ?_
            rintro e w2 ⟨rfl, hb2⟩
            have B2 : In w2 w1.heap.size (s, t) := hB.drew.belowS hb2
            have R2 : In w2 w.heap.size (0, 0) := hR'.drew.belowS hb2
            have L2 : Below w.heap.size w w2 := hbr.drew.trans (hb2.mono hbr.size)
            have z2 : wr.heap.size ≤ w2.heap.size := hb2.size
            have S2 : Below wr.heap.size wr w2 := (Below.refl _ _).drew.trans hb2
            refine ⟨_, rfl, S2, ?_⟩
            refine Reg.takes (n := 3) (by kernel_rfl) (fun _ _ d _ _ h => by cases d <;> exact h) S2 [14, 15, 16] _ _ (by kernel_rfl) ?_
            repeat (refine Reg.det_step rfl (fun K' hK' => ?_); go_simp; (first | (refine hK' _ ?_; clear hK' K') | (apply Exists.intro; refine ⟨fun wx hwx => ?_, hK' _ ?_⟩; (first | rfl | (go_simp; first | done | rfl)); clear hK' K')))
            refine Reg.det_nil ?_
            refine Reg.one (i := 17) (n := 2) (by kernel_rfl) ?_
            refine Reg.val rfl rfl (v := .pointer (some ⟨w2.heap.size, 0, none⟩)) (w' := w2.alloc (.cells #[.int .i64 0, .int .i64 0] 33)) (by go_simp) (S2.alloc z2 _) ?_
            refine Reg.one (i := 18) (n := 1) (by kernel_rfl) ?_
            refine Reg.skip rfl rfl (w' := w2.alloc (.cells #[.int .i64 (step (s, t) q true r).1, .int .i64 (step (s, t) q true r).2] 33)) (by go_simp) (S2.alloc z2 _) ?_
            refine Reg.takes (n := 0) (by kernel_rfl) (fun _ _ d _ _ h => by cases d <;> exact h) (S2.alloc z2 _) [19] _ _ (by kernel_rfl) ?_
            repeat (refine Reg.det_step rfl (fun K' hK' => ?_); go_simp; (first | (refine hK' _ ?_; clear hK' K') | (apply Exists.intro; refine ⟨fun wx hwx => ?_, hK' _ ?_⟩; (first | rfl | (go_simp; first | done | rfl)); clear hK' K')))
            refine Reg.det_nil ?_
            refine wpAnyH_done (by kernel_rfl) ?_ _
            go_wp2_with fail
            go_meet
            exact ⟨_, rfl, rfl, by omega, L2.alloc (by omega) _, R2.alloc, B2.alloc, Mem.Blk.new⟩
          · refine Reg.val rfl rfl (v := .pointer (some ⟨wr.heap.size, 0, none⟩)) (w' := wr.drew.alloc (.cells #[.int .i64 0, .int .i64 0] 33)) (by go_simp) ((Below.refl _ _).drew.alloc (Nat.le_refl _) _) ?_
            refine Reg.one (i := 13) (n := 5) (by kernel_rfl) ?_
            refine Reg.call rfl rfl (by go_simp; exact ⟨rfl, rfl⟩) ?_
            refine (do_c s t q r true (wr.drew.alloc (.cells #[.int .i64 0, .int .i64 0] 33)) (wf_of (by omega) (by omega)) hqw o4).mono ?_
            rintro e w2 ⟨rfl, hb2⟩
            have B2 : In w2 w1.heap.size (s, t) := hB.drew.alloc.belowS hb2
            have R2 : In w2 w.heap.size (0, 0) := hR'.drew.alloc.belowS hb2
            have N2 : In w2 wr.heap.size (0, 0) := Mem.Blk.belowS (Mem.Blk.new (w := wr.drew)) hb2
            have L2 : Below w.heap.size w w2 := (hbr.drew.alloc hbr.size _).trans (hb2.mono (by simp; omega))
            have z2 : wr.heap.size + 1 ≤ w2.heap.size := by have := hb2.size; simp at this; omega
            have S2 : Below wr.heap.size wr w2 := ((Below.refl _ _).drew.alloc (Nat.le_refl _) _).trans (hb2.mono (by simp))
            have a0 : w2.cell? ⟨wr.heap.size, 0, none⟩ = some (.int .i64 0) := N2.cell 0
            have a1 : w2.cell? ⟨wr.heap.size, 1, none⟩ = some (.int .i64 0) := N2.cell 1
            have af := N2.frozen
            refine ⟨_, rfl, S2, ?_⟩
            refine Reg.takes (n := 2) (by kernel_rfl) (fun _ _ d _ _ h => by cases d <;> exact h) S2 [14, 15, 16] _ _ (by kernel_rfl) ?_
            repeat (refine Reg.det_step rfl (fun K' hK' => ?_); go_simp; (first | (refine hK' _ ?_; clear hK' K') | (apply Exists.intro; refine ⟨fun wx hwx => ?_, hK' _ ?_⟩; (first | rfl | (go_simp; first | done | rfl)); clear hK' K')))
            refine Reg.det_nil ?_
            refine Reg.one (i := 18) (n := 1) (by kernel_rfl) ?_
            refine Reg.skip rfl rfl (w' := (w2.setCell ⟨wr.heap.size, 0, none⟩ (.int .i64 (step (s, t) q true r).1)).setCell ⟨wr.heap.size, 1, none⟩ (.int .i64 (step (s, t) q true r).2)) (by go_simp) ((S2.setCell (Nat.le_refl _) _).setCell (Nat.le_refl _) _) ?_
            refine Reg.takes (n := 0) (by kernel_rfl) (fun _ _ d _ _ h => by cases d <;> exact h) ((S2.setCell (p := ⟨wr.heap.size, 0, none⟩) (Nat.le_refl _) _).setCell (p := ⟨wr.heap.size, 1, none⟩) (Nat.le_refl _) _) [19] _ _ (by kernel_rfl) ?_
            repeat (refine Reg.det_step rfl (fun K' hK' => ?_); go_simp; (first | (refine hK' _ ?_; clear hK' K') | (apply Exists.intro; refine ⟨fun wx hwx => ?_, hK' _ ?_⟩; (first | rfl | (go_simp; first | done | rfl)); clear hK' K')))
            refine Reg.det_nil ?_
            refine wpAnyH_done (by kernel_rfl) ?_ _
            go_wp2_with fail
            go_meet
            exact ⟨_, rfl, rfl, by omega, (L2.setCell (by simp; omega) _).setCell (by simp; omega) _, (R2.far (by simp; omega)).far (by simp; omega), (B2.far (by simp; omega)).far (by simp; omega), (N2.set_ 0 _).set_ 1 _⟩
      case rest =>
        obtain ⟨g12, rfl, rfl, hne, L2, R2, B2, N2⟩ := hcut
        have Hfin : Hid ((runTo l well r (k + 1)).1 = step (s, t) q wb r ∧ (runTo l well r (k + 1)).2 = (runTo l well r k).2 + if nxt s q = 0 then 0 else 1) := by
          have e1 : l.getD k 0 = q := by rw [← Hq.out]; simp [List.getD_eq_getElem?_getD, List.getElem?_eq_getElem hlk]
          show _ ∧ _
          rw [runTo, e1, ← hwb, ← Hbk.out]
          exact ⟨rfl, rfl⟩
        have x0 : wc.cell? ⟨g12, 0, none⟩ = some (.int .i64 (step (s, t) q wb r).1) := N2.cell 0
        have x1 : wc.cell? ⟨g12, 1, none⟩ = some (.int .i64 (step (s, t) q wb r).2) := N2.cell 1
        have y0 : wc.cell? ⟨w1.heap.size, 0, none⟩ = some (.int .i64 s) := B2.cell 0
        have y1 : wc.cell? ⟨w1.heap.size, 1, none⟩ = some (.int .i64 t) := B2.cell 1
        have yf := B2.frozen
        have Hwb := Lib.hid hwb
        clear hwb
        by_cases h0 : nxt s q = 0
        · have he : (err s q == 0) = false := by unfold err; rw [if_pos h0]; rfl
          have h0' := Lib.hid h0
          clear h0
          go_wp2
          go_roundw
          case rel => exact ⟨k + 1, by omega, by go_num, by rw [Hfin.out.2, if_pos h0'.out]; simp, (L2.setCell (by simp; omega) _).setCell (by simp; omega) _, (R2.far (by simp; omega)).far (by simp; omega), by rw [Hfin.out.1]; exact (B2.set_ 0 _).set_ 1 _⟩
          case measure => simp [intOf]; omega
        · have he : (err s q == 0) = true := by unfold err; rw [if_neg h0]; rfl
          have h0' := Lib.hid h0
          clear h0
          go_wp2
          go_roundw
          case rel => exact ⟨k + 1, by omega, by go_num, by rw [Hfin.out.2, if_neg h0'.out], (L2.setCell (by simp; omega) _).setCell (by simp; omega) _, (R2.far (by simp; omega)).far (by simp; omega), by rw [Hfin.out.1]; exact (B2.set_ 0 _).set_ 1 _⟩
          case measure => simp [intOf]; omega
    · obtain rfl : k = n := by omega
      have y0 : wr.cell? ⟨w1.heap.size, 0, none⟩ = some (.int .i64 s) := hB.cell 0
      have y1 : wr.cell? ⟨w1.heap.size, 1, none⟩ = some (.int .i64 t) := hB.cell 1
      have z0 : wr.cell? ⟨w.heap.size, 0, none⟩ = some (.int .i64 0) := hR'.cell 0
      have z1 : wr.cell? ⟨w.heap.size, 1, none⟩ = some (.int .i64 0) := hR'.cell 1
      have zf := hR'.frozen
      go_wp2
      refine bodyPost_ret (v := .tuple #[.agg #[.int .i64 s, .int .i64 t], .int .i64 (runTo l well r k).2]) (by simp [results, Try.results30, go_sem, z0, z1]) rfl ⟨by rw [← Hbk.out], ?_⟩
      exact (hbr.setCell (by simp) _).setCell (by simp) _
end Box
end Go.Proofs.Ytfcdmfiblmnbkaa
