/- DiskKeeps: the walk. -/
import Derived.Test.YtnaidihoijociaaDkP
namespace Go.Proofs.Ytnaidihoijociaa.diskKeeps
open Go.RowKit Go.Maps Dk Bs
open Crc (Byte)
set_option maxRecDepth 100000 in
set_option maxHeartbeats 8000000 in
theorem core (A : Option Addr) (n c : Nat) (ps : List OpV) (w : World) (h : Ops w A n c ps) :
    Calls Try.prog 3 #[.slice A n c] w fun e w' => e = .returned (.bool true) ∧ Below w.heap.size w w' := by
  have hmx := h.le
  have H := Lib.hid h
  clear h
  unfold maxLen at hmx
  go_enter Try.func3, Try.ntmps3
  go_wp2_with fail
  refine (awake_c _).mono ?_
  rintro e w1 ⟨rfl, hb1⟩
  have HF := Lib.hid (few_c A n c ps w1 (H.out.sl.below hb1 |>.more hb1.size) H.out.ok (Nat.le_trans H.out.le.1 H.out.le.2))
  go_wp2_with fail
  refine HF.out.mono ?_
  rintro e wf ⟨b, rfl, hf, hwf⟩
  subst hwf
  clear HF
  cases b with
  | false =>
    go_wp2_with fail
    refine (awake_c _).mono ?_
    rintro e w2 ⟨rfl, hb2⟩
    go_wp2_with fail
    go_ret
    exact ⟨rfl, hb1.trans (hb2.mono hb1.size)⟩
  | true =>
  obtain ⟨hn50, hsm⟩ := hf rfl
  have HOK : Hid (∀ p ∈ ps, p.ok ∧ Small p) := Lib.hid fun p hp => ⟨H.out.ok p hp, hsm p hp⟩
  clear hf hsm
  go_wp2_with fail
  refine ((Fm.start hb1).news (j := 1) rfl (by decide)).mono ?_
  rintro e w2 ⟨g1, col2, rfl, -, hF2, -⟩
  have F2 := Lib.hid hF2
  clear hF2 hb1
  go_wp2_with fail
  refine (F2.out.news (j := 2) rfl (by decide)).mono ?_
  rintro e w3 ⟨g2, col3, rfl, -, hF3, -⟩
  have F3 : Hid (∃ col, Fm w w3 col (two g1 g2 (sK ps 0) (sK ps 0))) := Lib.hid ⟨_, hF3⟩
  clear hF3 F2
  go_wp2_with fail
  go_loopw [5] (fun vi wr => ∃ k : Nat, k ≤ n ∧ vi = .int .i64 k ∧ Hid (∃ col, Fm w wr col (two g1 g2 (sK ps k) (sK ps k)))) (fun i _ => n - (intOf i).toNat)
  case atStart => exact ⟨0, by omega, rfl, F3⟩
  case round =>
    clear F3
    obtain ⟨k, hk, rfl, HFk⟩ := hrel
    by_cases hlt : k < n
    · obtain ⟨ad, hl, rfl, _, hblk, hat⟩ := OpV.at_ H.out.sl hlt
      have hpk := HOK.out ps[k] (List.getElem_mem hl)
      have hHp := H.out.hold ps[k] (List.getElem_mem hl)
      have hnx := sK_next ps hl
      have hfit := sK_fits HOK.out k (by omega)
      have hfit2 := sK_fits HOK.out (k + 1) (by omega)
      have HX : Hid (∀ X, Below w.heap.size w X → OpV.At X (ad.add (k * 4)) ps[k]) := Lib.hid fun X hX => hat.below hX hblk
      clear hat
      generalize ps[k] = p at *
      generalize sK ps k = s at *
      have HNX : Hid (sK ps (k + 1) = doS s (opOf p)) := Lib.hid hnx
      have HFT := Lib.hid hfit
      have HFT2 : Hid (Fits (k + 1) (doS s (opOf p))) := Lib.hid (hnx ▸ hfit2)
      clear hnx hfit hfit2
      obtain ⟨col, hF⟩ := HFk.out
      have F := Lib.hid hF
      have hba := hF.base
      clear hF HFk
      obtain ⟨kd, nm, nt, bs, bA, bn, bc⟩ := p
      have hbn : bn ≤ 200 := hpk.2.2.2
      have hs1 : nm.size ≤ maxLen := hpk.1.name
      have hs2 : nt.size ≤ maxLen := hpk.1.nto
      have HH := Lib.hid (fun (X : World) (hX : Below w.heap.size w X) => hHp.below hX)
      dsimp only at HH
      obtain ⟨A', c', wa, hrun, hBl, hset⟩ := keep_app (v := #[.int .i64 kd, .string nm, .string nt, .slice bA bn bc]) (t := 29) (ty := 27) (bc := bc) (HH.out wr hba).sl (by omega)
      obtain ⟨hb3, hR3, hL3⟩ := hset 3 (.slice A' bn c') col
      have hBl3 := hL3.blk
      have zr := hba.size
      have hblr : (ad.add (k * 4)).block < wr.heap.size := Nat.lt_of_lt_of_le hblk zr
      have HB3 := Lib.hid hb3
      have HL3 := Lib.hid hL3
      have n3 := hBl.cell 3
      have n4 := hBl.frozen 3
      have hBl0 := hBl
      clear hset hb3 hL3 hpk hHp
      obtain ⟨c0, c1, c2, c3⟩ := HX.out wr hba
      dsimp only at c0 c1 c2 c3
      obtain ⟨⟨x0, x1⟩, ⟨x2, x3⟩⟩ := And.intro (And.intro (hBl3.cell 0) (hBl3.cell 1)) (And.intro (hBl3.cell 2) (hBl3.cell 3))
      go_wp2_with (at_builtin; refine Ro.wpList_app rfl _ _ _ _ rfl _ _ rfl rfl hrun ?_)
      clear x0 x1 x2 x3 c0 c1 c2 c3 n3 n4 hBl hBl0 hrun hBl3
      have HR3 := Lib.hid (Hold.of_row (C := fun _ => True) hR3 (fun _ _ => trivial))
      generalize wa.setCell { block := wr.heap.size, off := 3 } (Value.slice A' bn c') = ws at *
      have FA := Lib.hid (F.out.below HB3.out (fun _ => 9))
      have D1 := Lib.hid ((FA.out.does (kind := kd) (name := nm) (nto := nt) (two_1 _ _ _ _) HFT.out (by omega) HR3.out hs1 hs2 (by omega)).mono (R' := fun e w' => (∃ E, e = .returned (.int .i64 E)) ∧ After w ws _ _ 1 g1 (doS s ⟨kd, nm, nt, bs⟩) w') (fun e w' p => ⟨⟨_, p.1⟩, p.2⟩))
      clear hR3
      refine D1.out.mono ?_
      rintro e w4 ⟨⟨E1, rfl⟩, col4, ha4, hF4, ho4⟩
      rw [up_1] at hF4
      have F4 := Lib.hid hF4
      have L4 := Lib.hid (HL3.out.after (by decide) ha4 ho4)
      clear D1 FA F hF4 ha4 ho4 HL3 HR3 HB3
      obtain ⟨c0, c1, c2, c3⟩ := HX.out w4 F4.out.base
      dsimp only at c0 c1 c2 c3
      have D2 := Lib.hid ((F4.out.does (kind := kd) (name := nm) (nto := nt) (two_2 _ _ _ _) HFT.out (by omega) (HH.out w4 F4.out.base) hs1 hs2 (by omega)).mono (R' := fun e w' => (∃ E, e = .returned (.int .i64 E)) ∧ After w w4 _ _ 2 g2 (doS s ⟨kd, nm, nt, bs⟩) w') (fun e w' p => ⟨⟨_, p.1⟩, p.2⟩))
      go_wp2_with fail
      refine D2.out.mono ?_
      rintro e w5 ⟨⟨E2, rfl⟩, col5, ha5, hF5, ho5⟩
      rw [up_2] at hF5
      have F5 := Lib.hid hF5
      have L5 := Lib.hid (L4.out.after (by decide) ha5 ho5)
      clear D2 F4 hF5 ha5 ho5 L4 c0 c1 c2 c3 zr hblr hba
      generalize wr.heap.size = o at *
      go_wp2_with fail
      go_loopw [7] (fun vi wy => ∃ m : Nat, m ≤ bn ∧ vi = .int .i64 m ∧ Hid (Fm w wy col5 (two g1 g2 (doS s ⟨kd, nm, nt, bs⟩) (doS s ⟨kd, nm, nt, bs⟩))) ∧ Hid (Law9 wy col5 A' bn c' o 29 (#[.int .i64 kd, .string nm, .string nt, .slice bA bn bc].setIfInBounds 3 (.slice A' bn c')))) (fun i _ => bn - (intOf i).toNat)
      case atStart => exact ⟨0, by omega, rfl, F5, L5⟩
      case round =>
        clear F5 L5
        obtain ⟨m, hm, rfl, F6, L6⟩ := hrel
        have HBk := Lib.hid L6.out.blk
        have x3 := L6.out.blk.cell 3
        by_cases hml : m < bn
        · obtain ⟨g, off, b, rfl, hc1, hfz, hog, hcg, hT⟩ := L6.out.turn hml
          have f1 := x255 b
          have HT := Lib.hid (hT (b ^^^ 255#8)).2
          have HF7 := Lib.hid (fun (u : Value) => F6.out.turnD (off := off + m) (u := u) hcg (two_9 _ _ _ _))
          have HOG := Lib.hid hog
          have HO := Lib.hid HBk.out.lt
          clear hT hcg L6 F6
          generalize n8 b = X at *
          generalize n8 (b ^^^ 255#8) = Y9 at *
          go_wp2_with fail
          clear x3
          obtain ⟨Y2, rfl⟩ : ∃ x, x = wr := ⟨_, rfl⟩
          refine Reg.start (S := fun w' => Ro.Only (fun b => b = g) Y2 w') (by kernel_rfl) ?_
          refine Reg.takes (n := 4) (by kernel_rfl) (fun _ _ d _ _ h => by cases d <;> exact h) (Ro.Only.refl _ _).drew [0, 1, 2, 3, 4, 5, 6] _ _ (by kernel_rfl) ?_
          iterate 7 (refine Reg.det_step rfl (fun K' hK' => ?_); go_simp; (first | (refine hK' _ ?_; clear hK' K') | (apply Exists.intro; refine ⟨fun wx hwx => ?_, hK' _ ?_⟩; (first | rfl | (have x3 := Mem.Blk.cell (show Mem.Blk wx o _ _ from (hwx.block o HO.out HOG.out).trans HBk.out) 3; go_simp; first | done | rfl)); clear hK' K')))
          refine Reg.det_nil ?_
          refine Reg.one (i := 7) (n := 3) (by kernel_rfl) ?_
          refine Reg.val rfl rfl (v := .int .u8 X) (w' := Y2.drew) (by go_simp) (Ro.Only.refl _ _).drew ?_
          refine Reg.takes (n := 1) (by kernel_rfl) (fun _ _ d _ _ h => by cases d <;> exact h) (Ro.Only.refl _ _).drew [8, 9] _ _ (by kernel_rfl) ?_
          iterate 2 (refine Reg.det_step rfl (fun K' hK' => ?_); go_simp; (first | (refine hK' _ ?_; clear hK' K') | (apply Exists.intro; refine ⟨fun wx hwx => ?_, hK' _ ?_⟩; (first | rfl | (have x3 := Mem.Blk.cell (show Mem.Blk wx o _ _ from (hwx.block o HO.out HOG.out).trans HBk.out) 3; go_simp; first | done | rfl)); clear hK' K')))
          refine Reg.det_nil ?_
          refine Reg.one (i := 10) (n := 0) (by kernel_rfl) ?_
          refine Reg.skip rfl rfl (w' := Y2.drew.setCell ⟨g, off + m, none⟩ (.int .u8 Y9)) (by go_simp) ((Ro.Only.refl _ _).drew.trans (Ro.Only.setCell _ _ _) (fun _ _ e => e)) ?_
          refine wpAnyH_done (by kernel_rfl) ?_ _
          clear hc1 hfz
          go_wp2_with fail
          go_roundw
          case rel => exact ⟨m + 1, by omega, by go_num, HF7.out _, HT.out⟩
          case measure => simp [intOf]; omega
        · obtain rfl : m = bn := by omega
          have HFz : Hid (∃ col, Fm w wr col (two g1 g2 (sK ps (k + 1)) (sK ps (k + 1)))) := Lib.hid (by rw [HNX.out]; exact ⟨_, F6.out⟩)
          clear F6 L6 HBk
          go_wp2_with fail
          go_roundw
          case rel => exact ⟨k + 1, by omega, by go_num, HFz⟩
          case measure => simp [intOf]; omega
    · obtain rfl : k = n := by omega
      have HFT := Lib.hid (sK_fits HOK.out k (by rw [H.out.len]; exact Nat.le_refl _))
      generalize sK ps k = s at *
      have hL1 : (Dk.look s).length ≤ 1000 := by have := (HFT.out.look).len; simp at this; omega
      obtain ⟨col, hF⟩ := HFk.out
      have F := Lib.hid hF
      have HNm := Lib.hid (hF.names (two_1 _ _ _ _) HFT.out (by omega))
      clear hF HFk
      go_wp2_with fail
      refine HNm.out.mono ?_
      intro e w6 hN6
      obtain ⟨AN, cN, rfl, hb6, hN6⟩ := names9 (col := col) hN6 HFT.out
      have F6 : Hid (∃ col, Fm w w6 col (two g1 g2 s s) ∧ Nms w6 col AN (Dk.look s).length cN) := Lib.hid ⟨_, F.out.below hb6 _, hN6⟩
      clear hb6 hN6 F HNm
      generalize hL : (Dk.look s).length = L at *
      go_wp2_with fail
      go_loopw [9] (fun vi wy => ∃ i : Nat, i ≤ L ∧ vi = .int .i64 i ∧ Hid (∃ col, Fm w wy col (two g1 g2 s s) ∧ Nms wy col AN L cN)) (fun i _ => L - (intOf i).toNat)
      case atStart => exact ⟨0, by omega, rfl, F6⟩
      case round =>
        clear F6
        obtain ⟨i, hi, rfl, HF7⟩ := hrel
        obtain ⟨col7, hF7, hN7⟩ := HF7.out
        have F7 := Lib.hid hF7
        have N7 := Lib.hid hN7
        clear HF7 hF7 hN7
        by_cases hil : i < L
        · obtain ⟨gN, oN, nm, rfl, hnm, hcN, hfN, -, -⟩ := N7.out.at_ hil
          have HRd := Lib.hid (F7.out.read (name := nm) (two_1 _ _ _ _) HFT.out (by omega) hnm)
          clear hfN
          go_wp2_with fail
          refine HRd.out.mono ?_
          intro e w8 hR8
          obtain ⟨AB, nB, cB, EB, rfl, hnB, hb8, hB8⟩ := read9 hR8 N7.out
          have F8 := Lib.hid (F7.out.below hb8 (fun _ => 9))
          have B8 := Lib.hid hB8
          obtain ⟨col8, hcol8⟩ : ∃ x, x = (fun k => if k < wr.heap.size then col7 k else 9) := ⟨_, rfl⟩
          rw [← hcol8] at F8 B8
          unfold maxLen at hnB
          clear hcol8 hb8 hB8 hR8 HRd F7 N7 hcN hnm
          go_wp2_with fail
          go_loopw [12] (fun vi wy => ∃ m : Nat, m ≤ nB ∧ vi = .int .i64 m ∧ Hid (Fm w wy col8 (two g1 g2 s s)) ∧ Hid (Byn wy col8 AB nB cB (some ⟨gN, oN, none⟩) L cN)) (fun i _ => nB - (intOf i).toNat)
          case atStart => exact ⟨0, by omega, rfl, F8, B8⟩
          case round =>
            clear F8 B8
            obtain ⟨m, hm, rfl, F9, B9⟩ := hrel
            by_cases hml : m < nB
            · obtain ⟨g, off, b, rfl, hc1, hfz, hcg, hT⟩ := B9.out.turn hml
              have f1 := x255 b
              have HT := Lib.hid (hT (b ^^^ 255#8))
              have HF9 := Lib.hid (fun (u : Value) => F9.out.turn (off := off + m) (u := u) hcg (two_9 _ _ _ _))
              clear hT hcg F9 B9
              generalize n8 b = X at *
              generalize n8 (b ^^^ 255#8) = Y9 at *
              go_wp2_with fail
              go_roundw
              case rel => exact ⟨m + 1, by omega, by go_num, HF9.out _, HT.out⟩
              case measure => simp [intOf]; omega
            · obtain rfl : m = nB := by omega
              obtain ⟨gN', oN', nm', hA, -, hcN, hfN, hcg, hT⟩ := B9.out.nms.at_ hil
              cases hA
              have HT := Lib.hid hT
              have HF9 := Lib.hid (fun (u : Value) => F9.out.turn (off := oN + i) (u := u) hcg (two_9 _ _ _ _))
              clear hT hcg F9 B9
              go_wp2_with fail
              go_roundw
              case rel => exact ⟨i + 1, by omega, by go_num, _, HF9.out _, HT.out⟩
              case measure => simp [intOf]; omega
        · obtain rfl : i = L := by omega
          have HAl := Lib.hid (alike_c (F7.out.at_ 1 _ _ (two_1 _ _ _ _)) (F7.out.at_ 2 _ _ (two_2 _ _ _ _)) HFT.out HFT.out (by omega) (by omega) rfl)
          have HBz := Lib.hid F7.out.base
          clear F7 N7
          go_wp2_with fail
          refine HAl.out.mono ?_
          rintro e w' ⟨rfl, hbz⟩
          have HBy := Lib.hid (HBz.out.trans (hbz.mono HBz.out.size))
          clear hbz HAl HBz
          go_wp2_with fail
          go_ret
          exact ⟨rfl, HBy.out⟩
theorem walk (v1 : Value) (w : World) (h1 : Frame.Arg Try.prog w 22 v1) :
    Calls Try.prog 3 #[v1] w fun e w' => e = .returned (.bool true) ∧ Below w.heap.size w w' := by
  obtain ⟨A, n, c, ps, rfl, h⟩ := arg_ops h1
  exact core A n c ps w h
end Go.Proofs.Ytnaidihoijociaa.diskKeeps
