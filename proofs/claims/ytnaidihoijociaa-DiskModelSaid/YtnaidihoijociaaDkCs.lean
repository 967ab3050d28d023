/- The document's layer 10: Crash, the walk. -/
import Derived.Test.YtnaidihoijociaaDkCr
namespace Go.Proofs.Ytnaidihoijociaa
open Go.RowKit Go.Maps
namespace Dk
open Bs
open Crc (Byte)
set_option maxRecDepth 100000 in
set_option maxHeartbeats 8000000 in
theorem rcrash_c {w : World} {C : Nat → Prop} {A AO KA : Option Addr} {n c m cO kn kc : Nat} {l : List FlV} {qs : List OpV} {keep : List Int} (h : Fr w C A n c l) (hr : Rise (fls2 l)) (hn : n ≤ 1000) (ho : Mem.Sl w w.heap.size 4 AO m (OpV.flat qs)) (hq : ∀ q ∈ qs, ROp w q) (hm : m ≤ 1000) (hK : Mem.Ints w w.heap.size .i64 KA kn keep) (hkn : kn ≤ 100000) (hkz : ∀ z ∈ keep, z ≤ 9223372036854775807) :
    Calls Try.prog 26 #[.slice A n c, .slice AO m cO, .slice KA kn kc] w (DoSaid w C (crashF (fls2 l) (qs.map opOf) keep) (n + m)) := by
  have hql : qs.length = m := by have := ho.1; rw [OpV.flat_len] at this; omega
  have HO := Lib.hid ho
  have HK := Lib.hid hK
  have HQ := Lib.hid hq
  have HKz := Lib.hid hkz
  have HQl := Lib.hid hql
  have HI : Hid (Fr w (ext w C) A n c l ∧ fls2 l = crashTo (fls2 l) (qs.map opOf) keep 0 ∧ Below w.heap.size w w) := Lib.hid ⟨h.mono (fun k _ q _ => q), rfl, Below.refl _ _⟩
  have HR := Lib.hid hr
  generalize hF0 : fls2 l = F0 at *
  have HF0 := Lib.hid hF0
  clear h ho hq hr hql hF0 hK hkz
  go_enter Try.func26, Try.ntmps26
  go_wp2_with fail
  go_loopw [0, 7] (fun vl vi wr => ∃ (k n' c' : Nat) (A' : Option Addr), k ≤ m ∧ k ≤ kn ∧ vi = .int .i64 k ∧ vl = .slice A' n' c' ∧ n' ≤ n + k ∧ Hid (∃ l', Fr wr (ext w C) A' n' c' l' ∧ fls2 l' = crashTo F0 (qs.map opOf) keep k ∧ Below w.heap.size w wr)) (fun _ i _ => m - (intOf i).toNat)
  case atStart => exact ⟨0, n, c, A, by omega, by omega, rfl, rfl, by omega, l, by have h9 := HI.out; have h8 := HF0.out; rw [h8]; exact h9⟩
  case round =>
    clear HI
    obtain ⟨k, n', c', A', hk, hk2, rfl, rfl, hn', HL⟩ := hrel
    obtain ⟨l', hF, he, hb⟩ := HL.out
    by_cases hlt : k < m ∧ k < kn
    · obtain ⟨hlt1, hlt2⟩ := hlt
      obtain ⟨ad, hlk, rfl, hblk0, hblk, hat⟩ := OpV.at_ HO.out hlt1
      obtain ⟨adK, z, hlz, rfl, hbK, hzz, hzc⟩ := Mem.Ints.at_ HK.out hlt2
      have hzk := HKz.out keep[k] (List.getElem_mem hlz)
      have hq := HQ.out qs[k] (List.getElem_mem hlk)
      have hst : crashTo F0 (qs.map opOf) keep (k + 1) = crash1 (fls2 l') (opOf qs[k]) keep[k] := by
        rw [crashTo_step (by simpa using hlk) hlz, he, List.getElem_map]
      have hrl : Rise (fls2 l') := by rw [he]; exact rise_crashTo HR.out _ _ _
      have HZ : Hid (∀ X, Below w.heap.size w X → X.cell? (adK.add k) = some (.int .i64 z)) := Lib.hid fun X hX => by
        obtain ⟨ad', z', _, e, hb', hz', hc'⟩ := Mem.Ints.at_ (HK.out.below hX) hlt2
        cases e
        rw [hc', ← hz', hzz]
      rw [hzz] at hst hzk
      have HB := Lib.hid hb
      have hat := hat.below hb hblk
      generalize qs[k] = p at *
      obtain ⟨kd, nm, nt, bs, bA, bn, bc⟩ := p
      obtain ⟨c0, c1, c2, c3⟩ := hat
      dsimp only at c0 c1 c2 c3
      have zc := HZ.out wr hb
      have zc2 := HZ.out (wr.alloc (.cells #[.int .i64 kd, .string nm, .string nt, .slice bA bn bc] 29)) (hb.alloc hb.size _)
      have HFr := Lib.hid hF
      have HRl := Lib.hid hrl
      have HSt : Hid (crashTo F0 (qs.map opOf) keep (k + 1) = crash1 (fls2 l') ⟨kd, nm, nt, bs⟩ z) := Lib.hid hst
      have HQk := Lib.hid hq
      clear hst hF he hb HL hlk hblk0 hblk hzz hlz hbK hzc hrl hq
      by_cases hz0 : z = 0
      · subst hz0
        have HN : Hid (∃ l', Fr (wr.alloc (.cells #[.int .i64 kd, .string nm, .string nt, .slice bA bn bc] 29)) (ext w C) A' n' c' l' ∧ fls2 l' = crashTo F0 (qs.map opOf) keep (k + 1) ∧ Below w.heap.size w (wr.alloc (.cells #[.int .i64 kd, .string nm, .string nt, .slice bA bn bc] 29))) := Lib.hid ⟨l', HFr.out.below ((Below.refl _ _).alloc (Nat.le_refl _) _), by rw [HSt.out, crash1_zero], HB.out.alloc HB.out.size _⟩
        clear HFr HRl HSt HQk HB
        go_wp2_with fail
        go_roundw
        case rel => exact ⟨k + 1, n', c', A', by omega, by omega, by go_num, rfl, by omega, HN⟩
        case measure => simp [intOf]; omega
      · have hz0' : (z == 0) = false := beq_eq_false_iff_ne.2 hz0
        obtain ⟨C0, hH⟩ := HQk.out.hold
        have hbl : bs.length = bn := hH.len
        have HDo : Hid (∀ X, Below wr.heap.size wr X → Calls Try.prog 44 #[.slice A' n' c', .agg #[.int .i64 kd, .string nm, .string nt, .slice bA bn bc]] X (DoSaid X (ext w C) (app1 (fls2 l') ⟨kd, nm, nt, bs⟩) (n' + 1))) := Lib.hid fun X hX => rdo_c HQk.out.kind (HFr.out.below hX) HRl.out (by omega) ((hH.below HB.out).below hX) HQk.out.n HQk.out.name HQk.out.nto
        have HNx : Hid (∀ w2 A2 cc2 l2, Below w.heap.size w w2 → Fr w2 (ext w C) A2 l2.length cc2 l2 → fls2 l2 = crashTo F0 (qs.map opOf) keep (k + 1) → ∃ l', Fr w2 (ext w C) A2 l2.length cc2 l' ∧ fls2 l' = crashTo F0 (qs.map opOf) keep (k + 1) ∧ Below w.heap.size w w2) := Lib.hid fun w2 A2 cc2 l2 a b c => ⟨l2, b, c, a⟩
        by_cases hcut : kd = 1 ∧ 1 ≤ z ∧ z ≤ bs.length
        · obtain ⟨rfl, hz1, hz4⟩ := hcut
          obtain ⟨q, hq⟩ : ∃ q : Nat, z = (q : Int) + 1 := ⟨(z - 1).toNat, by omega⟩
          have hqn : q ≤ bn := by omega
          have hq2 : (z - 1).toNat = q := by omega
          have hw : IntKind.i64.wrap (z - 1) = (q : Int) := by unfold IntKind.wrap; simp [IntKind.bits, IntKind.signed]; omega
          have HW : Hid (crashTo F0 (qs.map opOf) keep (k + 1) = app1 (fls2 l') ⟨1, nm, nt, bs.take q⟩) := Lib.hid (by rw [HSt.out, crash1_cut hz1 hz4, hq2])
          have hbc : bn ≤ bc := hH.le.1
          have hqc : q ≤ bc := by omega
          have hbn9 : bn ≤ 100000 := HQk.out.n
          have hz2 : 0 < z := by omega
          have hz3 : z ≤ bn := by omega
          have HDc : Hid (∀ X, Below wr.heap.size wr X → Calls Try.prog 44 #[.slice A' n' c', .agg #[.int .i64 1, .string nm, .string nt, .slice bA q bc]] X (DoSaid X (ext w C) (app1 (fls2 l') ⟨1, nm, nt, bs.take q⟩) (n' + 1))) := Lib.hid fun X hX => rdo_c (.inl rfl) (HFr.out.below hX) HRl.out (by omega) (((hH.cut hqn).below HB.out).below hX) (by omega) HQk.out.name HQk.out.nto
          clear HDo HSt HQk HFr HRl hH hq hq2 hz1 hz4
          go_wp2_with fail
          obtain ⟨Y, hY9⟩ : ∃ x, x = wr.alloc (.cells #[.int .i64 1, .string nm, .string nt, .slice bA bn bc] 29) := ⟨_, rfl⟩
          have HY : Hid (Below w.heap.size w Y) := Lib.hid (by rw [hY9]; exact HB.out.trans ((((Below.refl _ _).alloc (Nat.le_refl _) _)).mono HB.out.size))
          have HYr : Hid (Below wr.heap.size wr Y) := Lib.hid (by rw [hY9]; exact ((Below.refl _ _).alloc (Nat.le_refl _) _))
          have HN : Hid (Mem.Blk Y wr.heap.size 29 #[.int .i64 1, .string nm, .string nt, .slice bA bn bc]) := Lib.hid (by rw [hY9]; exact Mem.Blk.new)
          rw [← hY9]
          clear hY9
          refine Reg.start (S := fun w' => Below Y.heap.size Y w') (by kernel_rfl) ?_
          refine Reg.takes (n := 0) (by kernel_rfl) (fun _ _ d _ _ h => by cases d <;> exact h) (Below.refl _ _).drew [0, 1, 2, 3, 4, 5, 6, 7, 8, 9, 10, 11, 12, 13, 14, 15, 16, 17, 18, 19] _ _ (by kernel_rfl) ?_
          iterate 20 (refine Reg.det_step rfl (fun K' hK' => ?_); go_simp; (first | (refine hK' _ ?_; clear hK' K') | (apply Exists.intro; refine ⟨fun wx hwx => ?_, hK' _ ?_⟩; (first | rfl | (have h9 := HY.out.trans (hwx.mono HY.out.size); have z0 := HZ.out wx h9; obtain ⟨x0, x3⟩ := And.intro (Mem.Blk.cell (Mem.Blk.belowS HN.out hwx) 0) (Mem.Blk.cell (Mem.Blk.belowS HN.out hwx) 3); go_simp; first | done | rfl)); clear hK' K')))
          refine Reg.det_nil ?_
          refine wpAnyH_done (by kernel_rfl) ?_ _
          obtain ⟨x0, x3⟩ := And.intro (HN.out.cell 0) (HN.out.cell 3)
          have xf := HN.out.frozen
          go_wp2_with fail
          have S0 : Ro.Only (fun k => k = wr.heap.size) Y Y.drew.drew := (Ro.Only.refl _ _).drew.drew
          have hBz := HB.out.size
          refine Reg.start (S := fun w' => Ro.Only (fun k => k = wr.heap.size) Y w') (by kernel_rfl) ?_
          refine Reg.takes (n := 4) (by kernel_rfl) (fun _ _ d _ _ h => by cases d <;> exact h) S0 [0, 2, 3, 4, 5, 6] _ _ (by kernel_rfl) ?_
          iterate 6 (refine Reg.det_step rfl (fun K' hK' => ?_); go_simp; (first | (refine hK' _ ?_; clear hK' K') | (apply Exists.intro; refine ⟨fun wx hwx => ?_, hK' _ ?_⟩; (first | rfl | (have h9 := HY.out.trans (hwx.below HY.out.size (fun k hk e => by omega)); have z0 := HZ.out wx h9; go_simp; first | done | rfl)); clear hK' K')))
          refine Reg.det_nil ?_
          refine Reg.one (i := 1) (n := 3) (by kernel_rfl) ?_
          refine Reg.val rfl rfl (v := .slice bA bn bc) (w' := Y.drew.drew) (by go_simp) S0 ?_
          refine Reg.takes (n := 1) (by kernel_rfl) (fun _ _ d _ _ h => by cases d <;> exact h) S0 [7, 8] _ _ (by kernel_rfl) ?_
          iterate 2 (refine Reg.det_step rfl (fun K' hK' => ?_); go_simp; (first | (refine hK' _ ?_; clear hK' K') | (apply Exists.intro; refine ⟨fun wx hwx => ?_, hK' _ ?_⟩; (first | rfl | (go_simp; first | done | rfl)); clear hK' K')))
          refine Reg.det_nil ?_
          refine Reg.one (i := 9) (n := 0) (by kernel_rfl) ?_
          refine Reg.skip rfl rfl (w' := Y.drew.drew.setCell ⟨wr.heap.size, 3, none⟩ (.slice bA q bc)) (by go_simp) (S0.trans (Ro.Only.setCell _ _ _) (fun _ _ e => e)) ?_
          refine wpAnyH_done (by kernel_rfl) ?_ _
          have N3 : Mem.Blk (Y.drew.drew.setCell ⟨wr.heap.size, 3, none⟩ (.slice bA q bc)) wr.heap.size 29 #[.int .i64 1, .string nm, .string nt, .slice bA q bc] := HN.out.drew.drew.set_ 3 (.slice bA q bc)
          clear x0 x3 xf
          obtain ⟨⟨x0, x1⟩, ⟨x2, x3⟩⟩ := And.intro (And.intro (N3.cell 0) (N3.cell 1)) (And.intro (N3.cell 2) (N3.cell 3))
          have HYr3 : Hid (Below wr.heap.size wr (Y.drew.drew.setCell ⟨wr.heap.size, 3, none⟩ (.slice bA q bc))) := Lib.hid (HYr.out.drew.drew.setCell (Nat.le_refl _) _)
          have HY3 : Hid (Below w.heap.size w (Y.drew.drew.setCell ⟨wr.heap.size, 3, none⟩ (.slice bA q bc))) := Lib.hid (HY.out.drew.drew.setCell hBz _)
          have HD := Lib.hid (HDc.out _ HYr3.out)
          clear HDc N3 S0 HN HY HYr HB HZ
          generalize Y.drew.drew.setCell ⟨wr.heap.size, 3, none⟩ (.slice bA q bc) = Z at *
          go_wp2_with fail
          refine HD.out.mono ?_
          rintro e w2 ⟨A2, cc2, l2, rfl, hb2, hF2, he2, hl2⟩
          have HN2 := Lib.hid (HNx.out w2 A2 cc2 l2 (HY3.out.trans (hb2.mono HY3.out.size)) (hF2.mono (fun k _ q => ext_ext (w1 := Z) HY3.out.size k q)) (by rw [he2, HW.out]) )
          clear hb2 hF2 he2 HD HNx HYr3 HY3 HW x0 x1 x2 x3
          go_wp2_with fail
          go_roundw
          case rel => exact ⟨k + 1, l2.length, cc2, A2, by omega, by omega, by go_num, rfl, by omega, HN2⟩
          case measure => simp [intOf]; omega
        · have HW : Hid (crashTo F0 (qs.map opOf) keep (k + 1) = app1 (fls2 l') ⟨kd, nm, nt, bs⟩) := Lib.hid (by rw [HSt.out, crash1_whole hz0 hcut])
          clear HSt HQk HFr HRl hH
          by_cases hk1 : kd = 1
          · by_cases hz1 : z < 1
            · have hz2 : (0 < z) = False := eq_false (by omega)
              have hz5 : decide (0 < z) = false := decide_eq_false (by omega)
              clear hcut hz1
              subst hk1
              go_wp2_with fail
              obtain ⟨Y, hY9⟩ : ∃ x, x = wr.alloc (.cells #[.int .i64 1, .string nm, .string nt, .slice bA bn bc] 29) := ⟨_, rfl⟩
              have HY : Hid (Below w.heap.size w Y) := Lib.hid (by rw [hY9]; exact HB.out.trans ((((Below.refl _ _).alloc (Nat.le_refl _) _)).mono HB.out.size))
              have HYr : Hid (Below wr.heap.size wr Y) := Lib.hid (by rw [hY9]; exact ((Below.refl _ _).alloc (Nat.le_refl _) _))
              have HN : Hid (Mem.Blk Y wr.heap.size 29 #[.int .i64 1, .string nm, .string nt, .slice bA bn bc]) := Lib.hid (by rw [hY9]; exact Mem.Blk.new)
              rw [← hY9]
              clear hY9
              refine Reg.start (S := fun w' => Below Y.heap.size Y w') (by kernel_rfl) ?_
              refine Reg.takes (n := 0) (by kernel_rfl) (fun _ _ d _ _ h => by cases d <;> exact h) (Below.refl _ _).drew [0, 1, 2, 3, 4, 5, 6, 7, 8, 9, 10, 11, 12, 13, 14, 15, 16, 17, 18, 19] _ _ (by kernel_rfl) ?_
              iterate 20 (refine Reg.det_step rfl (fun K' hK' => ?_); go_simp; (first | (refine hK' _ ?_; clear hK' K') | (apply Exists.intro; refine ⟨fun wx hwx => ?_, hK' _ ?_⟩; (first | rfl | (have h9 := HY.out.trans (hwx.mono HY.out.size); have z0 := HZ.out wx h9; obtain ⟨x0, x3⟩ := And.intro (Mem.Blk.cell (Mem.Blk.belowS HN.out hwx) 0) (Mem.Blk.cell (Mem.Blk.belowS HN.out hwx) 3); go_simp; first | done | rfl)); clear hK' K')))
              refine Reg.det_nil ?_
              refine wpAnyH_done (by kernel_rfl) ?_ _
              obtain ⟨⟨x0, x1⟩, ⟨x2, x3⟩⟩ := And.intro (And.intro (HN.out.cell 0) (HN.out.cell 1)) (And.intro (HN.out.cell 2) (HN.out.cell 3))
              have HD := Lib.hid (HDo.out Y.drew HYr.out.drew)
              clear HDo
              go_wp2_with fail
              refine HD.out.mono ?_
              rintro e w2 ⟨A2, cc2, l2, rfl, hb2, hF2, he2, hl2⟩
              have HN2 := Lib.hid (HNx.out w2 A2 cc2 l2 (HY.out.drew.trans (hb2.mono HY.out.size)) (hF2.mono (fun k _ q => ext_ext (w1 := Y.drew) HY.out.size k q)) (by rw [he2, HW.out]) )
              clear hb2 hF2 he2 HD HNx HN HY HYr HW x0 x1 x2 x3
              go_wp2_with fail
              go_roundw
              case rel => exact ⟨k + 1, l2.length, cc2, A2, by omega, by omega, by go_num, rfl, by omega, HN2⟩
              case measure => simp [intOf]; omega
            · have hz2 : 0 < z := by omega
              have hz3 : ¬ z ≤ bn := fun q => hcut ⟨hk1, by omega, by omega⟩
              clear hcut hz1
              subst hk1
              go_wp2_with fail
              obtain ⟨Y, hY9⟩ : ∃ x, x = wr.alloc (.cells #[.int .i64 1, .string nm, .string nt, .slice bA bn bc] 29) := ⟨_, rfl⟩
              have HY : Hid (Below w.heap.size w Y) := Lib.hid (by rw [hY9]; exact HB.out.trans ((((Below.refl _ _).alloc (Nat.le_refl _) _)).mono HB.out.size))
              have HYr : Hid (Below wr.heap.size wr Y) := Lib.hid (by rw [hY9]; exact ((Below.refl _ _).alloc (Nat.le_refl _) _))
              have HN : Hid (Mem.Blk Y wr.heap.size 29 #[.int .i64 1, .string nm, .string nt, .slice bA bn bc]) := Lib.hid (by rw [hY9]; exact Mem.Blk.new)
              rw [← hY9]
              clear hY9
              refine Reg.start (S := fun w' => Below Y.heap.size Y w') (by kernel_rfl) ?_
              refine Reg.takes (n := 0) (by kernel_rfl) (fun _ _ d _ _ h => by cases d <;> exact h) (Below.refl _ _).drew [0, 1, 2, 3, 4, 5, 6, 7, 8, 9, 10, 11, 12, 13, 14, 15, 16, 17, 18, 19] _ _ (by kernel_rfl) ?_
              iterate 20 (refine Reg.det_step rfl (fun K' hK' => ?_); go_simp; (first | (refine hK' _ ?_; clear hK' K') | (apply Exists.intro; refine ⟨fun wx hwx => ?_, hK' _ ?_⟩; (first | rfl | (have h9 := HY.out.trans (hwx.mono HY.out.size); have z0 := HZ.out wx h9; obtain ⟨x0, x3⟩ := And.intro (Mem.Blk.cell (Mem.Blk.belowS HN.out hwx) 0) (Mem.Blk.cell (Mem.Blk.belowS HN.out hwx) 3); go_simp; first | done | rfl)); clear hK' K')))
              refine Reg.det_nil ?_
              refine wpAnyH_done (by kernel_rfl) ?_ _
              obtain ⟨⟨x0, x1⟩, ⟨x2, x3⟩⟩ := And.intro (And.intro (HN.out.cell 0) (HN.out.cell 1)) (And.intro (HN.out.cell 2) (HN.out.cell 3))
              have HD := Lib.hid (HDo.out Y.drew HYr.out.drew)
              clear HDo
              go_wp2_with fail
              refine HD.out.mono ?_
              rintro e w2 ⟨A2, cc2, l2, rfl, hb2, hF2, he2, hl2⟩
              have HN2 := Lib.hid (HNx.out w2 A2 cc2 l2 (HY.out.drew.trans (hb2.mono HY.out.size)) (hF2.mono (fun k _ q => ext_ext (w1 := Y.drew) HY.out.size k q)) (by rw [he2, HW.out]) )
              clear hb2 hF2 he2 HD HNx HN HY HYr HW x0 x1 x2 x3
              go_wp2_with fail
              go_roundw
              case rel => exact ⟨k + 1, l2.length, cc2, A2, by omega, by omega, by go_num, rfl, by omega, HN2⟩
              case measure => simp [intOf]; omega
          · have hk1' : (kd == 1) = false := beq_eq_false_iff_ne.2 hk1
            clear hcut
            go_wp2_with fail
            obtain ⟨Y, hY9⟩ : ∃ x, x = wr.alloc (.cells #[.int .i64 kd, .string nm, .string nt, .slice bA bn bc] 29) := ⟨_, rfl⟩
            have HY : Hid (Below w.heap.size w Y) := Lib.hid (by rw [hY9]; exact HB.out.trans ((((Below.refl _ _).alloc (Nat.le_refl _) _)).mono HB.out.size))
            have HYr : Hid (Below wr.heap.size wr Y) := Lib.hid (by rw [hY9]; exact ((Below.refl _ _).alloc (Nat.le_refl _) _))
            have HN : Hid (Mem.Blk Y wr.heap.size 29 #[.int .i64 kd, .string nm, .string nt, .slice bA bn bc]) := Lib.hid (by rw [hY9]; exact Mem.Blk.new)
            rw [← hY9]
            clear hY9
            refine Reg.start (S := fun w' => Below Y.heap.size Y w') (by kernel_rfl) ?_
            refine Reg.takes (n := 0) (by kernel_rfl) (fun _ _ d _ _ h => by cases d <;> exact h) (Below.refl _ _).drew [0, 1, 2, 3, 4, 5, 6, 7, 8, 9, 10, 11, 12, 13, 14, 15, 16, 17, 18, 19] _ _ (by kernel_rfl) ?_
            iterate 20 (refine Reg.det_step rfl (fun K' hK' => ?_); go_simp; (first | (refine hK' _ ?_; clear hK' K') | (apply Exists.intro; refine ⟨fun wx hwx => ?_, hK' _ ?_⟩; (first | rfl | (have h9 := HY.out.trans (hwx.mono HY.out.size); have z0 := HZ.out wx h9; obtain ⟨x0, x3⟩ := And.intro (Mem.Blk.cell (Mem.Blk.belowS HN.out hwx) 0) (Mem.Blk.cell (Mem.Blk.belowS HN.out hwx) 3); go_simp; first | done | rfl)); clear hK' K')))
            refine Reg.det_nil ?_
            refine wpAnyH_done (by kernel_rfl) ?_ _
            obtain ⟨⟨x0, x1⟩, ⟨x2, x3⟩⟩ := And.intro (And.intro (HN.out.cell 0) (HN.out.cell 1)) (And.intro (HN.out.cell 2) (HN.out.cell 3))
            have HD := Lib.hid (HDo.out Y.drew HYr.out.drew)
            clear HDo
            go_wp2_with fail
            refine HD.out.mono ?_
            rintro e w2 ⟨A2, cc2, l2, rfl, hb2, hF2, he2, hl2⟩
            have HN2 := Lib.hid (HNx.out w2 A2 cc2 l2 (HY.out.drew.trans (hb2.mono HY.out.size)) (hF2.mono (fun k _ q => ext_ext (w1 := Y.drew) HY.out.size k q)) (by rw [he2, HW.out]) )
            clear hb2 hF2 he2 HD HNx HN HY HYr HW x0 x1 x2 x3
            go_wp2_with fail
            go_roundw
            case rel => exact ⟨k + 1, l2.length, cc2, A2, by omega, by omega, by go_num, rfl, by omega, HN2⟩
            case measure => simp [intOf]; omega
    · have hfull : crashTo F0 (qs.map opOf) keep k = crashF F0 (qs.map opOf) keep := crashTo_full (by have := HQl.out; have := HK.out.len; simp; omega)
      rw [hfull] at he
      have hll := hF.len
      subst hll
      have HE : Hid (DoSaid w C (crashF F0 (qs.map opOf) keep) (n + m) (.returned (.slice A' l'.length c')) wr) := Lib.hid ⟨A', c', l', rfl, hb, hF, he, by omega⟩
      clear hF he hb HL hfull
      by_cases hq1 : k < m
      · have hq2 : ¬ k < kn := fun q => hlt ⟨hq1, q⟩
        clear hlt
        go_wp2_with fail
        go_ret
        exact HE.out
      · clear hlt
        go_wp2_with fail
        go_ret
        exact HE.out
end Dk
end Go.Proofs.Ytnaidihoijociaa
