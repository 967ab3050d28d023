/- DiskModel: the walk. -/
import Derived.Test.YtnaidihoijociaaDkDb
namespace Go.Proofs.Ytnaidihoijociaa.diskModel
open Go.RowKit Go.Maps Dk Bs
open Crc (Byte)
theorem fits_oth {N : Nat} {s : Ds} (h : Fits N s) : Fits (N + 1) (doS s ⟨1, ⟨#[111, 116, 104, 101, 114]⟩, t0, [120]⟩) := h.doS ⟨show (5 : Nat) ≤ maxLen by decide, show (0 : Nat) ≤ maxLen by decide, by decide⟩
set_option maxRecDepth 100000 in
set_option maxHeartbeats 16000000 in
theorem core (A0 : Option Addr) (n0 c0 : Nat) (ps : List DaV) (w : World) (h : Acts w A0 n0 c0 ps) :
    Calls Try.prog 6 #[.slice A0 n0 c0] w fun e w' => e = .returned (.bool true) ∧ Below w.heap.size w w' := by
  have hm1 := h.le
  have H1 := Lib.hid h
  clear h
  unfold maxLen at hm1
  go_enter Try.func6, Try.ntmps6
  go_wp2_with fail
  refine (awake_c _).mono ?_
  rintro e w1 ⟨rfl, hb1⟩
  have HF := Lib.hid (dfew_c A0 n0 c0 ps w1 (H1.out.sl.below hb1 |>.more hb1.size) H1.out.ok (Nat.le_trans H1.out.le.1 H1.out.le.2))
  go_wp2_with fail
  refine HF.out.mono ?_
  rintro e wf ⟨b, rfl, hf, hwf⟩
  have hwf2 := hwf.symm
  subst hwf2
  clear hwf
  clear HF
  cases b with
  | false =>
    go_wp2_with fail
    refine (awake_c _).mono ?_
    rintro e w2 ⟨rfl, hb2⟩
    go_wp2_with fail
    go_ret
    exact ⟨rfl, hb1.trans (hb2.mono hb1.size)⟩
  | true =>
  obtain ⟨fn, fs⟩ := hf rfl
  have fK : Hid (∀ p ∈ ps, p.ok ∧ SmallA p) := Lib.hid fun p hp => ⟨H1.out.ok p hp, fs p hp⟩
  clear hf fs
  go_wp2_with fail
  refine ((Fm.start hb1).news (j := 1) rfl (by decide)).mono ?_
  rintro e w2 ⟨g1, col2, rfl, -, hF2, -⟩
  have F2 : Hid (∃ s, Fits 0 s ∧ MS w w2 (10 + 0) g1 s s.fs s.op none 0 0 none 0 0 []) := Lib.hid ⟨⟨[], []⟩, Fits.nil, MS.start hF2⟩
  clear hF2 hb1
  go_wp2_with fail
  go_loopw [3, 4, 5, 6] (fun vd vf vo vi wr => ∃ (k g n c m cO : Nat) (A AO : Option Addr), k ≤ n0 ∧ vd = .pointer (some ⟨g, 0, none⟩) ∧ vf = .slice A n c ∧ vo = .slice AO m cO ∧ vi = .int .i64 k ∧ Hid (∃ s, Fits k s ∧ MS w wr (10 + k) g s s.fs s.op A n c AO m cO [])) (fun _ _ _ i _ => n0 - (intOf i).toNat)
  case atStart => exact ⟨0, g1, 0, 0, 0, 0, none, none, by omega, rfl, rfl, rfl, rfl, F2⟩
  case round =>
    clear F2
    obtain ⟨k, g, n, c, m, cO, A, AO, hk, rfl, rfl, rfl, rfl, HFk⟩ := hrel
    obtain ⟨s, hT, hS⟩ := HFk.out
    by_cases hlt : k < n0
    · obtain ⟨ad, hl, rfl, _, hblk, hat⟩ := DaV.at_ H1.out.sl hlt
      have hpk := fK.out ps[k] (List.getElem_mem hl)
      have hHp := H1.out.hold ps[k] (List.getElem_mem hl)
      have hKp := H1.out.keep ps[k] (List.getElem_mem hl)
      have hat := hat.below hS.base hblk
      generalize ps[k] = p at *
      obtain ⟨d, ⟨kd, nm, nt, bs, bA, bn, bc⟩, kp, kA, kn, kc⟩ := p
      obtain ⟨c0, c1, c2, c3, c4, c5⟩ := hat
      dsimp only at c0 c1 c2 c3 c4 c5 hHp hKp
      have hbn : bn ≤ 200 := hpk.2.2.2.1
      have hkn : kn ≤ 60 := hpk.2.2.2.2
      have hs1 : nm.size ≤ maxLen := hpk.1.op.name
      have hs2 : nt.size ≤ maxLen := hpk.1.op.nto
      have HKz : Hid (∀ z ∈ kp, z ≤ 9223372036854775807) := Lib.hid fun z hz => (hpk.1.keep.2.2.2 z hz).2
      have HHp := Lib.hid hHp
      have HKp := Lib.hid hKp
      have HX := Lib.hid (hS.keep (cs := #[.int .i64 d, .int .i64 kd, .string nm, .string nt, .slice bA bn bc, .slice kA kn kc]))
      have htl := hT.len
      have hm9 : m ≤ 60 := by have := hS.len; omega
      have HT0 := Lib.hid hT
      clear hpk hHp hKp hS hT HFk hl hblk
      by_cases d0 : d = 0
      · subst d0
        go_wp2_with fail
        have D1 := Lib.hid (HX.out.does (kind := kd) (name := nm) (nto := nt) HT0.out (by omega) (HHp.out.below HX.out.base) hs1 hs2 (by omega))
        refine D1.out.mono ?_
        rintro e w2 ⟨rfl, hS2⟩
        have HS2 := Lib.hid hS2
        clear hS2 D1 HX c0 c1 c2 c3 c4 c5
        have K0 := HS2.out.kept
        have i0 := K0.cell 0
        have i1 := K0.cell 1
        have i2 := K0.cell 2
        have i3 := K0.cell 3
        have i4 := K0.cell 4
        have i5 := K0.cell 5
        clear K0
        have HR := Lib.hid (fun X => rright_c kd nm nt bs bA bn bc X hs1 hs2)
        have hok : OkOp ⟨kd, nm, nt, bs⟩ := ⟨hs1, hs2, by have := HHp.out.len; show bs.length ≤ _; omega⟩
        have HT2 := Lib.hid (HT0.out.doS hok)
        clear hok
        by_cases hr : right ⟨kd, nm, nt, bs⟩ = true
        · have hE : doE ⟨kd, nm, nt, bs⟩ = 0 := by unfold doE; rw [if_pos hr]
          have hsd : doS s ⟨kd, nm, nt, bs⟩ = ⟨s.fs, s.op ++ [⟨kd, nm, nt, bs⟩]⟩ := by unfold doS; rw [if_pos hr]
          rw [hsd] at HS2 HT2
          rw [hr] at HR
          rw [hE]
          have hro : ROp w ⟨kd, nm, nt, bs, bA, bn, bc⟩ := ⟨by
            have := hr
            unfold right at this
            have := of_decide_eq_true this
            dsimp only at this
            show kd = 1 ∨ kd = 2 ∨ kd = 3
            omega, ⟨_, HHp.out⟩, by show bn ≤ 100000; omega, hs1, hs2⟩
          have HRo := Lib.hid hro
          clear hr hE hsd hro
          go_wp2_with fail
          refine (HR.out _).mono ?_
          rintro e w3 ⟨rfl, hb3⟩
          have HS3 := Lib.hid (HS2.out.below hb3)
          clear hb3 HR HS2 i0 i1 i2 i3 i4 i5
          have K0 := HS3.out.kept
          have i0 := K0.cell 0
          have i1 := K0.cell 1
          have i2 := K0.cell 2
          have i3 := K0.cell 3
          have i4 := K0.cell 4
          have i5 := K0.cell 5
          clear K0
          obtain ⟨A', c', w4, hrun, hS4⟩ := HS3.out.push (ty := 22) HRo.out (by omega)
          have HE9 : Hid (∃ s9, Fits (k + 1) s9 ∧ MS w w4 (10 + (k + 1)) g s9 s9.fs s9.op A n c A' (m + 1) c' []) := Lib.hid ⟨_, HT2.out, hS4.lose.more (by omega)⟩
          have hrun : (Builtin.append_ #[22, 22] 22 #[.slice AO m cO, .slice (some ⟨w3.heap.size, 0, none⟩) 1 1]).run Try.prog (w3.alloc (.cells #[.int .i64 kd, .string nm, .string nt, .slice bA bn bc] 29)) = .ok (.slice A' (m + 1) c') w4 := hrun
          clear hS4 HS3 HRo HT2 HT0 HHp HKp HKz htl hm9
          go_wp2_with (at_builtin; refine Ro.wpList_app rfl _ _ _ _ rfl _ _ rfl rfl hrun ?_)
          clear hrun i0 i1 i2 i3 i4 i5
          obtain ⟨s9, hT9, hS9⟩ := HE9.out
          have HT := Lib.hid hT9
          have HM := Lib.hid hS9.len.2
          have HLk := Lib.hid (hS9.look (by have := hT9.len; omega) (by have := hT9.len; omega))
          clear hT9 hS9 HE9
          go_wp2_with fail
          refine HLk.out.mono ?_
          rintro e wl ⟨AL, nL, cL, rfl, hS1, hS2⟩
          have HSm := Lib.hid (hS2.same HT.out (by omega) rfl)
          have HS1 := Lib.hid hS1
          clear hS1 hS2 HLk
          go_wp2_with fail
          refine HSm.out.mono ?_
          rintro e wq ⟨rfl, hbq⟩
          have HS3 := Lib.hid (HS1.out.below hbq)
          clear hbq HSm HS1
          go_wp2_with fail
          refine HS3.out.opens.mono ?_
          rintro e wo ⟨rfl, hwo⟩
          subst hwo
          rw [← HM.out]
          clear HM
          go_wp2_with fail
          go_roundw
          case rel => exact ⟨k + 1, g, n, c, m + 1, c', A, A', by omega, rfl, rfl, rfl, by go_num, s9, HT.out, HS3.out⟩
          case measure => simp [intOf]; omega
        · have hr : right ⟨kd, nm, nt, bs⟩ = false := by simpa using hr
          have hE : doE ⟨kd, nm, nt, bs⟩ = 1 := by unfold doE; rw [hr, if_neg (by decide)]
          have hsd : doS s ⟨kd, nm, nt, bs⟩ = s := by unfold doS; rw [hr, if_neg (by decide)]
          rw [hsd] at HS2 HT2
          rw [hr] at HR
          rw [hE]
          clear hr hE hsd
          go_wp2_with fail
          refine (HR.out _).mono ?_
          rintro e w3 ⟨rfl, hb3⟩
          have HE9 : Hid (∃ s9, Fits (k + 1) s9 ∧ MS w w3 (10 + (k + 1)) g s9 s9.fs s9.op A n c AO m cO []) := Lib.hid ⟨_, HT2.out, (HS2.out.below hb3).lose.more (by omega)⟩
          clear hb3 HR HS2 i0 i1 i2 i3 i4 i5 HT2 HT0 HHp HKp HKz htl hm9
          go_wp2_with fail
          obtain ⟨s9, hT9, hS9⟩ := HE9.out
          have HT := Lib.hid hT9
          have HM := Lib.hid hS9.len.2
          have HLk := Lib.hid (hS9.look (by have := hT9.len; omega) (by have := hT9.len; omega))
          clear hT9 hS9 HE9
          go_wp2_with fail
          refine HLk.out.mono ?_
          rintro e wl ⟨AL, nL, cL, rfl, hS1, hS2⟩
          have HSm := Lib.hid (hS2.same HT.out (by omega) rfl)
          have HS1 := Lib.hid hS1
          clear hS1 hS2 HLk
          go_wp2_with fail
          refine HSm.out.mono ?_
          rintro e wq ⟨rfl, hbq⟩
          have HS3 := Lib.hid (HS1.out.below hbq)
          clear hbq HSm HS1
          go_wp2_with fail
          refine HS3.out.opens.mono ?_
          rintro e wo ⟨rfl, hwo⟩
          subst hwo
          rw [← HM.out]
          clear HM
          go_wp2_with fail
          go_roundw
          case rel => exact ⟨k + 1, g, n, c, m, cO, A, AO, by omega, rfl, rfl, rfl, by go_num, s9, HT.out, HS3.out⟩
          case measure => simp [intOf]; omega
      have d0' : (d == 0) = false := beq_eq_false_iff_ne.2 d0
      clear d0
      by_cases d1 : d = 1
      · subst d1
        go_wp2_with fail
        have D1 := Lib.hid (HX.out.sync HT0.out (by omega))
        refine D1.out.mono ?_
        rintro e w2 ⟨rfl, hS2⟩
        have HS2 := Lib.hid hS2
        have D2 := Lib.hid (hS2.look (by omega) (by omega))
        clear hS2 D1 HX c0 c1 c2 c3 c4 c5
        go_wp2_with fail
        refine D2.out.mono ?_
        rintro e w3 ⟨A', n', c', rfl, -, hS3⟩
        have HE9 : Hid (∃ s9, Fits (k + 1) s9 ∧ MS w w3 (10 + (k + 1)) g s9 s9.fs s9.op A' n' c' none 0 0 []) := Lib.hid ⟨_, HT0.out.look.mono (show k ≤ k + 1 by omega), hS3.nil.lose.more (by omega)⟩
        clear hS3 D2 HS2 HT0 HHp HKp HKz htl hm9
        go_wp2_with fail
        obtain ⟨s9, hT9, hS9⟩ := HE9.out
        have HT := Lib.hid hT9
        have HM := Lib.hid hS9.len.2
        have HLk := Lib.hid (hS9.look (by have := hT9.len; omega) (by have := hT9.len; omega))
        clear hT9 hS9 HE9
        go_wp2_with fail
        refine HLk.out.mono ?_
        rintro e wl ⟨AL, nL, cL, rfl, hS1, hS2⟩
        have HSm := Lib.hid (hS2.same HT.out (by omega) rfl)
        have HS1 := Lib.hid hS1
        clear hS1 hS2 HLk
        go_wp2_with fail
        refine HSm.out.mono ?_
        rintro e wq ⟨rfl, hbq⟩
        have HS3 := Lib.hid (HS1.out.below hbq)
        clear hbq HSm HS1
        go_wp2_with fail
        refine HS3.out.opens.mono ?_
        rintro e wo ⟨rfl, hwo⟩
        subst hwo
        rw [← HM.out]
        clear HM
        go_wp2_with fail
        go_roundw
        case rel => exact ⟨k + 1, g, n', c', 0, 0, A', none, by omega, rfl, rfl, rfl, by go_num, s9, HT.out, HS3.out⟩
        case measure => simp [intOf]; omega
      have d1' : (d == 1) = false := beq_eq_false_iff_ne.2 d1
      clear d1
      by_cases d2 : d = 2
      · subst d2
        go_wp2_with fail
        have D1 := Lib.hid (HX.out.crash (kc := kc) HT0.out (by omega) HKp.out HKz.out (by omega))
        refine D1.out.mono ?_
        rintro e w2 ⟨rfl, hS2⟩
        have HS2 := Lib.hid hS2
        have D2 := Lib.hid (hS2.rcrash (kc := kc) (by omega) (by omega) HKp.out HKz.out (by omega))
        clear hS2 D1 HX c0 c1 c2 c3 c4 c5
        have K0 := HS2.out.kept
        have i0 := K0.cell 0
        have i1 := K0.cell 1
        have i2 := K0.cell 2
        have i3 := K0.cell 3
        have i4 := K0.cell 4
        have i5 := K0.cell 5
        clear K0
        go_wp2_with fail
        refine D2.out.mono ?_
        rintro e w3 ⟨A', n', c', rfl, -, hS3⟩
        have HE9 : Hid (∃ s9, Fits (k + 1) s9 ∧ MS w w3 (10 + (k + 1)) g s9 s9.fs s9.op A' n' c' none 0 0 []) := Lib.hid ⟨_, (HT0.out.crash kp).mono (show k ≤ k + 1 by omega), hS3.nil.lose.more (by omega)⟩
        clear hS3 D2 HS2 HT0 HHp HKp HKz htl hm9 i0 i1 i2 i3 i4 i5
        go_wp2_with fail
        obtain ⟨s9, hT9, hS9⟩ := HE9.out
        have HT := Lib.hid hT9
        have HM := Lib.hid hS9.len.2
        have HLk := Lib.hid (hS9.look (by have := hT9.len; omega) (by have := hT9.len; omega))
        clear hT9 hS9 HE9
        go_wp2_with fail
        refine HLk.out.mono ?_
        rintro e wl ⟨AL, nL, cL, rfl, hS1, hS2⟩
        have HSm := Lib.hid (hS2.same HT.out (by omega) rfl)
        have HS1 := Lib.hid hS1
        clear hS1 hS2 HLk
        go_wp2_with fail
        refine HSm.out.mono ?_
        rintro e wq ⟨rfl, hbq⟩
        have HS3 := Lib.hid (HS1.out.below hbq)
        clear hbq HSm HS1
        go_wp2_with fail
        refine HS3.out.opens.mono ?_
        rintro e wo ⟨rfl, hwo⟩
        subst hwo
        rw [← HM.out]
        clear HM
        go_wp2_with fail
        go_roundw
        case rel => exact ⟨k + 1, g, n', c', 0, 0, A', none, by omega, rfl, rfl, rfl, by go_num, s9, HT.out, HS3.out⟩
        case measure => simp [intOf]; omega
      have d2' : (d == 2) = false := beq_eq_false_iff_ne.2 d2
      clear d2
      go_wp2_with fail
      have D1 := Lib.hid (HX.out.copy HT0.out (by omega))
      refine D1.out.mono ?_
      rintro e w2 ⟨g2, rfl, hS2⟩
      have HS2 := Lib.hid hS2
      clear hS2 D1 HX c0 c1 c2 c3 c4 c5
      have kc2 := Lib.run_convert_bytes_const (P := Try.prog) w2 27 5 #[.int .u8 120] 1 1 Try.underlying27 Try.underlying5
      go_wp2_with fail
      clear kc2
      have hbl : Below w2.heap.size w2 (w2.alloc (.cells #[.int .u8 120] 5 (1, 2))) := (Below.refl _ _).alloc (Nat.le_refl _) _
      have D2 := Lib.hid ((HS2.out.below hbl).does (kind := 1) (name := ⟨#[111, 116, 104, 101, 114]⟩) (nto := t0) (bn := 1) (bc := 1) HT0.out (by omega) (hold_lit (w := w2) (fz := (1, 2)) (bs := [120]) rfl rfl (by decide)) (show (5 : Nat) ≤ maxLen by decide) (show (0 : Nat) ≤ maxLen by decide) (by omega))
      clear hbl
      refine D2.out.mono ?_
      rintro e w3 ⟨rfl, hS3⟩
      have HT1 := Lib.hid (fits_oth HT0.out)
      have D3 := Lib.hid (hS3.sync HT1.out (by omega))
      clear hS3 D2 HS2
      go_wp2_with fail
      refine D3.out.mono ?_
      rintro e w4 ⟨rfl, hS4⟩
      have HE9 : Hid (∃ s9, Fits (k + 1) s9 ∧ MS w w4 (10 + (k + 1)) g2 s9 s9.fs s9.op A n c AO m cO []) := Lib.hid ⟨_, HT0.out.mono (show k ≤ k + 1 by omega), hS4.drop.lose.more (by omega)⟩
      clear hS4 D3 HT1 HT0 HHp HKp HKz htl hm9
      go_wp2_with fail
      obtain ⟨s9, hT9, hS9⟩ := HE9.out
      have HT := Lib.hid hT9
      have HM := Lib.hid hS9.len.2
      have HLk := Lib.hid (hS9.look (by have := hT9.len; omega) (by have := hT9.len; omega))
      clear hT9 hS9 HE9
      go_wp2_with fail
      refine HLk.out.mono ?_
      rintro e wl ⟨AL, nL, cL, rfl, hS1, hS2⟩
      have HSm := Lib.hid (hS2.same HT.out (by omega) rfl)
      have HS1 := Lib.hid hS1
      clear hS1 hS2 HLk
      go_wp2_with fail
      refine HSm.out.mono ?_
      rintro e wq ⟨rfl, hbq⟩
      have HS3 := Lib.hid (HS1.out.below hbq)
      clear hbq HSm HS1
      go_wp2_with fail
      refine HS3.out.opens.mono ?_
      rintro e wo ⟨rfl, hwo⟩
      subst hwo
      rw [← HM.out]
      clear HM
      go_wp2_with fail
      go_roundw
      case rel => exact ⟨k + 1, g2, n, c, m, cO, A, AO, by omega, rfl, rfl, rfl, by go_num, s9, HT.out, HS3.out⟩
      case measure => simp [intOf]; omega
    · have HB := Lib.hid hS.base
      clear hS hT HFk
      go_wp2_with fail
      go_ret
      exact ⟨rfl, HB.out⟩
theorem walk (v1 : Value) (w : World) (h1 : Frame.Arg Try.prog w 42 v1) :
    Calls Try.prog 6 #[v1] w fun e w' => e = .returned (.bool true) ∧ Below w.heap.size w w' := by
  obtain ⟨A1, n1, c1, ps, rfl, q1⟩ := arg_acts h1
  exact core A1 n1 c1 ps w q1
end Go.Proofs.Ytnaidihoijociaa.diskModel
