/- DiskCrash: the walk. -/
import Derived.Test.YtnaidihoijociaaDkQ
namespace Go.Proofs.Ytnaidihoijociaa.diskCrash
open Go.RowKit Go.Maps Dk Bs
open Crc (Byte)
set_option maxRecDepth 100000 in
set_option maxHeartbeats 16000000 in
theorem core (A1 A2 KA : Option Addr) (n1 c1 n2 c2 kn kc : Nat) (ps qs : List OpV) (keep : List Int) (w : World) (h1 : Ops w A1 n1 c1 ps) (h2 : Ops w A2 n2 c2 qs) (hk : Mem.Ints w w.heap.size .i64 KA kn keep) (hkz : ∀ z ∈ keep, z ≤ 9223372036854775807) (hkm : kn ≤ maxLen) :
    Calls Try.prog 7 #[.slice A1 n1 c1, .slice A2 n2 c2, .slice KA kn kc] w fun e w' => e = .returned (.bool true) ∧ Below w.heap.size w w' := by
  have hm1 := h1.le
  have hm2 := h2.le
  have H1 := Lib.hid h1
  have H2 := Lib.hid h2
  have HKp := Lib.hid (And.intro hk hkz)
  clear h1 h2 hk hkz
  unfold maxLen at hm1 hm2 hkm
  go_enter Try.func7, Try.ntmps7
  go_wp2_with fail
  refine (awake_c _).mono ?_
  rintro e w1 ⟨rfl, hb1⟩
  have HF := Lib.hid (few_c A1 n1 c1 ps w1 (H1.out.sl.below hb1 |>.more hb1.size) H1.out.ok (Nat.le_trans H1.out.le.1 H1.out.le.2))
  go_wp2_with fail
  refine HF.out.mono ?_
  rintro e wf ⟨b, rfl, hf, hwf⟩
  have hwf2 := hwf.symm
  subst hwf2
  clear hwf
  clear HF
  cases b with
  | false =>
    go_wp2_with fail
    refine (awake_c _).mono ?_
    rintro e w2 ⟨rfl, hb2⟩
    go_wp2_with fail
    go_ret
    exact ⟨rfl, hb1.trans (hb2.mono hb1.size)⟩
  | true =>
  obtain ⟨fn, fs⟩ := hf rfl
  have fK : Hid (∀ p ∈ ps, p.ok ∧ Small p) := Lib.hid fun p hp => ⟨H1.out.ok p hp, fs p hp⟩
  clear hf fs
  have HF := Lib.hid (few_c A2 n2 c2 qs w1 (H2.out.sl.below hb1 |>.more hb1.size) H2.out.ok (Nat.le_trans H2.out.le.1 H2.out.le.2))
  go_wp2_with fail
  refine HF.out.mono ?_
  rintro e wf ⟨b, rfl, hf, hwf⟩
  have hwf2 := hwf.symm
  subst hwf2
  clear hwf
  clear HF
  cases b with
  | false =>
    go_wp2_with fail
    refine (awake_c _).mono ?_
    rintro e w2 ⟨rfl, hb2⟩
    go_wp2_with fail
    go_ret
    exact ⟨rfl, hb1.trans (hb2.mono hb1.size)⟩
  | true =>
  obtain ⟨mn, ms⟩ := hf rfl
  have mK : Hid (∀ p ∈ qs, p.ok ∧ Small p) := Lib.hid fun p hp => ⟨H2.out.ok p hp, ms p hp⟩
  clear hf ms
  by_cases hk100 : 100 < kn
  · go_wp2_with fail
    refine (awake_c _).mono ?_
    rintro e w2 ⟨rfl, hb2⟩
    go_wp2_with fail
    go_ret
    exact ⟨rfl, hb1.trans (hb2.mono hb1.size)⟩
  go_wp2_with fail
  refine ((Fm.start hb1).news (j := 1) rfl (by decide)).mono ?_
  rintro e w2 ⟨g1, col2, rfl, -, hF2, -⟩
  rw [tab_nil, tab_more 1 (l := []) rfl] at hF2
  have F2 : Hid (∃ col, Fm w w2 col (tab [(g1, sF ⟨[], []⟩ ps 0)])) := Lib.hid ⟨_, hF2⟩
  clear hF2 hb1
  go_wp2_with fail
  go_loopw [8] (fun vi wr => ∃ k : Nat, k ≤ n1 ∧ vi = .int .i64 k ∧ Hid (∃ col, Fm w wr col (tab [(g1, sF ⟨[], []⟩ ps k)]))) (fun i _ => n1 - (intOf i).toNat)
  case atStart => exact ⟨0, by omega, rfl, F2⟩
  case round =>
    clear F2
    obtain ⟨k, hk, rfl, HFk⟩ := hrel
    by_cases hlt : k < n1
    · obtain ⟨ad, hl, rfl, _, hblk, hat⟩ := OpV.at_ H1.out.sl hlt
      have hpk := fK.out ps[k] (List.getElem_mem hl)
      have hHp := H1.out.hold ps[k] (List.getElem_mem hl)
      have HNX := Lib.hid (sF_next ⟨[], []⟩ ps hl)
      have HFT := Lib.hid (sF_fits Fits.nil fK.out k (by omega))
      have HX : Hid (∀ X, Below w.heap.size w X → OpV.At X (ad.add (k * 4)) ps[k]) := Lib.hid fun X hX => hat.below hX hblk
      clear hat
      generalize ps[k] = p at *
      obtain ⟨col, hF⟩ := HFk.out
      have F := Lib.hid hF
      clear hF HFk
      obtain ⟨kd, nm, nt, bs, bA, bn, bc⟩ := p
      have hbn : bn ≤ 200 := hpk.2.2.2
      have hs1 : nm.size ≤ maxLen := hpk.1.name
      have hs2 : nt.size ≤ maxLen := hpk.1.nto
      have HH := Lib.hid (fun (X : World) (hX : Below w.heap.size w X) => hHp.below hX)
      dsimp only at HH
      clear hpk hHp
      obtain ⟨c0, c1, c2, c3⟩ := HX.out wr F.out.base
      dsimp only at c0 c1 c2 c3
      have D1 := Lib.hid ((F.out.does (i := 1) (kind := kd) (name := nm) (nto := nt) rfl HFT.out (by omega) (HH.out wr F.out.base) hs1 hs2 (by omega)).mono (R' := fun e w' => (∃ E, e = .returned (.int .i64 E)) ∧ After w wr _ _ 1 g1 (doS (sF ⟨[], []⟩ ps k) ⟨kd, nm, nt, bs⟩) w') (fun e w' p => ⟨⟨_, p.1⟩, p.2⟩))
      have HNX2 : Hid (sF ⟨[], []⟩ ps (k + 1) = doS (sF ⟨[], []⟩ ps k) ⟨kd, nm, nt, bs⟩) := Lib.hid HNX.out
      clear HNX
      go_wp2_with fail
      refine D1.out.mono ?_
      rintro e w4 ⟨⟨E1, rfl⟩, col4, ha4, hF4, ho4⟩
      rw [tab_put 1 (by decide) (by simp)] at hF4
      have F4 : Hid (∃ col, Fm w w4 col (tab [(g1, sF ⟨[], []⟩ ps (k + 1))])) := Lib.hid ⟨_, by rw [HNX2.out]; exact hF4⟩
      clear D1 F hF4 ha4 ho4 HFT HNX2
      clear c0 c1 c2 c3
      go_wp2_with fail
      go_roundw
      case rel => exact ⟨k + 1, by omega, by go_num, F4⟩
      case measure => simp [intOf]; omega
    · obtain rfl : k = n1 := by omega
      have hf1 := sF_fits Fits.nil fK.out k (by rw [H1.out.len]; exact Nat.le_refl _)
      have HFT := Lib.hid (hf1.mono (show 0 + k ≤ 50 by omega))
      clear hf1
      generalize sF ⟨[], []⟩ ps k = s at *
      obtain ⟨col3, hF3⟩ := HFk.out
      have F3 := Lib.hid hF3
      have D3 := Lib.hid (hF3.sync (i := 1) rfl HFT.out (by omega))
      clear hF3 HFk
      go_wp2_with fail
      refine D3.out.mono ?_
      rintro e w4 ⟨rfl, col4, -, hF4, -⟩
      rw [tab_put 1 (by decide) (by simp)] at hF4
      have F4 : Hid (Fm w w4 col4 (tab [(g1, ⟨Dk.look s, []⟩)])) := Lib.hid hF4
      have HF0 : Hid (Fits 50 ⟨Dk.look s, []⟩) := Lib.hid HFT.out.look
      clear hF4 D3 F3 HFT
      generalize Dk.look s = l at *
      have D4 := Lib.hid (F4.out.copy (i := 1) (j := 2) rfl HF0.out (by omega) rfl (by decide))
      go_wp2_with fail
      refine D4.out.mono ?_
      rintro e w5 ⟨gw, col5, rfl, -, hF5, -⟩
      rw [tab_more 2 (l := [(g1, ⟨l, []⟩)]) rfl] at hF5
      have F5 : Hid (Fm w w5 col5 (tab [(g1, ⟨l, []⟩), (gw, ⟨l, []⟩)])) := Lib.hid hF5
      clear hF5 D4 F4
      have D5 := Lib.hid ((F5.out.crash (i := 1) (kc := kc) rfl HF0.out (by omega) ((HKp.out.1.below F5.out.base).more F5.out.base.size) (fun ad e hn c => by
        obtain ⟨ad', e', hb, _⟩ := HKp.out.1.2 hn
        rw [e] at e'
        cases e'
        rw [F5.out.old _ hb] at c
        cases c) HKp.out.2 (by omega)).mono (R' := fun e w' => e = .returned (.tuple #[]) ∧ After w w5 col5 _ 1 g1 ⟨l, []⟩ w') (fun e w' p => p))
      go_wp2_with fail
      refine D5.out.mono ?_
      rintro e w6 ⟨rfl, col6, -, hF6, -⟩
      rw [tab_put 1 (by decide) (by simp)] at hF6
      have F6 : Hid (Fm w w6 col6 (tab [(g1, ⟨l, []⟩), (gw, ⟨l, []⟩)])) := Lib.hid hF6
      clear hF6 D5 F5
      have D6 := Lib.hid (alike_c (F6.out.at_ 1 _ _ rfl) (F6.out.at_ 2 _ _ rfl) HF0.out HF0.out (by omega) (by omega) rfl)
      go_wp2_with fail
      refine D6.out.mono ?_
      rintro e w7 ⟨rfl, hb7⟩
      have F7 : Hid (∃ col, Fm w w7 col (tab [(g1, sF ⟨l, []⟩ qs 0), (gw, ⟨l, []⟩)])) := Lib.hid ⟨_, F6.out.below hb7 (fun _ => 0)⟩
      clear hb7 D6 F6
      go_wp2_with fail
      go_loopw [10] (fun vi wr => ∃ k : Nat, k ≤ n2 ∧ vi = .int .i64 k ∧ Hid (∃ col, Fm w wr col (tab [(g1, sF ⟨l, []⟩ qs k), (gw, ⟨l, []⟩)]))) (fun i _ => n2 - (intOf i).toNat)
      case atStart => exact ⟨0, by omega, rfl, F7⟩
      case round =>
        clear F7
        obtain ⟨k, hk, rfl, HFk⟩ := hrel
        by_cases hlt : k < n2
        · obtain ⟨ad, hl, rfl, _, hblk, hat⟩ := OpV.at_ H2.out.sl hlt
          have hpk := mK.out qs[k] (List.getElem_mem hl)
          have hHp := H2.out.hold qs[k] (List.getElem_mem hl)
          have HNX := Lib.hid (sF_next ⟨l, []⟩ qs hl)
          have HFT := Lib.hid (sF_fits HF0.out mK.out k (by omega))
          have HX : Hid (∀ X, Below w.heap.size w X → OpV.At X (ad.add (k * 4)) qs[k]) := Lib.hid fun X hX => hat.below hX hblk
          clear hat
          generalize qs[k] = p at *
          obtain ⟨col, hF⟩ := HFk.out
          have F := Lib.hid hF
          clear hF HFk
          obtain ⟨kd, nm, nt, bs, bA, bn, bc⟩ := p
          have hbn : bn ≤ 200 := hpk.2.2.2
          have hs1 : nm.size ≤ maxLen := hpk.1.name
          have hs2 : nt.size ≤ maxLen := hpk.1.nto
          have HH := Lib.hid (fun (X : World) (hX : Below w.heap.size w X) => hHp.below hX)
          dsimp only at HH
          clear hpk hHp
          obtain ⟨c0, c1, c2, c3⟩ := HX.out wr F.out.base
          dsimp only at c0 c1 c2 c3
          have D1 := Lib.hid ((F.out.does (i := 1) (kind := kd) (name := nm) (nto := nt) rfl HFT.out (by omega) (HH.out wr F.out.base) hs1 hs2 (by omega)).mono (R' := fun e w' => (∃ E, e = .returned (.int .i64 E)) ∧ After w wr _ _ 1 g1 (doS (sF ⟨l, []⟩ qs k) ⟨kd, nm, nt, bs⟩) w') (fun e w' p => ⟨⟨_, p.1⟩, p.2⟩))
          have HNX2 : Hid (sF ⟨l, []⟩ qs (k + 1) = doS (sF ⟨l, []⟩ qs k) ⟨kd, nm, nt, bs⟩) := Lib.hid HNX.out
          clear HNX
          go_wp2_with fail
          refine D1.out.mono ?_
          rintro e w4 ⟨⟨E1, rfl⟩, col4, ha4, hF4, ho4⟩
          rw [tab_put 1 (by decide) (by simp)] at hF4
          have F4 : Hid (∃ col, Fm w w4 col (tab [(g1, sF ⟨l, []⟩ qs (k + 1)), (gw, ⟨l, []⟩)])) := Lib.hid ⟨_, by rw [HNX2.out]; exact hF4⟩
          clear D1 F hF4 ha4 ho4 HFT HNX2
          clear c0 c1 c2 c3
          go_wp2_with fail
          go_roundw
          case rel => exact ⟨k + 1, by omega, by go_num, F4⟩
          case measure => simp [intOf]; omega
        · obtain rfl : k = n2 := by omega
          have hf2 := sF_fits HF0.out mK.out k (by rw [H2.out.len]; exact Nat.le_refl _)
          obtain ⟨os, hos, hol, hob⟩ := sF_open (l := l) mK.out k (by rw [H2.out.len]; exact Nat.le_refl _)
          obtain ⟨col3, hF3⟩ := HFk.out
          rw [hos] at hf2 hF3
          have HFT := Lib.hid (hf2.mono (show 50 + k ≤ 100 by omega))
          have HCA := Lib.hid (crash_all os k hol hob l)
          have HCN := Lib.hid (crash_none os l)
          have F3 := Lib.hid hF3
          have D3 := Lib.hid (hF3.copy (i := 1) (j := 3) rfl HFT.out (by omega) rfl (by decide))
          clear hF3 HFk hf2 hos hol hob
          go_wp2_with fail
          refine D3.out.mono ?_
          rintro e w4 ⟨ga, col4, rfl, -, hF4, -⟩
          rw [tab_more 3 (l := [(g1, ⟨l, os⟩), (gw, ⟨l, []⟩)]) rfl] at hF4
          have F4 : Hid (Fm w w4 col4 (tab [(g1, ⟨l, os⟩), (gw, ⟨l, []⟩), (ga, ⟨l, os⟩)])) := Lib.hid hF4
          clear hF4 D3 F3
          have D4 := Lib.hid (F4.out.copy (i := 1) (j := 4) rfl HFT.out (by omega) rfl (by decide))
          go_wp2_with fail
          refine D4.out.mono ?_
          rintro e w5 ⟨gb, col5, rfl, -, hF5, -⟩
          rw [tab_more 4 (l := [(g1, ⟨l, os⟩), (gw, ⟨l, []⟩), (ga, ⟨l, os⟩)]) rfl] at hF5
          have F5 : Hid (∃ col, Fm w w5 col (tab [(g1, ⟨l, os⟩), (gw, ⟨l, []⟩), (ga, ⟨l, os⟩), (gb, ⟨l, os⟩)]) ∧ Ths w5 col none 0 0) := Lib.hid ⟨_, hF5, Ro.Row.nil, fun _ e => (by cases e)⟩
          clear hF5 D4 F4
          go_wp2_with fail
          go_loopw [13, 14] (fun vl vi wr => ∃ (j c : Nat) (A : Option Addr), j ≤ k ∧ vl = .slice A j c ∧ vi = .int .i64 j ∧ Hid (∃ col, Fm w wr col (tab [(g1, ⟨l, os⟩), (gw, ⟨l, []⟩), (ga, ⟨l, os⟩), (gb, ⟨l, os⟩)]) ∧ Ths wr col A j c)) (fun _ i _ => k - (intOf i).toNat)
          case atStart => exact ⟨0, 0, none, by omega, rfl, rfl, F5⟩
          case round =>
            clear F5
            obtain ⟨j, c, A, hj, rfl, rfl, HFj⟩ := hrel
            obtain ⟨col6, hF6, hT6⟩ := HFj.out
            by_cases hlt : j < k
            · obtain ⟨A', c', w7, hrun, hF7⟩ := Ths.push (ty := 40) hT6 hF6 rfl (by omega)
              have F7 := Lib.hid hF7
              clear hF6 hT6 HFj hF7
              go_wp2_with (at_builtin; refine Ro.wpList_app rfl _ _ _ _ rfl _ _ rfl rfl hrun ?_)
              clear hrun
              go_roundw
              case rel => exact ⟨j + 1, c', A', by omega, rfl, by go_num, F7⟩
              case measure => simp [intOf]; omega
            · obtain rfl : j = k := by omega
              have F6 := Lib.hid hF6
              have T6 := Lib.hid hT6
              clear hF6 hT6 HFj
              have D6 := Lib.hid ((F6.out.crash (i := 3) (kc := c) rfl HFT.out (by omega) T6.out.ints (fun ad e _ q => by
                rw [T6.out.rc ad.block (by rw [e]; rfl)] at q
                cases q) (fun z hz => by rw [List.mem_replicate] at hz; omega) (by omega)).mono (R' := fun e w' => e = .returned (.tuple #[]) ∧ After w wr col6 _ 3 ga ⟨Dk.look ⟨l, os⟩, []⟩ w') (fun e w' p => ⟨p.1, p.2.to (by rw [HCA.out])⟩))
              go_wp2_with fail
              refine D6.out.mono ?_
              rintro e w7 ⟨rfl, col7, -, hF7, -⟩
              rw [tab_put 3 (by decide) (by simp)] at hF7
              have F7 : Hid (Fm w w7 col7 (tab [(g1, ⟨l, os⟩), (gw, ⟨l, []⟩), (ga, ⟨Dk.look ⟨l, os⟩, []⟩), (gb, ⟨l, os⟩)])) := Lib.hid hF7
              clear hF7 D6 F6 T6
              have D7 := Lib.hid (F7.out.sync (i := 4) rfl HFT.out (by omega))
              go_wp2_with fail
              refine D7.out.mono ?_
              rintro e w8 ⟨rfl, col8, -, hF8, -⟩
              rw [tab_put 4 (by decide) (by simp)] at hF8
              have F8 : Hid (Fm w w8 col8 (tab [(g1, ⟨l, os⟩), (gw, ⟨l, []⟩), (ga, ⟨Dk.look ⟨l, os⟩, []⟩), (gb, ⟨Dk.look ⟨l, os⟩, []⟩)])) := Lib.hid hF8
              clear hF8 D7 F7
              have D8 := Lib.hid ((F8.out.crash (i := 1) (KA := none) (kn := 0) (kc := 0) (keep := []) rfl HFT.out (by omega) Mem.Ints.nil (fun ad e _ _ => by cases e) (fun z hz => by cases hz) (by omega)).mono (R' := fun e w' => e = .returned (.tuple #[]) ∧ After w w8 col8 _ 1 g1 ⟨l, []⟩ w') (fun e w' p => ⟨p.1, p.2.to (by rw [HCN.out])⟩))
              go_wp2_with fail
              refine D8.out.mono ?_
              rintro e w9 ⟨rfl, col9, -, hF9, -⟩
              rw [tab_put 1 (by decide) (by simp)] at hF9
              have F9 : Hid (Fm w w9 col9 (tab [(g1, ⟨l, []⟩), (gw, ⟨l, []⟩), (ga, ⟨Dk.look ⟨l, os⟩, []⟩), (gb, ⟨Dk.look ⟨l, os⟩, []⟩)])) := Lib.hid hF9
              clear hF9 D8 F8
              have D9 := Lib.hid (alike_c (F9.out.at_ 3 _ _ rfl) (F9.out.at_ 4 _ _ rfl) HFT.out.look HFT.out.look (by omega) (by omega) rfl)
              go_wp2_with fail
              refine D9.out.mono ?_
              rintro e wa ⟨rfl, hba⟩
              have Fa := Lib.hid (F9.out.below hba (fun _ => 0))
              clear hba D9 F9
              have Da := Lib.hid (alike_c (Fa.out.at_ 1 _ _ rfl) (Fa.out.at_ 2 _ _ rfl) HF0.out HF0.out (by omega) (by omega) rfl)
              have HBa := Lib.hid Fa.out.base
              clear Fa
              go_wp2_with fail
              refine Da.out.mono ?_
              rintro e wb ⟨rfl, hbb⟩
              have HBy := Lib.hid (HBa.out.trans (hbb.mono HBa.out.size))
              clear hbb Da HBa
              go_wp2_with fail
              go_ret
              exact ⟨rfl, HBy.out⟩
theorem walk (v1 v2 v3 : Value) (w : World) (h1 : Frame.Arg Try.prog w 22 v1) (h2 : Frame.Arg Try.prog w 22 v2) (h3 : Frame.Arg Try.prog w 40 v3) :
    Calls Try.prog 7 #[v1, v2, v3] w fun e w' => e = .returned (.bool true) ∧ Below w.heap.size w w' := by
  obtain ⟨A1, n1, c1, ps, rfl, q1⟩ := arg_ops h1
  obtain ⟨A2, n2, c2, qs, rfl, q2⟩ := arg_ops h2
  obtain ⟨A, n, c, zs, rfl, hl, hm, hz, hw⟩ := h3.ints Try.underlying40 Try.underlying3 (by kernel_rfl)
  exact core A1 A2 A n1 c1 n2 c2 n c ps qs zs w q1 q2 hz (fun z h => (Frame.bd_i64 (hw z h)).2) (Nat.le_trans hl hm)
end Go.Proofs.Ytnaidihoijociaa.diskCrash
