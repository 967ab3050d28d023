/- WorldKeeps: the walk. -/
import Derived.Test.YthccojfflmfggaaMgW12
import Derived.Test.YthccojfflmfggaaMgW10
import Derived.Deep.DeepCutAuto
namespace Go.Proofs.Ythccojfflmfggaa.worldKeeps
open Go.RowKit Wo
set_option maxRecDepth 100000 in
set_option maxHeartbeats 16000000 in
theorem core (A : Option Addr) (n c : Nat) (ps : List ActV) (w : World) (h : Mem.Sl w w.heap.size 8 A n (ActV.flat ps)) (hok : ∀ p ∈ ps, p.ok ∧ ActV.lies w w.heap.size p) (hn : n ≤ maxLen) :
    Calls Try.prog 10 #[.slice A n c] w fun e w' => e = .returned (.bool true) ∧ Below w.heap.size w w' := by
  go_enter Try.func10, Try.ntmps10
  go_wp2_with fail
  refine (wawake_c _).mono ?_
  rintro e w1 ⟨rfl, hb1⟩
  go_wp2_with fail
  refine (few_c A n c ps w1 ((h.below hb1).more hb1.size) (fun p hp => ⟨(hok p hp).1, ((hok p hp).2.below hb1).more hb1.size⟩) hn).mono ?_
  rintro e wx ⟨b, rfl, hfew, rfl⟩
  cases b with
  | false =>
    clear hfew
    go_wp2_with fail
    refine (wawake_c _).mono ?_
    rintro e w2 ⟨rfl, hb2⟩
    go_wp2_with fail
    go_ret
    exact ⟨rfl, hb1.trans (hb2.mono hb1.size)⟩
  | true =>
    obtain ⟨hn50, hsm⟩ := hfew rfl
    clear hfew
    go_wp2_with fail
    refine (wnew_c 1 _).mono ?_
    rintro e w2 ⟨rfl, hat, hb2⟩
    have hbb := hb1.trans (hb2.mono hb1.size)
    have I0 := Lib.hid (Inv.start hbb hat (fun k hk => by have := hb1.size; omega))
    generalize wx.heap.size = g at *
    clear hat hb1 hb2
    go_wp2_with fail
    have I1 := Lib.hid (I0.out.add (.cells #[.int .i64 1, .slice none 0 0, .slice none 0 0, .slice none 0 0] 64))
    have M1 := Lib.hid (Mem.Blk.new (w := w2) (t := 64) (cs := #[.int .i64 1, .slice none 0 0, .slice none 0 0, .slice none 0 0]))
    have HS := Lib.hid h
    have HO := Lib.hid hok
    have HM := Lib.hid hsm
    clear h hok hsm I0 hbb
    generalize w2.alloc (.cells #[.int .i64 1, .slice none 0 0, .slice none 0 0, .slice none 0 0] 64) = w3 at *
    generalize w2.heap.size = m at *
    go_loopw [5] (fun vi wr => ∃ (k : Nat) (s : St) (cs : Array Value), k ≤ n ∧ vi = .int .i64 k ∧ Fine k s ∧ Inv w wr (fun b => b = m) g s cs ∧ Mem.Blk wr m 64 cs) (fun i _ => n - (intOf i).toNat)
    case atStart => exact ⟨0, ⟨1, [], [], []⟩, _, by omega, rfl, Fine.nil 1, I1.out.less (fun k hk => .inr hk), M1.out⟩
    case round =>
      obtain ⟨k, s, cs, hk, rfl, hs, hI, hM⟩ := hrel
      clear I1 M1
      by_cases hlt : k < n
      · obtain ⟨rt, AO, nO, cO, AB, nB, cB, AI, nI, cI, rfl⟩ := hI.shape
        have hbr := hI.base
        obtain ⟨ad, hl, rfl, hadb, hbk, hat0⟩ := ActV.at_ HS.out hlt
        have hat := hat0.below hbr hbk
        have hpk := HO.out _ (List.getElem_mem hl)
        have hsk := HM.out _ (List.getElem_mem hl)
        generalize ps[k] = p at *
        have hs' := hs.act (by omega) (acOf p)
        obtain ⟨d, well, wA, wn, wc, id, what, name, size, round, used, uA, un, uc⟩ := p
        have hw0 : wn ≤ 3000 := hsk.1
        have hu0 : un ≤ 60 := hsk.2
        have hlw : Mem.Sl w w.heap.size 1 wA wn (well.map Value.bool) := hpk.2.well
        have hlu : Mem.Sl w w.heap.size 1 uA un (used.map Value.string) := hpk.2.used
        obtain ⟨A1, c1, wa, A2, c2, wb, hr1, hr2, hBa, hBb, hx1, hx2, hRd⟩ := copy_act (d := d) (what := what) (size := size) (round := round) (id := id) (name := name) (wc := wc) (uc := uc) hI hM ((hlw.below hbr).more hbr.size) ((hlu.below hbr).more hbr.size) (by omega) (by omega)
        have hp2 : ActV.ok ⟨d, well, A1, wn, c1, id, what, name, size, round, used, A2, un, c2⟩ := by
          obtain ⟨o1, o2, o3, o4, o5, o6, o7, o8⟩ := hpk.1
          exact ⟨o1, ⟨hRd.r1.le.1, hRd.r1.le.2, o2.2.2.1, o2.2.2.2⟩, o3, o4, o5, o6, o7, ⟨hRd.r2.le.1, hRd.r2.le.2, o8.2.2.1, o8.2.2.2⟩⟩
        have hll : well.length = wn ∧ used.length = un := ⟨hpk.1.well.2.2.1, hpk.1.used.2.2.1⟩
        have hdoes := Lib.hid (Inv.does (p := ⟨d, well, A1, wn, c1, id, what, name, size, round, used, A2, un, c2⟩) hRd.inv hs (by omega) hp2 ⟨Ro.Row.sl hRd.r1, Ro.Row.sl hRd.r2⟩ (by show wn ≤ 5000; omega) (by show un ≤ 5000; omega) (fun ad e hn => .inl (.inr (.inr (.inr (by show Ro.blk A2 = _; rw [show A2 = some ad from e]; rfl))))))
        have hdoes : Hid (Calls Try.prog 24 #[.pointer (some ⟨g, 0, none⟩), .agg #[.int .i64 rt, .slice AO nO cO, .slice AB nB cB, .slice AI nI cI], .agg #[.int .i64 d, .slice A1 wn c1, .string id, .int .i64 what, .string name, .int .i64 size, .int .i64 round, .slice A2 un c2]] (wb.setCell ⟨wr.heap.size, 7, none⟩ (.slice A2 un c2)) fun e w' => ∃ cs', e = .returned (.tuple #[.agg cs', .bool true]) ∧ Inv w w' (Own4 m wr.heap.size A1 A2) g (actS s (acOf ⟨d, well, wA, wn, wc, id, what, name, size, round, used, uA, un, uc⟩)) cs' ∧ Keeps w (Own4 m wr.heap.size A1 A2) (wb.setCell ⟨wr.heap.size, 7, none⟩ (.slice A2 un c2)) w') := hdoes
        generalize actS s (acOf ⟨d, well, wA, wn, wc, id, what, name, size, round, used, uA, un, uc⟩) = s' at *
        obtain ⟨c0, cc1, cc2, c3, c4, c5, c6, c7⟩ := hat
        dsimp only at c0 cc1 cc2 c3 c4 c5 c6 c7
        obtain ⟨d0, d1, d2, d3, d4, d5, d6, d7⟩ := hat0.below hx1 hbk
        obtain ⟨e0, e1, e2, e3, e4, e5, e6, e7⟩ := hat0.below hx2 hbk
        dsimp only at d0 d1 d2 d3 d4 d5 d6 d7 e0 e1 e2 e3 e4 e5 e6 e7
        obtain ⟨f0, f1, f2, f3, f4, f5, f6, f7⟩ := blk8 hBa
        have ff := hBa.frozen
        obtain ⟨g0, g1, g2, g3, g4, g5, g6, g7⟩ := blk8 hBb
        have gf := hBb.frozen
        obtain ⟨q0, q1, q2, q3, qf⟩ := blk4 hRd.mb
        obtain ⟨i0, i1, i2, i3, i4, i5, i6, i7⟩ := blk8 hRd.ab
        have HRd := Lib.hid hRd
        have HF := Lib.hid hs'
        have HC := Lib.hid (show ∀ X, Below w.heap.size w X → ActV.At X (ad.add (k * 8)) ⟨d, well, wA, wn, wc, id, what, name, size, round, used, uA, un, uc⟩ from fun X hX => hat0.below hX hbk)
        have HW := Lib.hid hlw
        have HU := Lib.hid hlu
        clear hI hM hs' hs hpk hsk HO HM hbr hat0 hp2 hBa hBb hRd hx1 hx2 hlw hlu HS
        go_wp2_with (first | (at_builtin; refine Ro.wpList_app rfl _ _ _ _ rfl _ _ rfl rfl hr1 ?_) | (at_builtin; refine Ro.wpList_app rfl _ _ _ _ rfl _ _ rfl rfl hr2 ?_))
        clear c0 cc1 cc2 c3 c4 c5 c6 c7 d0 d1 d2 d3 d4 d5 d6 d7 e0 e1 e2 e3 e4 e5 e6 e7 f0 f1 f2 f3 f4 f5 f6 f7 ff g0 g1 g2 g3 g4 g5 g6 g7 gf q0 q1 q2 q3 qf i0 i1 i2 i3 i4 i5 i6 i7 hr1 hr2
        generalize wr.heap.size = aB at *
        refine hdoes.out.mono ?_
        rintro e w5 ⟨cs', rfl, hi5, hk5⟩
        obtain ⟨rt1, AO1, nO1, cO1, AB1, nB1, cB1, AI1, nI1, cI1, rfl⟩ := hi5.shape
        have hR6 := (HRd.out.does hi5 hk5).below ((Below.refl w5.heap.size w5).alloc (Nat.le_refl _) (.cells #[.int .i64 rt1, .slice AO1 nO1 cO1, .slice AB1 nB1 cB1, .slice AI1 nI1 cI1] 64))
        have hN6 := Mem.Blk.new (w := w5) (t := 64) (cs := #[.int .i64 rt1, .slice AO1 nO1 cO1, .slice AB1 nB1 cB1, .slice AI1 nI1 cI1])
        clear hdoes hi5 hk5 HRd
        obtain ⟨y0, y1, y2, y3, yf⟩ := blk4 hR6.mb
        obtain ⟨x0, x1, x2, x3, xf⟩ := blk4 hN6
        have HR7 : Hid (Rd w (((((w5.alloc (.cells #[.int .i64 rt1, .slice AO1 nO1 cO1, .slice AB1 nB1 cB1, .slice AI1 nI1 cI1] 64)).setCell ⟨m, 0, none⟩ (.int .i64 rt1)).setCell ⟨m, 1, none⟩ (.slice AO1 nO1 cO1)).setCell ⟨m, 2, none⟩ (.slice AB1 nB1 cB1)).setCell ⟨m, 3, none⟩ (.slice AI1 nI1 cI1)) g s' #[.int .i64 rt1, .slice AO1 nO1 cO1, .slice AB1 nB1 cB1, .slice AI1 nI1 cI1] #[.int .i64 rt1, .slice AO1 nO1 cO1, .slice AB1 nB1 cB1, .slice AI1 nI1 cI1] m aB #[.int .i64 d, .slice A1 wn c1, .string id, .int .i64 what, .string name, .int .i64 size, .int .i64 round, .slice A2 un c2] A1 wn c1 well A2 un c2 used) := Lib.hid hR6.setM
        clear hR6 hN6
        generalize hw6 : (w5.alloc (.cells #[.int .i64 rt1, .slice AO1 nO1 cO1, .slice AB1 nB1 cB1, .slice AI1 nI1 cI1] 64)) = w6 at *
        go_wp2_with fail
        clear y0 y1 y2 y3 yf x0 x1 x2 x3 xf hw6
        generalize ((((w6.setCell ⟨m, 0, none⟩ (.int .i64 rt1)).setCell ⟨m, 1, none⟩ (.slice AO1 nO1 cO1)).setCell ⟨m, 2, none⟩ (.slice AB1 nB1 cB1)).setCell ⟨m, 3, none⟩ (.slice AI1 nI1 cI1)) = Y at *
        refine Reg.start (S := fun w' => Below Y.heap.size Y w') (by kernel_rfl) ?_
        refine Reg.takes (n := 3) (by kernel_rfl) (fun _ _ d _ _ h => by cases d <;> exact h) (Below.refl _ _).drew [0, 1, 2, 3, 4, 5, 6, 7, 8, 9] _ _ (by kernel_rfl) ?_
        iterate 10 (refine Reg.det_step rfl (fun K' hK' => ?_); go_simp; (first | (refine hK' _ ?_; clear hK' K') | (apply Exists.intro; refine ⟨fun wx hwx => ?_, hK' _ ?_⟩; (first | rfl | (obtain ⟨i0, i1, i2, i3, i4, i5, i6, i7⟩ := blk8 (HR7.out.ab.below hwx HR7.out.ab.lt); obtain ⟨d0, d1, d2, d3, d4, d5, d6, d7⟩ := HC.out wx (HR7.out.inv.base.trans (hwx.mono HR7.out.inv.base.size)); dsimp only at d0 d1 d2 d3 d4 d5 d6 d7; go_simp; first | done | rfl)); clear hK' K')))
        refine Reg.det_nil ?_
        refine Reg.one (i := 10) (n := 2) (by kernel_rfl) ?_
        refine Reg.call rfl rfl (by go_simp; exact ⟨rfl, rfl⟩) ?_
        refine (sameouts_c A1 wA wn c1 wn wc Y.heap.size w.heap.size well well Y.drew (Ro.Row.sl HR7.out.r1) (HW.out.below HR7.out.inv.base.drew) (by omega) (by omega)).mono ?_
        rintro e wq ⟨rfl, hbq⟩
        have hdd : decide (well = well) = true := by simp
        rw [hdd]
        have SQ : Below Y.heap.size Y wq := (Below.refl _ _).drew.trans hbq
        have HR8 := Lib.hid (HR7.out.below SQ)
        clear hdd
        refine ⟨_, rfl, SQ, ?_⟩
        refine Reg.takes (n := 0) (by kernel_rfl) (fun _ _ d _ _ h => by cases d <;> exact h) SQ [11, 12] _ _ (by kernel_rfl) ?_
        iterate 2 (refine Reg.det_step rfl (fun K' hK' => ?_); go_simp; (first | (refine hK' _ ?_; clear hK' K') | (apply Exists.intro; refine ⟨fun wx hwx => ?_, hK' _ ?_⟩; (first | rfl | (go_simp; first | done | rfl)); clear hK' K')))
        refine Reg.det_nil ?_
        refine wpAnyH_done (by kernel_rfl) ?_ _
        have SQ2 := Lib.hid trivial
        clear SQ SQ2 hbq HR7
        go_wp2_with fail
        generalize wq = Z at *
        go_loopw [9] (fun vi wy => ∃ (kk : Nat) (ys : List Bool), kk ≤ wn ∧ vi = .int .i64 kk ∧ ys.length = wn ∧ Rd w wy g s' #[.int .i64 rt1, .slice AO1 nO1 cO1, .slice AB1 nB1 cB1, .slice AI1 nI1 cI1] #[.int .i64 rt1, .slice AO1 nO1 cO1, .slice AB1 nB1 cB1, .slice AI1 nI1 cI1] m aB #[.int .i64 d, .slice A1 wn c1, .string id, .int .i64 what, .string name, .int .i64 size, .int .i64 round, .slice A2 un c2] A1 wn c1 ys A2 un c2 used) (fun i _ => wn - (intOf i).toNat)
        case atStart => exact ⟨0, well, by omega, rfl, hll.1, HR8.out⟩
        case round =>
          obtain ⟨kk, ys, hkk, rfl, hyl, hR⟩ := hrel
          clear HR8
          by_cases hkl : kk < wn
          · have hle1 := hR.r1.le
            obtain ⟨g1, off, rfl⟩ := hR.r1.some_of (by omega)
            have hyl2 : kk < ys.length := by omega
            have hc1 : wr.cell? ⟨g1, off + kk, none⟩ = some (.bool ys[kk]) := by
              have := hR.r1.cell kk (by simpa using hyl2)
              simpa using this
            have hfz := hR.r1.frozen (off + kk)
            have HNE : Hid (¬ aB = g1) := Lib.hid (fun e => hR.r1.apartB hR.ab (by decide) aB (by show some g1 = some aB; rw [e]) rfl)
            have HSt := Lib.hid ((hR.below (Below.refl _ _).drew).set1 (b := !ys[kk]) hyl2)
            have hyn : Hid ((ys.set kk (!ys[kk])).length = wn) := Lib.hid (by simpa using hyl)
            obtain ⟨i0, i1, i2, i3, i4, i5, i6, i7⟩ := blk8 hR.ab
            have HR9 := Lib.hid hR
            generalize ys[kk] = y at *
            clear hR hyl hyl2
            go_wp2_with fail
            clear i0 i1 i2 i3 i4 i5 i6 i7
            obtain ⟨Y2, rfl⟩ : ∃ x, x = wr := ⟨_, rfl⟩
            refine Reg.start (S := fun w' => Ro.Only (fun b => b = g1) Y2 w') (by kernel_rfl) ?_
            refine Reg.takes (n := 4) (by kernel_rfl) (fun _ _ d _ _ h => by cases d <;> exact h) (Ro.Only.refl _ _).drew [0, 1, 2, 3, 4, 5, 6] _ _ (by kernel_rfl) ?_
            iterate 7 (refine Reg.det_step rfl (fun K' hK' => ?_); go_simp; (first | (refine hK' _ ?_; clear hK' K') | (apply Exists.intro; refine ⟨fun wx hwx => ?_, hK' _ ?_⟩; (first | rfl | (obtain ⟨i0, i1, i2, i3, i4, i5, i6, i7⟩ := blk8 ((hwx.block aB HR9.out.ab.lt HNE.out).trans HR9.out.ab); go_simp; first | done | rfl)); clear hK' K')))
            refine Reg.det_nil ?_
            refine Reg.one (i := 7) (n := 3) (by kernel_rfl) ?_
            refine Reg.val rfl rfl (v := .bool y) (w' := Y2.drew) (by go_simp) (Ro.Only.refl _ _).drew ?_
            refine Reg.takes (n := 1) (by kernel_rfl) (fun _ _ d _ _ h => by cases d <;> exact h) (Ro.Only.refl _ _).drew [8, 9] _ _ (by kernel_rfl) ?_
            iterate 2 (refine Reg.det_step rfl (fun K' hK' => ?_); go_simp; (first | (refine hK' _ ?_; clear hK' K') | (apply Exists.intro; refine ⟨fun wx hwx => ?_, hK' _ ?_⟩; (first | rfl | (obtain ⟨i0, i1, i2, i3, i4, i5, i6, i7⟩ := blk8 ((hwx.block aB HR9.out.ab.lt HNE.out).trans HR9.out.ab); go_simp; first | done | rfl)); clear hK' K')))
            refine Reg.det_nil ?_
            refine Reg.one (i := 10) (n := 0) (by kernel_rfl) ?_
            refine Reg.skip rfl rfl (w' := Y2.drew.setCell ⟨g1, off + kk, none⟩ (.bool (!y))) (by go_simp) ((Ro.Only.refl _ _).drew.trans (Ro.Only.setCell _ _ _) (fun _ _ e => e)) ?_
            refine wpAnyH_done (by kernel_rfl) ?_ _
            go_wp2_with fail
            go_roundw
            case rel => exact ⟨kk + 1, _, by omega, by go_num, hyn.out, HSt.out⟩
            case measure => simp [intOf]; omega
          · obtain rfl : wn = kk := by omega
            obtain ⟨i0, i1, i2, i3, i4, i5, i6, i7⟩ := blk8 hR.ab
            have HR9 := Lib.hid hR
            clear hR
            go_wp2_with fail
            clear i0 i1 i2 i3 i4 i5 i6 i7
            obtain ⟨Z2, rfl⟩ : ∃ x, x = wr := ⟨_, rfl⟩
            go_loopw [10] (fun vi wy => ∃ (kk : Nat) (vs : List ByteArray), kk ≤ un ∧ vi = .int .i64 kk ∧ vs.length = un ∧ Hid (∀ (j : Nat) (h1 : j < vs.length) (h2 : j < used.length), kk ≤ j → vs[j] = used[j]) ∧ Rd w wy g s' #[.int .i64 rt1, .slice AO1 nO1 cO1, .slice AB1 nB1 cB1, .slice AI1 nI1 cI1] #[.int .i64 rt1, .slice AO1 nO1 cO1, .slice AB1 nB1 cB1, .slice AI1 nI1 cI1] m aB #[.int .i64 d, .slice A1 wn c1, .string id, .int .i64 what, .string name, .int .i64 size, .int .i64 round, .slice A2 un c2] A1 wn c1 ys A2 un c2 vs) (fun i _ => un - (intOf i).toNat)
            case atStart => exact ⟨0, used, by omega, rfl, hll.2, fun _ _ _ _ => rfl, HR9.out⟩
            case round =>
              obtain ⟨kk, vs, hkk2, rfl, hyl, HVS, hR⟩ := hrel
              clear HR9
              by_cases hkl2 : kk < un
              · have hle1 := hR.r2.le
                obtain ⟨g2, off, rfl⟩ := hR.r2.some_of (by omega)
                have hyl2 : kk < vs.length := by omega
                have hul2 : kk < used.length := by omega
                have hvu := HVS.out kk hyl2 hul2 (Nat.le_refl _)
                have hc1 : wr.cell? ⟨g2, off + kk, none⟩ = some (.string used[kk]) := by
                  have := hR.r2.cell kk (by simpa using hyl2)
                  rw [← hvu]
                  simpa using this
                obtain ⟨adu, t, hl2, rfl, hal, et, hcu⟩ := Strs.at_ (show Strs w w.heap.size uA un used from HU.out) hkl2
                rw [et] at hc1
                have hcu2 := (hR.inv.base.cell (p := adu.add kk) (by simpa [Mem.add_block] using hal)).trans hcu
                have hfz := hR.r2.frozen (off + kk)
                have HSt := Lib.hid ((hR.below (Below.refl _ _).drew).set2 (t := ⟨#[63]⟩) hyl2)
                have hyn : Hid ((vs.set kk ⟨#[63]⟩).length = un) := Lib.hid (by simpa using hyl)
                have HVN : Hid (∀ (j : Nat) (h1 : j < (vs.set kk ⟨#[63]⟩).length) (h2 : j < used.length), kk + 1 ≤ j → (vs.set kk ⟨#[63]⟩)[j] = used[j]) := Lib.hid fun j h1 h2 hj => by
                  rw [List.getElem_set, if_neg (by omega)]
                  exact HVS.out j (by simpa using h1) h2 (by omega)
                obtain ⟨i0, i1, i2, i3, i4, i5, i6, i7⟩ := blk8 hR.ab
                have HR10 := Lib.hid hR
                have HC1 := Lib.hid hc1
                have HU1 := Lib.hid hcu2
                have HGL := Lib.hid (hR.r2.lt (g := g2) rfl)
                have HAL := Lib.hid (show (adu.add kk).block < wr.heap.size by have := hR.inv.base.size; rw [Mem.add_block]; omega)
                clear hR hyl hyl2 hvu hc1 hcu hcu2 et hl2 hul2 hal HVS
                go_wp2_with fail
                clear i0 i1 i2 i3 i4 i5 i6 i7
                obtain ⟨Y3, rfl⟩ : ∃ x, x = wr := ⟨_, rfl⟩
                refine Reg.start (S := fun w' => Below Y3.heap.size Y3 w') (by kernel_rfl) ?_
                refine Reg.takes (n := 0) (by kernel_rfl) (fun _ _ d _ _ h => by cases d <;> exact h) (Below.refl _ _).drew [0, 1, 2, 3, 4, 5, 6, 7, 8, 9, 10, 11, 12, 13] _ _ (by kernel_rfl) ?_
                iterate 14 (refine Reg.det_step rfl (fun K' hK' => ?_); go_simp; (first | (refine hK' _ ?_; clear hK' K') | (apply Exists.intro; refine ⟨fun wx hwx => ?_, hK' _ ?_⟩; (first | rfl | (obtain ⟨i0, i1, i2, i3, i4, i5, i6, i7⟩ := blk8 (HR10.out.ab.below hwx HR10.out.ab.lt); obtain ⟨d0, d1, d2, d3, d4, d5, d6, d7⟩ := HC.out wx (HR10.out.inv.base.trans (hwx.mono HR10.out.inv.base.size)); dsimp only at d0 d1 d2 d3 d4 d5 d6 d7; have j0 := (hwx.cell (p := ⟨g2, off + kk, none⟩) HGL.out).trans HC1.out; have j1 := (hwx.cell (p := adu.add kk) HAL.out).trans HU1.out; go_simp; first | done | rfl)); clear hK' K')))
                refine Reg.det_nil ?_
                refine wpAnyH_done (by kernel_rfl) ?_ _
                obtain ⟨i0, i1, i2, i3, i4, i5, i6, i7⟩ := blk8 (HR10.out.ab.drew)
                have hc9 := HC1.out
                go_wp2_with fail
                go_roundw
                case rel => exact ⟨kk + 1, _, by omega, by go_num, hyn.out, HVN, HSt.out⟩
                case measure => simp [intOf]; omega
              · obtain rfl : un = kk := by omega
                obtain ⟨i0, i1, i2, i3, i4, i5, i6, i7⟩ := blk8 hR.ab
                have HR10 := Lib.hid hR
                clear hR
                go_wp2_with fail
                go_roundw
                case rel => exact ⟨k + 1, s', _, by omega, by go_num, HF.out, HR10.out.inv.less (fun b e => .inl e), HR10.out.mb⟩
                case measure => simp [intOf]; omega
      · obtain rfl : k = n := by omega
        have HI := Lib.hid hI
        have HMb := Lib.hid hM
        have HF := Lib.hid hs
        have hle : s.bx.length ≤ 100000 := hs.good.nb
        have hli : s.im.length ≤ 100000 := hs.good.ni
        have hlo : s.outs.length ≤ 4096 := hs.good.no
        clear hI hM hs HO HM HS
        obtain ⟨rt, AO, nO, cO, AB, nB, cB, AI, nI, cI, rfl⟩ := HI.out.shape
        go_wp2_with fail
        refine (containersH HI.out.has HF.out.good).mono ?_
        rintro e w4 ⟨⟨AB2, cB2, rfl, hB, hb4, fB⟩, -⟩
        have HI4 := Lib.hid (HI.out.below hb4)
        go_wp2_with fail
        refine (imagesH HI4.out.has HF.out.good).mono ?_
        rintro e w5 ⟨⟨AI2, cI2, rfl, hIm, hb5, fI⟩, -⟩
        have HI5 := Lib.hid (HI4.out.below hb5)
        go_wp2_with fail
        refine (waitingH HI5.out.has HF.out.good).mono ?_
        rintro e w6 ⟨⟨AO2, cO2, rfl, hO, hb6, fO⟩, -⟩
        have HFi := Lib.hid (Fi.start HI.out HMb.out hb4 hB fB hb5 hIm fI hb6 hO fO)
        have hlos : s.outs.length = s.outs.length := rfl
        clear HI HI4 HI5 hB hb4 fB hIm hb5 fI hO hb6 fO HMb
        generalize ConV.flat s.bx = xb0 at *
        generalize ImgV.flat s.im = xi0 at *
        generalize hO0 : s.outs = os0 at *
        generalize s.bx.length = N at *
        generalize s.im.length = K at *
        generalize hMM : os0.length = M at *
        go_wp2_with fail
        go_loopw [14] (fun vi wy => ∃ (i : Nat) (xb : List Value), i ≤ N ∧ vi = .int .i64 i ∧ Fi w wy g s #[.int .i64 rt, .slice AO nO cO, .slice AB nB cB, .slice AI nI cI] m AB2 N cB2 xb AI2 K cI2 xi0 AO2 M cO2 os0) (fun i _ => N - (intOf i).toNat)
        case atStart => exact ⟨0, xb0, by omega, rfl, HFi.out⟩
        case round =>
          obtain ⟨i, xb, hi, rfl, hR⟩ := hrel
          clear HFi
          by_cases hil : i < N
          · have hle1 := hR.rb.le
            obtain ⟨gB, off, rfl⟩ := hR.rb.some_of (by omega)
            have hln := hR.rb.len
            have b0 := hR.rb.cell (i * 4) (by omega)
            have b1 := hR.rb.cell (i * 4 + 1) (by omega)
            have b2 := hR.rb.cell (i * 4 + 2) (by omega)
            have b3 := hR.rb.cell (i * 4 + 3) (by omega)
            simp only [← Nat.add_assoc] at b1 b2 b3
            have bf := hR.rb.frozen
            obtain ⟨xb', hz⟩ := hR.zeroB (a := .string ⟨#[]⟩) (b := .int .i64 0) (c := .int .i64 0) (d := .int .i64 0) hil
            have HZ := Lib.hid hz
            clear hR hz
            go_wp2_with fail
            go_roundw
            case rel => exact ⟨i + 1, xb', by omega, by go_num, HZ.out⟩
            case measure => simp [intOf]; omega
          · obtain rfl : N = i := by omega
            have HR1 := Lib.hid hR
            clear hR
            go_wp2_with fail
            go_loopw [15] (fun vi wy => ∃ (j : Nat) (xi : List Value), j ≤ K ∧ vi = .int .i64 j ∧ Fi w wy g s #[.int .i64 rt, .slice AO nO cO, .slice AB nB cB, .slice AI nI cI] m AB2 N cB2 xb AI2 K cI2 xi AO2 M cO2 os0) (fun i _ => K - (intOf i).toNat)
            case atStart => exact ⟨0, xi0, by omega, rfl, HR1.out⟩
            case round =>
              obtain ⟨j, xi, hj, rfl, hR⟩ := hrel
              clear HR1
              by_cases hjl : j < K
              · have hle1 := hR.ri.le
                obtain ⟨gI, off, rfl⟩ := hR.ri.some_of (by omega)
                have hln := hR.ri.len
                have b0 := hR.ri.cell (j * 3) (by omega)
                have b1 := hR.ri.cell (j * 3 + 1) (by omega)
                have b2 := hR.ri.cell (j * 3 + 2) (by omega)
                simp only [← Nat.add_assoc] at b1 b2
                have bf := hR.ri.frozen
                obtain ⟨xi', hz⟩ := hR.zeroI (a := .string ⟨#[]⟩) (b := .int .i64 0) (c := .int .i64 0) hjl
                have HZ := Lib.hid hz
                clear hR hz
                go_wp2_with fail
                go_roundw
                case rel => exact ⟨j + 1, xi', by omega, by go_num, HZ.out⟩
                case measure => simp [intOf]; omega
              · obtain rfl : K = j := by omega
                have HR2 := Lib.hid hR
                clear hR
                go_wp2_with fail
                go_loopw [16] (fun vi wy => ∃ (l : Nat) (os : List Bool), l ≤ M ∧ vi = .int .i64 l ∧ os.length = M ∧ Fi w wy g s #[.int .i64 rt, .slice AO nO cO, .slice AB nB cB, .slice AI nI cI] m AB2 N cB2 xb AI2 K cI2 xi AO2 M cO2 os) (fun i _ => M - (intOf i).toNat)
                case atStart => exact ⟨0, os0, by omega, rfl, hMM, HR2.out⟩
                case round =>
                  obtain ⟨l, os, hl, rfl, hol, hR⟩ := hrel
                  clear HR2
                  by_cases hll : l < M
                  · have hle1 := hR.ro.le
                    obtain ⟨gO, off, rfl⟩ := hR.ro.some_of (by omega)
                    have hl2 : l < os.length := by omega
                    have b0 : wr.cell? ⟨gO, off + l, none⟩ = some (.bool os[l]) := by
                      have := hR.ro.cell l (by simpa using hl2)
                      simpa using this
                    have bf := hR.ro.frozen
                    have HZ := Lib.hid (hR.flip (x := !os[l]) hl2)
                    have hon : Hid ((os.set l (!os[l])).length = M) := Lib.hid (by simpa using hol)
                    generalize os[l] = o at *
                    clear hR hl2 hol
                    go_wp2_with fail
                    go_roundw
                    case rel => exact ⟨l + 1, _, by omega, by go_num, hon.out, HZ.out⟩
                    case measure => simp [intOf]; omega
                  · obtain rfl : M = l := by omega
                    obtain ⟨m0, m1, m2, m3, mf⟩ := blk4 hR.mb
                    have HR3 := Lib.hid hR
                    clear hR
                    go_wp2_with fail
                    refine (HR3.out.inv.same HF.out (by omega)).mono ?_
                    rintro e wz ⟨rfl, hbz⟩
                    have HB := Lib.hid (HR3.out.inv.base.trans (hbz.mono HR3.out.inv.base.size))
                    go_wp2_with fail
                    go_ret
                    exact ⟨rfl, HB.out⟩
theorem walk (v1 : Value) (w : World) (h1 : Frame.Arg Try.prog w 61 v1) :
    Calls Try.prog 10 #[v1] w fun e w' => e = .returned (.bool true) ∧ Below w.heap.size w w' := by
  obtain ⟨A, n, c, ps, rfl, hc, hm, _, hok, hs⟩ := ActV.of_slice h1
  exact core A n c ps w hs hok (by omega)
end Go.Proofs.Ythccojfflmfggaa.worldKeeps
