/- WorldApart: the walk. -/
import Derived.Test.YthccojfflmfggaaMgW12
import Derived.Test.YthccojfflmfggaaMgW10
import Derived.Deep.DeepCutAuto
namespace Go.Proofs.Ythccojfflmfggaa.worldApart
open Go.RowKit Wo
abbrev tA : ByteArray := ⟨#[97]⟩
abbrev tW : ByteArray := ⟨#[119, 101, 98]⟩
theorem listA : tA.toList = [97] := by kernel_rfl
theorem listW : tW.toList = [119, 101, 98] := by kernel_rfl
set_option maxRecDepth 100000 in
set_option maxHeartbeats 8000000 in
theorem core (A : Option Addr) (n c : Nat) (ps : List ActV) (q round : Int) (well : Bool) (w : World) (h : Mem.Sl w w.heap.size 8 A n (ActV.flat ps)) (hok : ∀ p ∈ ps, p.ok ∧ ActV.lies w w.heap.size p) (hn : n ≤ maxLen) (hq : (Lit.int .i64 q).wf = true) :
    Calls Try.prog 9 #[.slice A n c, .int .i64 q, .int .i64 round, .bool well] w fun e w' => e = .returned (.bool true) ∧ Below w.heap.size w w' := by
  go_enter Try.func9, Try.ntmps9
  go_wp2_with fail
  refine (wawake_c _).mono ?_
  rintro e w1 ⟨rfl, hb1⟩
  go_wp2_with fail
  refine (few_c A n c ps w1 ((h.below hb1).more hb1.size) (fun p hp => ⟨(hok p hp).1, ((hok p hp).2.below hb1).more hb1.size⟩) hn).mono ?_
  rintro e wx ⟨b, rfl, hfew, rfl⟩
  cases b with
  | false =>
    clear hfew
    go_wp2_with fail
    refine (wawake_c _).mono ?_
    rintro e w2 ⟨rfl, hb2⟩
    go_wp2_with fail
    go_ret
    exact ⟨rfl, hb1.trans (hb2.mono hb1.size)⟩
  | true =>
    obtain ⟨hn50, hsm⟩ := hfew rfl
    clear hfew
    by_cases hneg : round < 0
    · go_wp2_with fail
      refine (wawake_c _).mono ?_
      rintro e w2 ⟨rfl, hb2⟩
      go_wp2_with fail
      go_ret
      exact ⟨rfl, hb1.trans (hb2.mono hb1.size)⟩
    go_wp2_with fail
    refine (wnew_c 2 _).mono ?_
    rintro e w2 ⟨rfl, hat, hb2⟩
    have hbb := hb1.trans (hb2.mono hb1.size)
    have I0 := Lib.hid (Inv.start hbb hat (fun k hk => by have := hb1.size; omega))
    generalize wx.heap.size = g at *
    clear hat hb1 hb2
    go_wp2_with fail
    have I1 := Lib.hid (I0.out.add (.cells #[.int .i64 2, .slice none 0 0, .slice none 0 0, .slice none 0 0] 64))
    have M1 := Lib.hid (Mem.Blk.new (w := w2) (t := 64) (cs := #[.int .i64 2, .slice none 0 0, .slice none 0 0, .slice none 0 0]))
    have HS := Lib.hid h
    have HO := Lib.hid hok
    have HM := Lib.hid hsm
    clear h hok hsm I0 hbb
    generalize w2.alloc (.cells #[.int .i64 2, .slice none 0 0, .slice none 0 0, .slice none 0 0] 64) = w3 at *
    generalize w2.heap.size = m at *
    go_loopw [11] (fun vi wr => ∃ (k : Nat) (s : St) (cs : Array Value), k ≤ n ∧ vi = .int .i64 k ∧ Fine k s ∧ Inv w wr (fun b => b = m) g s cs ∧ Mem.Blk wr m 64 cs) (fun i _ => n - (intOf i).toNat)
    case atStart => exact ⟨0, ⟨2, [], [], []⟩, _, by omega, rfl, Fine.nil 2, I1.out.less (fun k hk => .inr hk), M1.out⟩
    case round =>
      obtain ⟨k, s, cs, hk, rfl, hs, hI, hM⟩ := hrel
      clear I1 M1
      by_cases hlt : k < n
      · obtain ⟨rt, AO, nO, cO, AB, nB, cB, AI, nI, cI, rfl⟩ := hI.shape
        have hbr := hI.base
        obtain ⟨ad, hl, rfl, hadb, hbk, hat0⟩ := ActV.at_ HS.out hlt
        have hat := hat0.below hbr hbk
        have hpk := HO.out _ (List.getElem_mem hl)
        have hsk := HM.out _ (List.getElem_mem hl)
        generalize ps[k] = p at *
        have hdoes := Lib.hid (fun (X : World) (E : Nat → Prop) (hX : Inv w X E g s #[.int .i64 rt, .slice AO nO cO, .slice AB nB cB, .slice AI nI cI]) => Inv.does (p := p) hX hs (by omega) hpk.1 ((hpk.2.below hX.base).more hX.base.size) (by have := hsk.1; omega) (by have := hsk.2; omega) (fun ad e hn => .inr (by
          obtain ⟨ad', e', hb', _⟩ := hpk.2.used.2 hn
          rw [e] at e'
          cases e'
          exact hb')))
        have hs' := hs.act (by omega) (acOf p)
        generalize actS s (acOf p) = s' at *
        obtain ⟨d, well2, wA, wn, wc, id, what, name, size, round2, used, uA, un, uc⟩ := p
        have hdoes : Hid (∀ (X : World) (E : Nat → Prop), Inv w X E g s #[.int .i64 rt, .slice AO nO cO, .slice AB nB cB, .slice AI nI cI] → Calls Try.prog 24 #[.pointer (some ⟨g, 0, none⟩), .agg #[.int .i64 rt, .slice AO nO cO, .slice AB nB cB, .slice AI nI cI], .agg #[.int .i64 d, .slice wA wn wc, .string id, .int .i64 what, .string name, .int .i64 size, .int .i64 round2, .slice uA un uc]] X fun e w' => ∃ cs', e = .returned (.tuple #[.agg cs', .bool true]) ∧ Inv w w' E g s' cs' ∧ Keeps w E X w') := hdoes
        obtain ⟨c0, c1, c2, c3, c4, c5, c6, c7⟩ := hat
        dsimp only at c0 c1 c2 c3 c4 c5 c6 c7
        have HI := Lib.hid hI
        have HB := Lib.hid hM
        have HF := Lib.hid hs'
        have HR := Lib.hid hbr
        have HC := Lib.hid (show ∀ X, Below w.heap.size w X → ActV.At X (ad.add (k * 8)) ⟨d, well2, wA, wn, wc, id, what, name, size, round2, used, uA, un, uc⟩ from fun X hX => hat0.below hX hbk)
        clear hI hM hs' hs hpk hsk HO HM hbr hat0
        go_upto_region 10 with fail
        go_cut [12, 13] (fun sx sa wy => ∃ bx cs', sx = .pointer (some ⟨bx, 0, none⟩) ∧ sa = .bool true ∧ Inv w wy (fun b => b = m) g s' cs' ∧ Mem.Blk wy m 64 #[.int .i64 rt, .slice AO nO cO, .slice AB nB cB, .slice AI nI cI] ∧ Mem.Blk wy bx 64 cs' ∧ bx ≠ m)
        case first =>
          have hm0 := (HI.out.lt (k := m) rfl).2
          refine Reg.start (S := fun w' => Keeps w (fun b => b = m) wr w') (by kernel_rfl) ?_
          refine Reg.takes (n := 7) (by kernel_rfl) (fun _ _ d _ _ h => by cases d <;> exact h) Keeps.refl.drew [0, 1, 2, 3, 4, 5] _ _ (by kernel_rfl) ?_
          iterate 6 (refine Reg.det_step rfl (fun K' hK' => ?_); go_simp; (first | (refine hK' _ ?_; clear hK' K') | (apply Exists.intro; refine ⟨fun wx hwx => ?_, hK' _ ?_⟩; (first | rfl | (obtain ⟨k0, k1, k2, k3, kf⟩ := blk4 (hwx.blk rfl HB.out); obtain ⟨k10, k11, k12, k13, k14, k15, k16, k17⟩ := HC.out wx (hwx.base HR.out); dsimp only at k10 k11 k12 k13 k14 k15 k16 k17; go_simp; first | done | rfl)); clear hK' K')))
          refine Reg.det_nil ?_
          refine Reg.two (i := 6) (j := 10) (n := 6) (by kernel_rfl) ?_ ?_
          · refine Reg.call rfl rfl (by go_simp; exact ⟨rfl, rfl⟩) ?_
            refine (hdoes.out wr.drew _ (HI.out.below (Below.refl _ _).drew)).mono ?_
            rintro e w1 ⟨cs', rfl, h1, h2⟩
            obtain ⟨rt1, AO1, nO1, cO1, AB1, nB1, cB1, AI1, nI1, cI1, rfl⟩ := h1.shape
            have S1 : Keeps w (fun b => b = m) wr w1 := h2.undrew
            have Z1 := S1.size
            have HX := Lib.hid h1
            clear h1 h2 hdoes
            refine ⟨_, rfl, S1, ?_⟩
            refine Reg.takes (n := 3) (by kernel_rfl) (fun _ _ d _ _ h => by cases d <;> exact h) S1 [7, 8, 9] _ _ (by kernel_rfl) ?_
            iterate 3 (refine Reg.det_step rfl (fun K' hK' => ?_); go_simp; (first | (refine hK' _ ?_; clear hK' K') | (apply Exists.intro; refine ⟨fun wx hwx => ?_, hK' _ ?_⟩; (first | rfl | (go_simp; first | done | rfl)); clear hK' K')))
            refine Reg.det_nil ?_
            refine Reg.one (i := 10) (n := 2) (by kernel_rfl) ?_
            refine Reg.val rfl rfl (v := .pointer (some ⟨w1.heap.size, 0, none⟩)) (w' := w1.alloc (.cells #[.int .i64 0, .slice none 0 0, .slice none 0 0, .slice none 0 0] 64)) (by go_simp) (S1.alloc _) ?_
            refine Reg.one (i := 11) (n := 1) (by kernel_rfl) ?_
            refine Reg.skip rfl rfl (w' := w1.alloc (.cells #[.int .i64 rt1, .slice AO1 nO1 cO1, .slice AB1 nB1 cB1, .slice AI1 nI1 cI1] 64)) (by go_simp) (S1.alloc _) ?_
            refine Reg.takes (n := 0) (by kernel_rfl) (fun _ _ d _ _ h => by cases d <;> exact h) (S1.alloc _) [12] _ _ (by kernel_rfl) ?_
            iterate 1 (refine Reg.det_step rfl (fun K' hK' => ?_); go_simp; (first | (refine hK' _ ?_; clear hK' K') | (apply Exists.intro; refine ⟨fun wx hwx => ?_, hK' _ ?_⟩; (first | rfl | (go_simp; first | done | rfl)); clear hK' K')))
            refine Reg.det_nil ?_
            refine wpAnyH_done (by kernel_rfl) ?_ _
            go_wp2_with fail
            go_meet
            exact ⟨_, _, rfl, rfl, HX.out.below ((Below.refl _ _).alloc (Nat.le_refl _) _), (S1.blk rfl HB.out).alloc, Mem.Blk.new, by omega⟩
          · refine Reg.val rfl rfl (v := .pointer (some ⟨wr.heap.size, 0, none⟩)) (w' := (wr.drew.alloc (.cells #[.int .i64 0, .slice none 0 0, .slice none 0 0, .slice none 0 0] 64))) (by go_simp) (Keeps.refl.drew.alloc _) ?_
            refine Reg.one (i := 6) (n := 5) (by kernel_rfl) ?_
            refine Reg.call rfl rfl (by go_simp; exact ⟨rfl, rfl⟩) ?_
            refine (hdoes.out (wr.drew.alloc (.cells #[.int .i64 0, .slice none 0 0, .slice none 0 0, .slice none 0 0] 64)) _ ((HI.out.below (Below.refl _ _).drew).add (.cells #[.int .i64 0, .slice none 0 0, .slice none 0 0, .slice none 0 0] 64))).mono ?_
            rintro e w1 ⟨cs', rfl, h1, h2⟩
            obtain ⟨rt1, AO1, nO1, cO1, AB1, nB1, cB1, AI1, nI1, cI1, rfl⟩ := h1.shape
            have N2 : Mem.Blk w1 wr.heap.size 64 #[.int .i64 0, .slice none 0 0, .slice none 0 0, .slice none 0 0] := h2.blk (.inr rfl) (Mem.Blk.new (w := wr.drew))
            obtain ⟨a0, a1, a2, a3, af⟩ := blk4 N2
            have S1 : Keeps w (fun b => b = m) wr w1 := (Keeps.refl.drew.alloc (.cells #[.int .i64 0, .slice none 0 0, .slice none 0 0, .slice none 0 0] 64)).trans (h2.mono fun k _ e => .inl e)
            have S3 : Keeps w (fun b => b = m) wr ((((w1.setCell ⟨wr.heap.size, 0, none⟩ (.int .i64 rt1)).setCell ⟨wr.heap.size, 1, none⟩ (.slice AO1 nO1 cO1)).setCell ⟨wr.heap.size, 2, none⟩ (.slice AB1 nB1 cB1)).setCell ⟨wr.heap.size, 3, none⟩ (.slice AI1 nI1 cI1)) := S1.put (only4 w1 wr.heap.size _ _ _ _) (fun k hk e => by omega)
            have HM3 : Hid (Mem.Blk ((((w1.setCell ⟨wr.heap.size, 0, none⟩ (.int .i64 rt1)).setCell ⟨wr.heap.size, 1, none⟩ (.slice AO1 nO1 cO1)).setCell ⟨wr.heap.size, 2, none⟩ (.slice AB1 nB1 cB1)).setCell ⟨wr.heap.size, 3, none⟩ (.slice AI1 nI1 cI1)) m 64 #[.int .i64 rt, .slice AO nO cO, .slice AB nB cB, .slice AI nI cI]) := Lib.hid (S3.blk rfl HB.out)
            have HX := Lib.hid ((h1.put (only4 w1 wr.heap.size (.int .i64 rt1) (.slice AO1 nO1 cO1) (.slice AB1 nB1 cB1) (.slice AI1 nI1 cI1)) (fun k e => .inr e)).less (E' := fun b => b = m) (fun k e => .inl e))
            have NX : Hid (Mem.Blk ((((w1.setCell ⟨wr.heap.size, 0, none⟩ (.int .i64 rt1)).setCell ⟨wr.heap.size, 1, none⟩ (.slice AO1 nO1 cO1)).setCell ⟨wr.heap.size, 2, none⟩ (.slice AB1 nB1 cB1)).setCell ⟨wr.heap.size, 3, none⟩ (.slice AI1 nI1 cI1)) wr.heap.size 64 #[.int .i64 rt1, .slice AO1 nO1 cO1, .slice AB1 nB1 cB1, .slice AI1 nI1 cI1]) := Lib.hid ((((N2.set_ 0 (.int .i64 rt1)).set_ 1 (.slice AO1 nO1 cO1)).set_ 2 (.slice AB1 nB1 cB1)).set_ 3 (.slice AI1 nI1 cI1))
            clear h1 h2 hdoes
            refine ⟨_, rfl, S1, ?_⟩
            refine Reg.takes (n := 2) (by kernel_rfl) (fun _ _ d _ _ h => by cases d <;> exact h) S1 [7, 8, 9] _ _ (by kernel_rfl) ?_
            iterate 3 (refine Reg.det_step rfl (fun K' hK' => ?_); go_simp; (first | (refine hK' _ ?_; clear hK' K') | (apply Exists.intro; refine ⟨fun wx hwx => ?_, hK' _ ?_⟩; (first | rfl | (go_simp; first | done | rfl)); clear hK' K')))
            refine Reg.det_nil ?_
            refine Reg.one (i := 11) (n := 1) (by kernel_rfl) ?_
            refine Reg.skip rfl rfl (w' := ((((w1.setCell ⟨wr.heap.size, 0, none⟩ (.int .i64 rt1)).setCell ⟨wr.heap.size, 1, none⟩ (.slice AO1 nO1 cO1)).setCell ⟨wr.heap.size, 2, none⟩ (.slice AB1 nB1 cB1)).setCell ⟨wr.heap.size, 3, none⟩ (.slice AI1 nI1 cI1))) (by go_simp) S3 ?_
            refine Reg.takes (n := 0) (by kernel_rfl) (fun _ _ d _ _ h => by cases d <;> exact h) S3 [12] _ _ (by kernel_rfl) ?_
            iterate 1 (refine Reg.det_step rfl (fun K' hK' => ?_); go_simp; (first | (refine hK' _ ?_; clear hK' K') | (apply Exists.intro; refine ⟨fun wx hwx => ?_, hK' _ ?_⟩; (first | rfl | (go_simp; first | done | rfl)); clear hK' K')))
            refine Reg.det_nil ?_
            refine wpAnyH_done (by kernel_rfl) ?_ _
            go_wp2_with fail
            go_meet
            exact ⟨_, _, rfl, rfl, HX.out, HM3.out, NX.out, by omega⟩
        case rest =>
          obtain ⟨bx, cs', rfl, rfl, hI2, hMm, hXb, hne⟩ := hcut
          obtain ⟨rt1, AO1, nO1, cO1, AB1, nB1, cB1, AI1, nI1, cI1, rfl⟩ := hI2.shape
          obtain ⟨x0, x1, x2, x3, xf⟩ := blk4 hXb
          obtain ⟨y0, y1, y2, y3, yf⟩ := blk4 hMm
          have ho : Ro.Only (fun b => b = m) wc ((((wc.setCell ⟨m, 0, none⟩ (.int .i64 rt1)).setCell ⟨m, 1, none⟩ (.slice AO1 nO1 cO1)).setCell ⟨m, 2, none⟩ (.slice AB1 nB1 cB1)).setCell ⟨m, 3, none⟩ (.slice AI1 nI1 cI1)) := only4 wc m _ _ _ _
          have HI3 := Lib.hid (hI2.put ho (fun k e => e))
          have HM3 : Hid (Mem.Blk ((((wc.setCell ⟨m, 0, none⟩ (.int .i64 rt1)).setCell ⟨m, 1, none⟩ (.slice AO1 nO1 cO1)).setCell ⟨m, 2, none⟩ (.slice AB1 nB1 cB1)).setCell ⟨m, 3, none⟩ (.slice AI1 nI1 cI1)) m 64 #[.int .i64 rt1, .slice AO1 nO1 cO1, .slice AB1 nB1 cB1, .slice AI1 nI1 cI1]) := Lib.hid ((((hMm.set_ 0 (.int .i64 rt1)).set_ 1 (.slice AO1 nO1 cO1)).set_ 2 (.slice AB1 nB1 cB1)).set_ 3 (.slice AI1 nI1 cI1))
          clear hI2 hMm hXb hne ho c0 c1 c2 c3 c4 c5 c6 c7 HI HB hdoes
          go_wp2_with fail
          go_roundw
          case rel => exact ⟨k + 1, s', _, by omega, by go_num, HF.out, HI3.out, HM3.out⟩
          case measure => simp [intOf]; omega
      · obtain rfl : k = n := by omega
        have HI := Lib.hid hI
        have HF := Lib.hid hs
        have hle : s.bx.length ≤ 100000 := hs.good.nb
        have hli : s.im.length ≤ 100000 := hs.good.ni
        clear hI hM hs HO HM HS
        go_wp2_with fail
        refine (containersH HI.out.has HF.out.good).mono ?_
        rintro e w4 ⟨⟨AB, cB, rfl, hB, hb4, fB⟩, -⟩
        have HI4 := Lib.hid (HI.out.below hb4)
        go_wp2_with fail
        refine (imagesH HI4.out.has HF.out.good).mono ?_
        rintro e w5 ⟨⟨AI, cI, rfl, hIm, hb5, fI⟩, -⟩
        have A5 := Lib.hid (Apt.start HI.out hb4 hB fB hb5 hIm fI)
        clear HI HI4 hb4 hb5 hB fB hIm fI
        go_wp2_with fail
        have A6 := Lib.hid (A5.out.below ((Below.refl _ _).alloc (Nat.le_refl _) (.cells #[.bool well] 4)))
        refine (feed1 (b := well) A6.out.has HF.out (Mem.Sl.more (Mem.new_sl rfl rfl rfl) (by simp))).mono ?_
        rintro e w6 ⟨⟨E6, rfl⟩, hp⟩
        have A7 := Lib.hid (A6.out.run hp)
        clear hp A5 A6
        go_wp2_with fail
        refine (ask1 (id := tA) (q := q) (round := round) A7.out.has HF.out.ap1 hq).mono ?_
        rintro e w7 ⟨⟨b7, E7, rfl⟩, hp⟩
        have A8 := Lib.hid (A7.out.run hp)
        clear hp A7
        go_wp2_with fail
        refine (drop1 (name := tW) A8.out.has HF.out.ap1.ap2).mono ?_
        rintro e w8 ⟨⟨b8, E8, rfl⟩, hp⟩
        have A9 : Hid (Apt w w8 g (apS s well tA q round tW) AB s.bx.length cB s.bx AI s.im.length cI s.im) := Lib.hid (A8.out.run hp)
        have HF9 := Lib.hid (HF.out.apS (b := well) (id := tA) (q := q) (round := round) (name := tW))
        have HBx := Lib.hid (fun (p : ConV) (hp : p ∈ s.bx) (hn : p.id ≠ tA) => apS_box (b := well) (q := q) (round := round) (name := tW) HF.out hp hn)
        have HIx := Lib.hid (fun (x : ImgV) (hx : x ∈ s.im) (hn : x.name ≠ tW) => apS_img (b := well) (id := tA) (q := q) (round := round) HF.out hx hn)
        generalize apS s well tA q round tW = t at *
        clear hp A8
        generalize hN : s.bx.length = N at *
        go_wp2_with fail
        go_loopw [16] (fun vi wr => ∃ i : Nat, i ≤ N ∧ vi = .int .i64 i ∧ Apt w wr g t AB N cB s.bx AI s.im.length cI s.im) (fun i _ => N - (intOf i).toNat)
        case atStart => exact ⟨0, by omega, rfl, A9.out⟩
        case round =>
          obtain ⟨i, hi, rfl, hA⟩ := hrel
          clear A9
          by_cases hil : i < N
          · obtain ⟨ad, hl, rfl, _, hbk, hat⟩ := ConV.at_ (Ro.Row.sl hA.rb) hil
            have hin : s.bx[i] ∈ s.bx := List.getElem_mem hl
            have hBp := Lib.hid (fun hn => HBx.out _ hin hn)
            have HAt := Lib.hid hat
            have HBk := Lib.hid hbk
            clear hin
            generalize s.bx[i] = p at *
            obtain ⟨pid, pst, ptr, pls⟩ := p
            obtain ⟨c0, c1, c2, c3⟩ := hat
            dsimp only at c0 c1 c2 c3 hBp
            have HA := Lib.hid hA
            clear hA hbk
            go_wp2_with fail
            refine (boxH (id := pid) HA.out.has HF9.out.good).mono ?_
            rintro e wb ⟨rfl, hbb, -⟩
            have HA2 := Lib.hid (HA.out.below hbb)
            have HAt2 := Lib.hid (HAt.out.below hbb HBk.out)
            have HBk2 := Lib.hid (Nat.lt_of_lt_of_le HBk.out hbb.size)
            clear HA HAt HBk c0 c1 c2 c3 hbb
            by_cases hpa : pid = tA
            · subst hpa
              clear hBp
              have hE : ((tA : ByteArray).toList == (tA : ByteArray).toList) = true := by simp
              generalize (boxOf t.bx tA).1 = z1 at *
              generalize (boxOf t.bx tA).2 = z2 at *
              generalize Str.has (ids t.bx) tA = z3 at *
              go_wp2_with fail
              have HX := Lib.hid (HA2.out.below ((Below.refl wb.heap.size wb).alloc (Nat.le_refl _) (.cells #[.int .i64 z1, .int .i64 z2] 44)))
              have HBB : Hid (Below wb.heap.size wb (wb.alloc (.cells #[.int .i64 z1, .int .i64 z2] 44))) := Lib.hid ((Below.refl _ _).alloc (Nat.le_refl _) _)
              have HAY := Lib.hid (HAt2.out.below HBB.out HBk2.out)
              have HBY := Lib.hid (Nat.lt_of_lt_of_le HBk2.out HBB.out.size)
              have HNw := Lib.hid (Mem.Blk.new (w := wb) (t := 44) (cs := #[.int .i64 z1, .int .i64 z2]))
              clear HA2 HAt2 HBk2 HBB
              generalize wb.alloc (.cells #[.int .i64 z1, .int .i64 z2] 44) = Y at *
              generalize wb.heap.size = G at *
              have HGL := Lib.hid HNw.out.lt
              have HB0 := Lib.hid (HNw.out.cell 0)
              have HB1 := Lib.hid (HNw.out.cell 1)
              clear HNw
              refine Reg.start (S := fun w' => Below Y.heap.size Y w') (by kernel_rfl) ?_
              refine Reg.takes (n := 0) (by kernel_rfl) (fun _ _ d _ _ h => by cases d <;> exact h) (Below.refl _ _).drew [0, 1, 2, 3, 4, 5, 6, 7, 8, 9, 10, 11, 12, 13, 14, 15, 16, 17, 18] _ _ (by kernel_rfl) ?_
              iterate 19 (refine Reg.det_step rfl (fun K' hK' => ?_); go_simp; (first | (refine hK' _ ?_; clear hK' K') | (apply Exists.intro; refine ⟨fun wx hwx => ?_, hK' _ ?_⟩; (first | rfl | (obtain ⟨i0, i1, i2, i3⟩ := HAY.out.below hwx HBY.out; dsimp only at i0 i1 i2; have j0 := (hwx.cell (p := ⟨G, 0, none⟩) HGL.out).trans HB0.out; have j1 := (hwx.cell (p := ⟨G, 1, none⟩) HGL.out).trans HB1.out; go_simp; first | done | rfl)); clear hK' K')))
              refine Reg.det_nil ?_
              refine wpAnyH_done (by kernel_rfl) ?_ _
              go_wp2_with fail
              go_roundw
              case rel => exact ⟨i + 1, by omega, by go_num, HX.out.below (Below.refl _ _).drew⟩
              case measure => simp [intOf]; omega
            · obtain ⟨e1, e2⟩ := hBp.out hpa
              have hE : ¬ pid.toList = [97] := fun e => hpa (bytes_eq (e.trans listA.symm))
              rw [e1, e2]
              have hE2 : ∀ v, (binOp .neq 44 (.agg #[.int .i64 pst, .int .i64 ptr]) (.agg #[.int .i64 pst, .int .i64 ptr])).run Try.prog v = .ok (.bool false) v := fun v => (neq_box v _ _ _ _).trans (by simp)
              clear e1 e2 hBp
              dsimp only
              go_wp2_with fail
              have HX := Lib.hid (HA2.out.below ((Below.refl wb.heap.size wb).alloc (Nat.le_refl _) (.cells #[.int .i64 pst, .int .i64 ptr] 44)))
              have HBB : Hid (Below wb.heap.size wb (wb.alloc (.cells #[.int .i64 pst, .int .i64 ptr] 44))) := Lib.hid ((Below.refl _ _).alloc (Nat.le_refl _) _)
              have HAY := Lib.hid (HAt2.out.below HBB.out HBk2.out)
              have HBY := Lib.hid (Nat.lt_of_lt_of_le HBk2.out HBB.out.size)
              have HNw := Lib.hid (Mem.Blk.new (w := wb) (t := 44) (cs := #[.int .i64 pst, .int .i64 ptr]))
              clear HA2 HAt2 HBk2 HBB
              generalize wb.alloc (.cells #[.int .i64 pst, .int .i64 ptr] 44) = Y at *
              generalize wb.heap.size = G at *
              have HGL := Lib.hid HNw.out.lt
              have HB0 := Lib.hid (HNw.out.cell 0)
              have HB1 := Lib.hid (HNw.out.cell 1)
              clear HNw
              refine Reg.start (S := fun w' => Below Y.heap.size Y w') (by kernel_rfl) ?_
              refine Reg.takes (n := 0) (by kernel_rfl) (fun _ _ d _ _ h => by cases d <;> exact h) (Below.refl _ _).drew [0, 1, 2, 3, 4, 5, 6, 7, 8, 9, 10, 11, 12, 13, 14, 15, 16, 17, 18] _ _ (by kernel_rfl) ?_
              iterate 19 (refine Reg.det_step rfl (fun K' hK' => ?_); go_simp; (first | (refine hK' _ ?_; clear hK' K') | (apply Exists.intro; refine ⟨fun wx hwx => ?_, hK' _ ?_⟩; (first | rfl | (obtain ⟨i0, i1, i2, i3⟩ := HAY.out.below hwx HBY.out; dsimp only at i0 i1 i2; have j0 := (hwx.cell (p := ⟨G, 0, none⟩) HGL.out).trans HB0.out; have j1 := (hwx.cell (p := ⟨G, 1, none⟩) HGL.out).trans HB1.out; go_simp; first | done | rfl)); clear hK' K')))
              refine Reg.det_nil ?_
              refine wpAnyH_done (by kernel_rfl) ?_ _
              go_wp2_with fail
              go_roundw
              case rel => exact ⟨i + 1, by omega, by go_num, HX.out.below (Below.refl _ _).drew⟩
              case measure => simp [intOf]; omega
          · obtain rfl : i = N := by omega
            have HA := Lib.hid hA.less
            clear hA HBx
            go_wp2_with fail
            refine (imagesH HA.out.has HF9.out.good).mono ?_
            rintro e wc ⟨⟨AN, cN, rfl, hR, hbc, -⟩, -⟩
            have HI0 := Lib.hid (HA.out.below hbc)
            have HR := Lib.hid (Ro.Row.sl hR)
            have hlt9 : t.im.length ≤ 100000 := HF9.out.good.ni
            have hL : Hid (t.im.length = t.im.length) := Lib.hid rfl
            generalize hM : t.im.length = M at *
            generalize hK : s.im.length = K at *
            clear hL hR hbc HA
            have HI1 := Lib.hid (Ro.Row.sl HI0.out.ri)
            go_wp2_with fail
            go_loopw [20] (fun vi wr => ∃ j : Nat, j ≤ K ∧ vi = .int .i64 j ∧ Below wc.heap.size wc wr) (fun j _ => K - (intOf j).toNat)
            case atStart => exact ⟨0, by omega, rfl, Below.refl _ _⟩
            case round =>
              obtain ⟨j, hj, rfl, hbr⟩ := hrel
              obtain ⟨WO, rfl⟩ : ∃ x, x = wr := ⟨_, rfl⟩
              by_cases hjl : j < K
              · obtain ⟨ad, hl, rfl, _, hbk, hat⟩ := ImgV.at_ (HI1.out.below hbr) hjl
                have hxm : s.im[j] ∈ s.im := List.getElem_mem hl
                have HFd := Lib.hid (fun (hn : s.im[j].name ≠ tW) => HIx.out _ hxm hn)
                have HBk := Lib.hid hbk
                clear hxm hbk
                generalize s.im[j] = x at *
                have hEq : ((x.name.toList == [119, 101, 98]) = true ∧ x.name = tW) ∨ ((x.name.toList == [119, 101, 98]) = false ∧ x.name ≠ tW) := by
                  by_cases e : x.name = tW
                  · exact .inl ⟨by rw [e]; kernel_rfl, e⟩
                  · exact .inr ⟨beq_eq_false_iff_ne.2 (fun c => e (bytes_eq (c.trans listW.symm))), e⟩
                obtain ⟨f0, hf0, hfd⟩ : ∃ f0, (x.name.toList == [119, 101, 98]) = f0 ∧ (f0 = true ∨ x ∈ t.im) := by
                  rcases hEq with ⟨e1, -⟩ | ⟨e1, e2⟩
                  · exact ⟨_, e1, .inl rfl⟩
                  · exact ⟨_, e1, .inr (HFd.out e2)⟩
                have HFN := Lib.hid hfd
                clear hEq HFd hfd
                have HX := Lib.hid hat
                have HFA : Hid (fnd t.im x f0 M = true) := Lib.hid (fnd_all (by omega) HFN.out)
                have HFS := Lib.hid (fun (kk : Nat) (h : kk < t.im.length) => fnd_succ (x := x) (f := f0) h)
                have HF0 : Hid (fnd t.im x f0 0 = f0) := Lib.hid fnd_zero
                clear HFN
                obtain ⟨F, hFF⟩ : ∃ F, F = fnd t.im x f0 := ⟨_, rfl⟩
                rw [← hFF] at HFA HFS HF0
                clear hFF
                obtain ⟨xn, xs, xl⟩ := x
                obtain ⟨c0, c1, c2⟩ := hat
                dsimp only at c0 c1 c2 hf0
                go_wp2_with fail
                clear c0 c1 c2
                go_loopw [21, 22] (fun vf vi wr2 => ∃ kk : Nat, kk ≤ M ∧ vi = .int .i64 kk ∧ vf = .bool (F kk) ∧ Below WO.heap.size WO wr2) (fun _ i _ => M - (intOf i).toNat)
                case atStart => exact ⟨0, by omega, rfl, by rw [HF0.out], Below.refl _ _⟩
                case round =>
                  obtain ⟨kk, hkk, rfl, rfl, hb2⟩ := hrel
                  by_cases hkl : kk < M
                  · obtain ⟨ad2, hl2, rfl, _, hbk2, hat2⟩ := ImgV.at_ (HR.out.below hbr) hkl
                    have hS := HFS.out kk hl2
                    have hat2 := hat2.below hb2 (Nat.lt_of_lt_of_le hbk2 hbr.size)
                    have HB2 := Lib.hid (Nat.lt_of_lt_of_le (Nat.lt_of_lt_of_le hbk2 hbr.size) hb2.size)
                    have HX2 := Lib.hid (HX.out.below hb2 (Nat.lt_of_lt_of_le HBk.out hbr.size))
                    have HB1 := Lib.hid (Nat.lt_of_lt_of_le (Nat.lt_of_lt_of_le HBk.out hbr.size) hb2.size)
                    have HY2 := Lib.hid hat2
                    have HSu := Lib.hid hS
                    clear hat2 hbk2 hS
                    generalize t.im[kk] = y at *
                    obtain ⟨yn, ys, yl⟩ := y
                    have hE : ∀ v, (binOp .eql 54 (.agg #[.string yn, .int .i64 ys, .int .i64 yl]) (.agg #[.string xn, .int .i64 xs, .int .i64 xl])).run Try.prog v = .ok (.bool (sameI ⟨yn, ys, yl⟩ ⟨xn, xs, xl⟩)) v := fun v => eq_img v ⟨yn, ys, yl⟩ ⟨xn, xs, xl⟩
                    generalize sameI ⟨yn, ys, yl⟩ ⟨xn, xs, xl⟩ = sm at *
                    clear hl2
                    generalize hfk : F kk = fk at *
                    cases fk with
                    | true =>
                      go_wp2_with fail
                      refine Reg.start (S := fun w' => Below wr.heap.size wr w') (by kernel_rfl) ?_
                      refine Reg.takes (n := 0) (by kernel_rfl) (fun _ _ d _ _ h => by cases d <;> exact h) (Below.refl _ _).drew [0, 1, 2, 3, 4, 5, 6, 7, 8, 9, 10, 11, 12] _ _ (by kernel_rfl) ?_
                      iterate 13 (refine Reg.det_step rfl (fun K' hK' => ?_); go_simp; (first | (refine hK' _ ?_; clear hK' K') | (apply Exists.intro; refine ⟨fun wx hwx => ?_, hK' _ ?_⟩; (first | rfl | (go_simp; first | done | rfl)); clear hK' K')))
                      refine Reg.det_nil ?_
                      refine wpAnyH_done (by kernel_rfl) ?_ _
                      go_wp2_with fail
                      go_roundw
                      case rel => exact ⟨kk + 1, by omega, by go_num, by rw [HSu.out]; rfl, hb2.drew⟩
                      case measure => simp [intOf]; omega
                    | false =>
                      go_wp2_with fail
                      refine Reg.start (S := fun w' => Below wr.heap.size wr w') (by kernel_rfl) ?_
                      refine Reg.takes (n := 0) (by kernel_rfl) (fun _ _ d _ _ h => by cases d <;> exact h) (Below.refl _ _).drew [0, 1, 2, 3, 4, 5, 6, 7, 8, 9, 10, 11, 12] _ _ (by kernel_rfl) ?_
                      iterate 13 (refine Reg.det_step rfl (fun K' hK' => ?_); go_simp; (first | (refine hK' _ ?_; clear hK' K') | (apply Exists.intro; refine ⟨fun wx hwx => ?_, hK' _ ?_⟩; (first | rfl | (obtain ⟨i0, i1, i2⟩ := HY2.out.below hwx HB2.out; obtain ⟨j0, j1, j2⟩ := HX2.out.below hwx HB1.out; dsimp only at i0 i1 i2 j0 j1 j2; go_simp; first | done | rfl)); clear hK' K')))
                      refine Reg.det_nil ?_
                      refine wpAnyH_done (by kernel_rfl) ?_ _
                      go_wp2_with fail
                      go_roundw
                      case rel => exact ⟨kk + 1, by omega, by go_num, by rw [HSu.out]; rfl, hb2.drew⟩
                      case measure => simp [intOf]; omega
                  · obtain rfl : kk = M := by omega
                    rw [HFA.out]
                    go_wp2_with fail
                    go_roundw
                    case rel => exact ⟨j + 1, by omega, by go_num, hbr.trans (hb2.mono hbr.size)⟩
                    case measure => simp [intOf]; omega
              · obtain rfl : j = K := by omega
                go_wp2_with fail
                go_ret
                exact ⟨rfl, HI0.out.base.trans (hbr.mono HI0.out.base.size)⟩
theorem walk (v1 v2 v3 v4 : Value) (w : World) (h1 : Frame.Arg Try.prog w 61 v1) (h2 : Frame.Arg Try.prog w 3 v2) (h3 : Frame.Arg Try.prog w 3 v3) (h4 : Frame.Arg Try.prog w 4 v4) :
    Calls Try.prog 9 #[v1, v2, v3, v4] w fun e w' => e = .returned (.bool true) ∧ Below w.heap.size w w' := by
  obtain ⟨A, n, c, ps, rfl, hc, hm, _, hok, hs⟩ := ActV.of_slice h1
  obtain ⟨q, rfl, hq⟩ := h2.int Try.underlying3
  obtain ⟨r, rfl, _⟩ := h3.int Try.underlying3
  obtain ⟨b, rfl⟩ := h4.bool Try.underlying4
  exact core A n c ps q r b w hs hok (by omega) hq
end Go.Proofs.Ythccojfflmfggaa.worldApart
