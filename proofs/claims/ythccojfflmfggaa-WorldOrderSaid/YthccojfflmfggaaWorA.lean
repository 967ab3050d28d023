/- The walks of layer 16 (world): awake. -/
import Derived.Test.YthccojfflmfggaaWorQ
namespace Go.Proofs.Ythccojfflmfggaa
open Go.RowKit
namespace Wo
abbrev tP : ByteArray := ⟨#[112]⟩
abbrev tQ : ByteArray := ⟨#[113]⟩
abbrev tW : ByteArray := ⟨#[119, 101, 98]⟩
def a0 : St := ⟨1, [], [], []⟩
def a1 : St := ⟨1, [false], [], []⟩
def a2 : St := ⟨1, [false], [⟨tP, 1, 0, 3⟩], []⟩
def a3 : St := ⟨1, [], [⟨tP, 1, 1, 3⟩], []⟩
def a4 : St := ⟨1, [], [⟨tP, 2, 0, 5⟩], [⟨tW, 9, 5⟩]⟩
def a5 : St := ⟨1, [], [⟨tP, 3, 0, 6⟩], [⟨tW, 9, 5⟩]⟩
theorem good_one {rt : Int} {outs : List Bool} {p : ConV} {im : List ImgV} (hp : Box.Ok (p.st, p.tr)) (ho : outs.length ≤ 4096) (hi : im.length ≤ 1) : Good ⟨rt, outs, [p], im⟩ where
  rb := List.pairwise_singleton _ _
  ri := by
    match im, hi with
    | [], _ => exact List.Pairwise.nil
    | [x], _ => exact List.pairwise_singleton _ _
  ok := by
    intro q hq
    obtain rfl : q = p := by simpa using hq
    exact hp
  nb := by show 1 ≤ 100000; omega
  ni := by show im.length ≤ 100000; omega
  no := ho
theorem good_nil {rt : Int} {outs : List Bool} (ho : outs.length ≤ 4096) : Good ⟨rt, outs, [], []⟩ := ⟨List.Pairwise.nil, List.Pairwise.nil, (fun p hp => by cases hp), Nat.zero_le _, Nat.zero_le _, ho⟩
theorem g0 : Good a0 := good_nil (by decide)
theorem g1 : Good a1 := good_nil (by decide)
theorem g2 : Good a2 := good_one ⟨by decide, by decide, by decide, by decide⟩ (by decide) (by decide)
theorem g3 : Good a3 := good_one ⟨by decide, by decide, by decide, by decide⟩ (by decide) (by decide)
theorem g4 : Good a4 := good_one ⟨by decide, by decide, by decide, by decide⟩ (by decide) (by decide)
theorem g5 : Good a5 := good_one ⟨by decide, by decide, by decide, by decide⟩ (by decide) (by decide)
theorem h1 : Str.has (ids a1.bx) tP = false := by kernel_rfl
theorem h2 : Str.has (ids a2.bx) tP = true := by kernel_rfl
theorem i1 : ({ a1 with bx := insB a1.bx tP 3 } : St) = a2 := by kernel_rfl
theorem e2 : errM a2.bx tP 1 = 0 := by kernel_rfl
theorem pw2 : pullW a2 tW = false := by kernel_rfl
theorem s2 : pullS a2 tP tW 9 4 = a3 := by kernel_rfl
theorem n2 : Str.has (nms a2.im) tW = false := by kernel_rfl
theorem e3 : errM a3.bx tP 1 = 0 := by kernel_rfl
theorem pw3 : pullW a3 tW = true := by kernel_rfl
theorem s3 : pullS a3 tP tW 9 5 = a4 := by kernel_rfl
theorem n3 : Str.has (nms a3.im) tW = false := by kernel_rfl
theorem e4 : askE a4 tP 2 = 0 := by kernel_rfl
theorem s4 : askS a4 tP 2 6 = a5 := by kernel_rfl
theorem e5 : askE a5 tQ 2 = 4 := by kernel_rfl
theorem b5 : boxOf a5.bx tP = (3, 0) := by kernel_rfl
theorem h5 : Str.has (ids a5.bx) tP = true := by kernel_rfl
theorem Has.to {wr w : World} {ks : Nat → Prop} {g : Nat} {s t : St} (h : Has wr ks w g s) (e : s = t) : Has wr ks w g t := e ▸ h
set_option maxRecDepth 100000 in
set_option maxHeartbeats 4000000 in
theorem wawake_c (w : World) : Calls Try.prog 11 #[] w fun e w' => e = .returned (.bool true) ∧ Below w.heap.size w w' := by
  go_enter Try.func11, Try.ntmps11
  go_wp2_with fail
  refine (wnew_c 1 _).mono ?_
  rintro e w1 ⟨rfl, hat, hb1⟩
  have H := Lib.hid (Has.start (ks := fun k => k < w.heap.size) hb1 (fun k hk => hk) hat (fun k hk => by omega))
  generalize hg0 : w.heap.size = g at H ⊢
  have hg := Lib.hid hg0
  clear hat hb1 hg0
  go_wp2_with fail
  have H1 := Lib.hid (H.out.below ((Below.refl _ _).alloc (Nat.le_refl _) (.cells #[.bool false] 4)))
  have H1 : Hid (Has w (fun k => k < g) _ g a0) := H1
  refine (feedH (bs := [false]) H1.out (Mem.Sl.more (Mem.new_sl rfl rfl rfl) (by simp)) (by decide) (by decide)).mono ?_
  rintro e w2 ⟨-, hq⟩
  obtain ⟨rfl, hp⟩ := hq (by decide)
  have H2 := Lib.hid (hp.to (rfl : _ = a1))
  clear H H1 hq hp
  go_wp2_with fail
  refine (createH H2.out g1).mono ?_
  rintro e w3 ⟨-, hq⟩
  obtain ⟨rfl, hp⟩ := hq h1
  have H3 := Lib.hid (hp.to i1)
  clear H2 hq hp
  go_wp2_with fail
  refine (createH H3.out g2).mono ?_
  rintro e w4 ⟨hq, -⟩
  obtain ⟨rfl, hp⟩ := hq h2
  have H4 := Lib.hid (hp.to (rfl : _ = a2))
  clear H3 hq hp
  go_wp2_with fail
  refine (pullH H4.out g2).mono ?_
  rintro e w5 ⟨-, hq⟩
  obtain ⟨rfl, hp⟩ := hq e2
  rw [pw2, n2]
  have H5 := Lib.hid (hp.to s2)
  clear H4 hq hp
  go_wp2_with fail
  refine (pullH H5.out g3).mono ?_
  rintro e w6 ⟨-, hq⟩
  obtain ⟨rfl, hp⟩ := hq e3
  rw [pw3, n3]
  have H6 := Lib.hid (hp.to s3)
  clear H5 hq hp
  go_wp2_with fail
  refine (askH H6.out g4 (by decide)).mono ?_
  rintro e w7 ⟨-, hq⟩
  obtain ⟨rfl, hp⟩ := hq e4
  have ht : tk a4.outs = true := rfl
  rw [ht]
  have H7 := Lib.hid (hp.to s4)
  clear H6 hq hp ht
  go_wp2_with fail
  refine (askH H7.out g5 (by decide)).mono ?_
  rintro e w8 ⟨hq, -⟩
  obtain ⟨rfl, hp⟩ := hq (by rw [e5]; decide)
  rw [e5]
  have H8 := Lib.hid hp
  clear H7 hq hp
  go_wp2_with fail
  refine (boxH H8.out g5).mono ?_
  rintro e w9 ⟨rfl, -, hp⟩
  rw [b5, h5]
  dsimp only
  have H9 := Lib.hid hp
  clear H8 hp
  go_wp2_with fail
  have X := Lib.hid (Mem.Blk.new (w := w9) (cs := #[.int .i64 3, .int .i64 0]) (t := 44))
  have HA := Lib.hid (H9.out.below ((Below.refl _ _).alloc (Nat.le_refl _) (.cells #[.int .i64 3, .int .i64 0] 44)))
  generalize w9.alloc (.cells #[.int .i64 3, .int .i64 0] 44) = wa at *
  have hlt := X.out.lt
  generalize w9.heap.size = b at *
  refine (imagesH HA.out g5).mono ?_
  rintro e wb ⟨⟨A', c', rfl, hI, hb, -⟩, hp⟩
  have H10 := Lib.hid hp
  clear H9 HA hp
  have x0 : wb.cell? ⟨b, 0, none⟩ = some (.int .i64 3) := (hb.cell hlt).trans (X.out.cell 0)
  have x1 : wb.cell? ⟨b, 1, none⟩ = some (.int .i64 0) := (hb.cell hlt).trans (X.out.cell 1)
  obtain ⟨ad, _, rfl, hlt2, _, hat⟩ := ImgV.at_ hI.sl (k := 0) (by decide)
  rw [show ad.add (0 * 3) = ad from by simp [Addr.add]] at hat
  have i0 : wb.cell? ad = some (.string tW) := hat.c0
  have i1 : wb.cell? { block := ad.block, off := ad.off + 1 } = some (.int .i64 9) := hat.c1
  have i2 : wb.cell? { block := ad.block, off := ad.off + 2 } = some (.int .i64 5) := hat.c2
  clear hat
  have lI : a5.im.length = 1 := rfl
  rw [lI]
  have HC := Lib.hid (containersH H10.out g5)
  have hsz := hb.1
  have eB := fun w => eq_box w 3 0 3 0
  have eI := fun w => eq_img w ⟨tW, 9, 5⟩ ⟨tW, 9, 5⟩
  rw [sameI_self] at eI
  clear hI hb X hlt hlt2
  go_wp2_with fail
  refine HC.out.mono ?_
  rintro e wc ⟨⟨Ac, cc, rfl, -, -, -⟩, hp⟩
  have H11 := Lib.hid hp
  clear H10 HC hp
  go_wp2_with fail
  refine (waitingH H11.out g5).mono ?_
  rintro e wd ⟨⟨Ad, cd, rfl, -, -, -⟩, hp⟩
  have H12 := Lib.hid hp
  clear H11 hp
  go_wp2_with fail
  go_ret
  exact ⟨rfl, H12.out.only.below (Nat.le_refl _) (fun k hk hn => hn (by rw [← hg.out]; exact hk))⟩
end Wo
end Go.Proofs.Ythccojfflmfggaa
