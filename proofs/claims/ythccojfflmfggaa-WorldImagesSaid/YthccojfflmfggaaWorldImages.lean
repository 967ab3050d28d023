/- WorldImages: the walk. -/
import Derived.Test.YthccojfflmfggaaWorldFull
import Derived.Test.YthccojfflmfggaaWorS
namespace Go.Proofs.Ythccojfflmfggaa.worldImages
open Go.RowKit Wo
abbrev tA : ByteArray := ⟨#[97]⟩
abbrev tB : ByteArray := ⟨#[98]⟩
theorem c1 : ({ (⟨0, [], [], []⟩ : St) with bx := insB [] tA 0 } : St) = ⟨0, [], [⟨tA, 1, 0, 0⟩], []⟩ := by kernel_rfl
theorem c2 : ({ (⟨0, [], [⟨tA, 1, 0, 0⟩], []⟩ : St) with bx := insB [⟨tA, 1, 0, 0⟩] tB 0 } : St) = ⟨0, [], [⟨tA, 1, 0, 0⟩, ⟨tB, 1, 0, 0⟩], []⟩ := by kernel_rfl
theorem p1 (z : Int) : pullS ⟨0, [], [⟨tA, 1, 0, 0⟩, ⟨tB, 1, 0, 0⟩], []⟩ tA tW z 1 = ⟨0, [], [⟨tA, 2, 0, 1⟩, ⟨tB, 1, 0, 0⟩], [⟨tW, z, 1⟩]⟩ := by kernel_rfl
theorem p2 (z y : Int) (bs : List Bool) : pullS ⟨0, bs, [⟨tA, 2, 0, 1⟩, ⟨tB, 1, 0, 0⟩], [⟨tW, z, 1⟩]⟩ tB tW y 2 = ⟨0, bs, [⟨tA, 2, 0, 1⟩, ⟨tB, 2, 0, 2⟩], [⟨tW, z, 2⟩]⟩ := by kernel_rfl
theorem pw1 (z : Int) (bs : List Bool) : pullW ⟨0, bs, [⟨tA, 2, 0, 1⟩, ⟨tB, 1, 0, 0⟩], [⟨tW, z, 1⟩]⟩ tW = true := by kernel_rfl
theorem n1 (z : Int) : Str.has (nms [⟨tW, z, 1⟩]) tW = true := by kernel_rfl
theorem good_two {outs : List Bool} {p q : ConV} {im : List ImgV} (hr : Str.Rises [p.id, q.id]) (hp : Box.Ok (p.st, p.tr)) (hq : Box.Ok (q.st, q.tr)) (ho : outs.length ≤ 4096) (hi : im.length ≤ 1) : Wo.Good ⟨0, outs, [p, q], im⟩ where
  rb := hr
  ri := by
    match im, hi with
    | [], _ => exact List.Pairwise.nil
    | [x], _ => exact List.pairwise_singleton _ _
  ok := by
    intro x hx
    simp only [List.mem_cons, List.not_mem_nil, or_false] at hx
    rcases hx with rfl | rfl
    · exact hp
    · exact hq
  nb := by show 2 ≤ 100000; omega
  ni := by show im.length ≤ 100000; omega
  no := ho
theorem rises_ab : Str.Rises [tA, tB] := by
  refine List.pairwise_cons.2 ⟨fun x hx => ?_, List.pairwise_singleton _ _⟩
  obtain rfl : x = tB := by simpa using hx
  have e : Str.cmp tA tB = -1 := by kernel_rfl
  show Str.cmp tA tB < 0
  rw [e]
  decide
set_option maxRecDepth 100000 in
set_option maxHeartbeats 4000000 in
theorem core (z y : Int) (A : Option Addr) (n c : Nat) (bs : List Bool) (w : World) (h : Mem.Sl w w.heap.size 1 A n (bs.map Value.bool)) (hz0 : 0 ≤ z) (hz1 : z ≤ 65535) (hy0 : 0 ≤ y) (hy1 : y ≤ 65535) :
    Calls Try.prog 5 #[.slice A n c, .int .u16 z, .int .u16 y] w fun e w' => e = .returned (.bool true) ∧ Below w.heap.size w w' := by
  go_enter Try.func5, Try.ntmps5
  go_wp2_with fail
  refine (wawake_c _).mono ?_
  rintro e w1 ⟨rfl, hb1⟩
  go_wp2_with fail
  · refine (wawake_c _).mono ?_
    rintro e w2 ⟨rfl, hb2⟩
    go_wp2_with fail
    go_ret
    exact ⟨rfl, hb1.trans (hb2.mono hb1.size)⟩
  · rename_i hn
    have hnn : n ≤ 200 := by omega
    have hln : bs.length = n := by have := h.1; simpa using this
    refine (wnew_c 0 _).mono ?_
    rintro e w2 ⟨rfl, hat, hb2⟩
    have H := Lib.hid (Has.start (ks := fun k => k < w.heap.size) (hb1.trans (hb2.mono hb1.size)) (fun k hk => hk) hat (fun k hk => by have := hb1.size; omega))
    generalize w1.heap.size = g at *
    clear hat hb1 hb2
    go_wp2_with fail
    refine (createH H.out (good_nil (by decide))).mono ?_
    rintro e w3 ⟨-, hq⟩
    obtain ⟨rfl, hp⟩ := hq (by kernel_rfl)
    have H3 := Lib.hid (hp.to c1)
    clear H hq hp
    go_wp2_with fail
    refine (createH H3.out (good_one ⟨by decide, by decide, by decide, by decide⟩ (by decide) (by decide))).mono ?_
    rintro e w4 ⟨-, hq⟩
    obtain ⟨rfl, hp⟩ := hq (by kernel_rfl)
    have H4 := Lib.hid (hp.to c2)
    clear H3 hq hp
    go_wp2_with fail
    refine (pullH H4.out (good_two rises_ab ⟨by decide, by decide, by decide, by decide⟩ ⟨by decide, by decide, by decide, by decide⟩ (by decide) (by decide))).mono ?_
    rintro e w5 ⟨-, hq⟩
    obtain ⟨rfl, hp⟩ := hq (by kernel_rfl)
    have H5 := Lib.hid (hp.to (p1 z))
    clear H4 hq hp
    obtain ⟨hsl, hsz⟩ := worldFull.has_sl H5.out (Nat.le_refl _) (fun _ h => h) h
    have HF := Lib.hid ((feedH (c := c) H5.out (hsl.more hsz) (by omega) (by show 0 ≤ 4096; decide)).mono (R' := fun e wr => e = .returned (.int .i64 0) ∧ Has w (fun k => k < w.heap.size) wr g ⟨0, bs, [⟨tA, 2, 0, 1⟩, ⟨tB, 1, 0, 0⟩], [⟨tW, z, 1⟩]⟩) (fun e w' p => p.2 (by show 0 + n ≤ 4096; omega)))
    clear hsl hsz
    go_wp2_with fail
    refine HF.out.mono ?_
    rintro e w6 ⟨rfl, hp⟩
    have H6 := Lib.hid hp
    clear H5 HF hp
    go_wp2_with fail
    refine (pullH H6.out (good_two rises_ab ⟨by decide, by decide, by decide, by decide⟩ ⟨by decide, by decide, by decide, by decide⟩ (by show bs.length ≤ 4096; omega) (by show 1 ≤ 1; omega))).mono ?_
    rintro e w7 ⟨-, hq⟩
    obtain ⟨rfl, hp⟩ := hq (by kernel_rfl)
    rw [pw1, n1]
    have H7 := Lib.hid (hp.to (p2 z y bs))
    clear H6 hq hp
    have hG : Wo.Good ⟨0, bs, [⟨tA, 2, 0, 1⟩, ⟨tB, 2, 0, 2⟩], [⟨tW, z, 2⟩]⟩ := good_two rises_ab ⟨by decide, by decide, by decide, by decide⟩ ⟨by decide, by decide, by decide, by decide⟩ (by show bs.length ≤ 4096; omega) (by show 1 ≤ 1; omega)
    go_wp2_with fail
    refine (imagesH H7.out hG).mono ?_
    rintro e wb ⟨⟨A', c', rfl, hI, -, -⟩, hp⟩
    have H8 := Lib.hid hp
    clear H7 hp
    dsimp only
    rw [show [(⟨tW, z, 2⟩ : ImgV)].length = 1 from rfl]
    obtain ⟨ad, _, rfl, hlt2, _, hat⟩ := ImgV.at_ hI.sl (k := 0) (by show 0 < 1; decide)
    rw [show ad.add (0 * 3) = ad from by simp [Addr.add]] at hat
    have Hat := Lib.hid (show ImgV.At wb ad ⟨tW, z, 2⟩ from hat)
    have Hlt := Lib.hid hlt2
    clear hat hI hlt2
    go_wp2_with fail
    refine (waitingH H8.out hG).mono ?_
    rintro e wc ⟨⟨Ad, cd, rfl, hR, hbc, -⟩, hp⟩
    have H9 := Lib.hid hp
    obtain ⟨hsl, hsz⟩ := worldFull.has_sl H9.out (Nat.le_refl _) (fun _ h => h) h
    have Hat2 := Lib.hid (Hat.out.below hbc Hlt.out)
    have Hlt2 := Lib.hid (Nat.lt_of_lt_of_le Hlt.out hbc.size)
    dsimp only at hR ⊢
    rw [hln] at hR ⊢
    have HS := Lib.hid (sameouts_c (c := cd) (d := c) _ _ _ _ _ _ bs bs wc hR.sl hsl (by omega) (by omega))
    clear H8 hp hR hbc hsl hsz Hat Hlt
    rw [decide_eq_true (rfl : bs = bs)] at HS
    go_wp2_with fail
    refine HS.out.mono ?_
    rintro e wd ⟨rfl, hbd⟩
    have H10 := Lib.hid (H9.out.below hbd)
    have hat := Hat2.out.below hbd Hlt2.out
    have i0 : wd.cell? ad = some (.string tW) := hat.c0
    have i1 : wd.cell? { block := ad.block, off := ad.off + 1 } = some (.int .i64 z) := hat.c1
    have i2 : wd.cell? { block := ad.block, off := ad.off + 2 } = some (.int .i64 2) := hat.c2
    clear hat H9 HS hbd Hat2 Hlt2
    have eI : ∀ w, (binOp .eql 54 (.agg #[.string tW, .int .i64 z, .int .i64 2]) (.agg #[.string tW, .int .i64 z, .int .i64 2])).run Try.prog w = .ok (.bool true) w := fun w => (eq_img w ⟨tW, z, 2⟩ ⟨tW, z, 2⟩).trans (by rw [sameI_self])
    go_wp2_with fail
    go_ret
    exact ⟨rfl, H10.out.only.below (Nat.le_refl _) (fun k hk hn => hn hk)⟩
theorem walk (v1 v2 v3 : Value) (w : World) (h1 : Frame.Arg Try.prog w 22 v1) (h2 : Frame.Arg Try.prog w 50 v2) (h3 : Frame.Arg Try.prog w 50 v3) :
    Calls Try.prog 5 #[v1, v2, v3] w fun e w' => e = .returned (.bool true) ∧ Below w.heap.size w w' := by
  obtain ⟨A, n, c, bs, rfl, _, _, _, h⟩ := h1.bools Try.underlying22 Try.underlying4 (by kernel_rfl)
  obtain ⟨z, rfl, hz⟩ := h2.int Try.underlying50
  obtain ⟨y, rfl, hy⟩ := h3.int Try.underlying50
  exact core z y A n c bs w h (Frame.bd_u16 hz).1 (Frame.bd_u16 hz).2 (Frame.bd_u16 hy).1 (Frame.bd_u16 hy).2
end Go.Proofs.Ythccojfflmfggaa.worldImages
