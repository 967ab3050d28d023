/- The walk of the document's layer 16: touch. -/
import Derived.Test.YthccojfflmfggaaMgW6
import Derived.Test.YthccojfflmfggaaMgW5
namespace Go.Proofs.Ythccojfflmfggaa
open Go.RowKit
namespace Wo
set_option maxRecDepth 100000 in
set_option maxHeartbeats 4000000 in
theorem rwtouch_c (rt : Int) (AO AB AI A2 : Option Addr) (nO cO nB cB nI cI m d : Nat) (im : List ImgV) (us : List ByteArray) (round : Int) (w : World) (h : Mem.Sl w w.heap.size 3 AI nI (ImgV.flat im)) (h2 : Strs w w.heap.size A2 m us) (hlen : im.length = nI) (hn : nI ≤ 10000) (hm : m ≤ 10000) :
    Calls Try.prog 46 #[.agg #[.int .i64 rt, .slice AO nO cO, .slice AB nB cB, .slice AI nI cI], .slice A2 m d, .int .i64 round] w fun e w' =>
      ∃ A' c', e = .returned (.agg #[.int .i64 rt, .slice AO nO cO, .slice AB nB cB, .slice A' nI c']) ∧ IRow w' A' nI c' (im.map (tch us round)) ∧ Below w.heap.size w w' ∧ ∀ b, Ro.blk A' = some b → w.heap.size ≤ b := by
  have L0 : Below w.heap.size w ((w.alloc (.cells #[.int .i64 rt, .slice AO nO cO, .slice AB nB cB, .slice AI nI cI] 64)).alloc (.cells #[.int .i64 0, .slice none 0 0, .slice none 0 0, .slice none 0 0] 64)) := ((Below.refl _ _).alloc (Nat.le_refl _) _).alloc (by simp) _
  have N3 : Mem.Blk ((w.alloc (.cells #[.int .i64 rt, .slice AO nO cO, .slice AB nB cB, .slice AI nI cI] 64)).alloc (.cells #[.int .i64 0, .slice none 0 0, .slice none 0 0, .slice none 0 0] 64)) w.heap.size 64 #[.int .i64 rt, .slice AO nO cO, .slice AB nB cB, .slice AI nI cI] := Mem.Blk.new.alloc
  have N6 : Mem.Blk ((w.alloc (.cells #[.int .i64 rt, .slice AO nO cO, .slice AB nB cB, .slice AI nI cI] 64)).alloc (.cells #[.int .i64 0, .slice none 0 0, .slice none 0 0, .slice none 0 0] 64)) (w.heap.size + 1) 64 #[.int .i64 0, .slice none 0 0, .slice none 0 0, .slice none 0 0] := by
    have := Mem.Blk.new (w := w.alloc (.cells #[.int .i64 rt, .slice AO nO cO, .slice AB nB cB, .slice AI nI cI] 64)) (t := 64) (cs := #[.int .i64 0, .slice none 0 0, .slice none 0 0, .slice none 0 0])
    simpa using this
  have hz := L0.size
  have HT := Lib.hid (rtouch_c AI A2 nI cI m d im us round _ ((h.below L0).more hz) (Mem.Sl.more (Mem.Sl.below h2 L0) hz) hlen hn hm)
  have HL := Lib.hid L0
  have H3 := Lib.hid N3
  have H6 := Lib.hid N6
  clear L0 N3 N6 h h2 hz
  go_enter Try.func46, Try.ntmps46
  go_wp2_with fail
  generalize (w.alloc (.cells #[.int .i64 rt, .slice AO nO cO, .slice AB nB cB, .slice AI nI cI] 64)).alloc (.cells #[.int .i64 0, .slice none 0 0, .slice none 0 0, .slice none 0 0] 64) = X at *
  refine HT.out.mono ?_
  rintro e w' ⟨A', c', rfl, hR, hb2, hfr⟩
  have l6 := H6.out.lt
  have M3 := H3.out.below hb2 H3.out.lt
  have M6 := H6.out.below hb2 H6.out.lt
  have q0 : w'.cell? ⟨w.heap.size, 0, none⟩ = some (.int .i64 rt) := M3.cell 0
  have q1 : w'.cell? ⟨w.heap.size, 1, none⟩ = some (.slice AO nO cO) := M3.cell 1
  have q2 : w'.cell? ⟨w.heap.size, 2, none⟩ = some (.slice AB nB cB) := M3.cell 2
  have q3 : w'.cell? ⟨w.heap.size, 3, none⟩ = some (.slice AI nI cI) := M3.cell 3
  have r0 : w'.cell? ⟨w.heap.size + 1, 0, none⟩ = some (.int .i64 0) := M6.cell 0
  have r1 : w'.cell? ⟨w.heap.size + 1, 1, none⟩ = some (.slice none 0 0) := M6.cell 1
  have r2 : w'.cell? ⟨w.heap.size + 1, 2, none⟩ = some (.slice none 0 0) := M6.cell 2
  have r3 : w'.cell? ⟨w.heap.size + 1, 3, none⟩ = some (.slice none 0 0) := M6.cell 3
  have f3 := M3.frozen
  have f6 := M6.frozen
  have HE : Hid (∀ u, Ro.Only (fun b => b = w.heap.size ∨ b = w.heap.size + 1) w' u → IRow u A' nI c' (im.map (tch us round)) ∧ Below w.heap.size w u ∧ ∀ b, Ro.blk A' = some b → w.heap.size ≤ b) := fun u hu =>
    ⟨hR.only hu (fun b hb e => by have := hfr b hb; omega), (HL.out.trans (hb2.mono HL.out.size)).trans (hu.below (by have := hb2.size; have := HL.out.size; omega) (fun b hb e => by omega)), fun b hb => by have := hfr b hb; have := HL.out.size; omega⟩
  clear hR hb2 hfr M3 M6 HT H3 H6
  go_wp2_with fail
  obtain ⟨e1, e2, e3⟩ := HE.out _ (only5 w' w.heap.size 3 (.slice A' nI c') (.int .i64 rt) (.slice AO nO cO) (.slice AB nB cB) (.slice A' nI c'))
  refine bodyPost_ret (v := .agg #[.int .i64 rt, .slice AO nO cO, .slice AB nB cB, .slice A' nI c']) (by simp [results, Try.results46, go_sem, r0, r1, r2, r3]) rfl ⟨A', c', rfl, e1, e2, e3⟩
end Wo
end Go.Proofs.Ythccojfflmfggaa
/- The walks of layer 16 (world): awake. -/
namespace Go.Proofs.Ythccojfflmfggaa
open Go.RowKit
namespace Wo
abbrev tP : ByteArray := ⟨#[112]⟩
abbrev tQ : ByteArray := ⟨#[113]⟩
abbrev tW : ByteArray := ⟨#[119, 101, 98]⟩
def a0 : St := ⟨1, [], [], []⟩
def a1 : St := ⟨1, [false], [], []⟩
def a2 : St := ⟨1, [false], [⟨tP, 1, 0, 3⟩], []⟩
def a3 : St := ⟨1, [], [⟨tP, 1, 1, 3⟩], []⟩
def a4 : St := ⟨1, [], [⟨tP, 2, 0, 5⟩], [⟨tW, 9, 5⟩]⟩
def a5 : St := ⟨1, [], [⟨tP, 3, 0, 6⟩], [⟨tW, 9, 5⟩]⟩
theorem good_one {rt : Int} {outs : List Bool} {p : ConV} {im : List ImgV} (hp : Box.Ok (p.st, p.tr)) (ho : outs.length ≤ 4096) (hi : im.length ≤ 1) : Good ⟨rt, outs, [p], im⟩ where
  rb := List.pairwise_singleton _ _
  ri := by
    match im, hi with
    | [], _ => exact List.Pairwise.nil
    | [x], _ => exact List.pairwise_singleton _ _
  ok := by
    intro q hq
    obtain rfl : q = p := by simpa using hq
    exact hp
  nb := by show 1 ≤ 100000; omega
  ni := by show im.length ≤ 100000; omega
  no := ho
theorem good_nil {rt : Int} {outs : List Bool} (ho : outs.length ≤ 4096) : Good ⟨rt, outs, [], []⟩ := ⟨List.Pairwise.nil, List.Pairwise.nil, (fun p hp => by cases hp), Nat.zero_le _, Nat.zero_le _, ho⟩
theorem g0 : Good a0 := good_nil (by decide)
theorem g1 : Good a1 := good_nil (by decide)
theorem g2 : Good a2 := good_one ⟨by decide, by decide, by decide, by decide⟩ (by decide) (by decide)
theorem g3 : Good a3 := good_one ⟨by decide, by decide, by decide, by decide⟩ (by decide) (by decide)
theorem g4 : Good a4 := good_one ⟨by decide, by decide, by decide, by decide⟩ (by decide) (by decide)
theorem g5 : Good a5 := good_one ⟨by decide, by decide, by decide, by decide⟩ (by decide) (by decide)
theorem h1 : Str.has (ids a1.bx) tP = false := by kernel_rfl
theorem h2 : Str.has (ids a2.bx) tP = true := by kernel_rfl
theorem i1 : ({ a1 with bx := insB a1.bx tP 3 } : St) = a2 := by kernel_rfl
theorem e2 : errM a2.bx tP 1 = 0 := by kernel_rfl
theorem pw2 : pullW a2 tW = false := by kernel_rfl
theorem s2 : pullS a2 tP tW 9 4 = a3 := by kernel_rfl
theorem n2 : Str.has (nms a2.im) tW = false := by kernel_rfl
theorem e3 : errM a3.bx tP 1 = 0 := by kernel_rfl
theorem pw3 : pullW a3 tW = true := by kernel_rfl
theorem s3 : pullS a3 tP tW 9 5 = a4 := by kernel_rfl
theorem n3 : Str.has (nms a3.im) tW = false := by kernel_rfl
theorem e4 : askE a4 tP 2 = 0 := by kernel_rfl
theorem s4 : askS a4 tP 2 6 = a5 := by kernel_rfl
theorem e5 : askE a5 tQ 2 = 4 := by kernel_rfl
theorem b5 : boxOf a5.bx tP = (3, 0) := by kernel_rfl
theorem h5 : Str.has (ids a5.bx) tP = true := by kernel_rfl
theorem Has.to {wr w : World} {ks : Nat → Prop} {g : Nat} {s t : St} (h : Has wr ks w g s) (e : s = t) : Has wr ks w g t := e ▸ h
set_option maxRecDepth 100000 in
set_option maxHeartbeats 4000000 in
theorem wawake_c (w : World) : Calls Try.prog 11 #[] w fun e w' => e = .returned (.bool true) ∧ Below w.heap.size w w' := by
  go_enter Try.func11, Try.ntmps11
  go_wp2_with fail
  refine (wnew_c 1 _).mono ?_
  rintro e w1 ⟨rfl, hat, hb1⟩
  have H := Lib.hid (Has.start (ks := fun k => k < w.heap.size) hb1 (fun k hk => hk) hat (fun k hk => by omega))
  generalize hg0 : w.heap.size = g at H ⊢
  have hg := Lib.hid hg0
  clear hat hb1 hg0
  go_wp2_with fail
  have H1 := Lib.hid (H.out.below ((Below.refl _ _).alloc (Nat.le_refl _) (.cells #[.bool false] 4)))
  have H1 : Hid (Has w (fun k => k < g) _ g a0) := H1
  refine (feedH (bs := [false]) H1.out (Mem.Sl.more (Mem.new_sl rfl rfl rfl) (by simp)) (by decide) (by decide)).mono ?_
  rintro e w2 ⟨-, hq⟩
  obtain ⟨rfl, hp⟩ := hq (by decide)
  have H2 := Lib.hid (hp.to (rfl : _ = a1))
  clear H H1 hq hp
  go_wp2_with fail
  refine (createH H2.out g1).mono ?_
  rintro e w3 ⟨-, hq⟩
  obtain ⟨rfl, hp⟩ := hq h1
  have H3 := Lib.hid (hp.to i1)
  clear H2 hq hp
  go_wp2_with fail
  refine (createH H3.out g2).mono ?_
  rintro e w4 ⟨hq, -⟩
  obtain ⟨rfl, hp⟩ := hq h2
  have H4 := Lib.hid (hp.to (rfl : _ = a2))
  clear H3 hq hp
  go_wp2_with fail
  refine (pullH H4.out g2).mono ?_
  rintro e w5 ⟨-, hq⟩
  obtain ⟨rfl, hp⟩ := hq e2
  rw [pw2, n2]
  have H5 := Lib.hid (hp.to s2)
  clear H4 hq hp
  go_wp2_with fail
  refine (pullH H5.out g3).mono ?_
  rintro e w6 ⟨-, hq⟩
  obtain ⟨rfl, hp⟩ := hq e3
  rw [pw3, n3]
  have H6 := Lib.hid (hp.to s3)
  clear H5 hq hp
  go_wp2_with fail
  refine (askH H6.out g4 (by decide)).mono ?_
  rintro e w7 ⟨-, hq⟩
  obtain ⟨rfl, hp⟩ := hq e4
  have ht : tk a4.outs = true := rfl
  rw [ht]
  have H7 := Lib.hid (hp.to s4)
  clear H6 hq hp ht
  go_wp2_with fail
  refine (askH H7.out g5 (by decide)).mono ?_
  rintro e w8 ⟨hq, -⟩
  obtain ⟨rfl, hp⟩ := hq (by rw [e5]; decide)
  rw [e5]
  have H8 := Lib.hid hp
  clear H7 hq hp
  go_wp2_with fail
  refine (boxH H8.out g5).mono ?_
  rintro e w9 ⟨rfl, -, hp⟩
  rw [b5, h5]
  dsimp only
  have H9 := Lib.hid hp
  clear H8 hp
  go_wp2_with fail
  have X := Lib.hid (Mem.Blk.new (w := w9) (cs := #[.int .i64 3, .int .i64 0]) (t := 44))
  have HA := Lib.hid (H9.out.below ((Below.refl _ _).alloc (Nat.le_refl _) (.cells #[.int .i64 3, .int .i64 0] 44)))
  generalize w9.alloc (.cells #[.int .i64 3, .int .i64 0] 44) = wa at *
  have hlt := X.out.lt
  generalize w9.heap.size = b at *
  refine (imagesH HA.out g5).mono ?_
  rintro e wb ⟨⟨A', c', rfl, hI, hb, -⟩, hp⟩
  have H10 := Lib.hid hp
  clear H9 HA hp
  have x0 : wb.cell? ⟨b, 0, none⟩ = some (.int .i64 3) := (hb.cell hlt).trans (X.out.cell 0)
  have x1 : wb.cell? ⟨b, 1, none⟩ = some (.int .i64 0) := (hb.cell hlt).trans (X.out.cell 1)
  obtain ⟨ad, _, rfl, hlt2, _, hat⟩ := ImgV.at_ hI.sl (k := 0) (by decide)
  rw [show ad.add (0 * 3) = ad from by simp [Addr.add]] at hat
  have i0 : wb.cell? ad = some (.string tW) := hat.c0
  have i1 : wb.cell? { block := ad.block, off := ad.off + 1 } = some (.int .i64 9) := hat.c1
  have i2 : wb.cell? { block := ad.block, off := ad.off + 2 } = some (.int .i64 5) := hat.c2
  clear hat
  have lI : a5.im.length = 1 := rfl
  rw [lI]
  have HC := Lib.hid (containersH H10.out g5)
  have hsz := hb.1
  have eB := fun w => eq_box w 3 0 3 0
  have eI := fun w => eq_img w ⟨tW, 9, 5⟩ ⟨tW, 9, 5⟩
  rw [sameI_self] at eI
  clear hI hb X hlt hlt2
  go_wp2_with fail
  refine HC.out.mono ?_
  rintro e wc ⟨⟨Ac, cc, rfl, -, -, -⟩, hp⟩
  have H11 := Lib.hid hp
  clear H10 HC hp
  go_wp2_with fail
  refine (waitingH H11.out g5).mono ?_
  rintro e wd ⟨⟨Ad, cd, rfl, -, -, -⟩, hp⟩
  have H12 := Lib.hid hp
  clear H11 hp
  go_wp2_with fail
  go_ret
  exact ⟨rfl, H12.out.only.below (Nat.le_refl _) (fun k hk hn => hn (by rw [← hg.out]; exact hk))⟩
end Wo
end Go.Proofs.Ythccojfflmfggaa
/- The walks of layer 16 (world): the document's look at outcomes. -/
namespace Go.Proofs.Ythccojfflmfggaa
open Go.RowKit
namespace Wo
theorem ret_bool {a b : Bool} (h : a = b) : Ending.returned (.bool a) = .returned (.bool b) := by rw [h]
def Bl (w : World) (B : Nat) (A : Option Addr) (n : Nat) (bs : List Bool) : Prop := Mem.Sl w B 1 A n (bs.map Value.bool)
section
variable {w w' : World} {B n : Nat} {A : Option Addr} {bs : List Bool}
theorem Bl.len (h : Bl w B A n bs) : bs.length = n := by have := h.1; simpa using this
theorem Bl.at_ {k : Nat} (h : Bl w B A n bs) (hk : k < n) : ∃ (ad : Addr) (b : Bool) (hl : k < bs.length), A = some ad ∧ ad.block < B ∧ bs[k] = b ∧ w.cell? (ad.add k) = some (.bool b) := by
  obtain ⟨ad, hl, e, hb, hc⟩ := Mem.Sl.at_ h hk
  exact ⟨ad, _, by simpa using hl, e, hb, rfl, by simpa using hc⟩
theorem Bl.drewN (h : Bl w B A n bs) (k : Nat) : Bl (w.drewN k) B A n bs := Mem.Sl.drewN h k
end
set_option maxRecDepth 100000 in
set_option maxHeartbeats 1000000 in
theorem sameouts_c (A A2 : Option Addr) (n c m d B B2 : Nat) (xs bs : List Bool) (w : World) (h : Bl w B A n xs) (h2 : Bl w B2 A2 m bs) (hn : n ≤ 1000000) (hm : m ≤ 1000000) :
    Calls Try.prog 21 #[.slice A n c, .slice A2 m d] w fun e w' => e = .returned (.bool (decide (xs = bs))) ∧ Below w.heap.size w w' := by
  have hla := h.len
  have hlb := h2.len
  by_cases hnm : n = m
  · subst hnm
    have Hla := Lib.hid hla
    have Hlb := Lib.hid hlb
    clear hla hlb
    go_enter Try.func21, Try.ntmps21
    go_wp2_with fail
    go_loopw [5] (fun vi wr => ∃ k : Nat, k ≤ n ∧ vi = .int .i64 k ∧ Below w.heap.size w wr ∧ Bl wr B A n xs ∧ Bl wr B2 A2 n bs ∧ xs.take k = bs.take k) (fun i _ => n - (intOf i).toNat)
    case atStart => exact ⟨0, by omega, rfl, Below.refl _ _, h, h2, rfl⟩
    case round =>
      obtain ⟨k, hk, rfl, hb, h3, h4, heq⟩ := hrel
      have Heq := Lib.hid heq
      clear heq
      by_cases hlt : k < n
      · obtain ⟨ad, a, hal, rfl, _, hae, hac⟩ := h3.at_ hlt
        obtain ⟨ad2, b, hbl, rfl, _, hbe, hbc⟩ := h4.at_ hlt
        have Hae := Lib.hid hae
        have Hbe := Lib.hid hbe
        clear hae hbe
        by_cases hab : a = b
        · have hnext : Hid (xs.take (k + 1) = bs.take (k + 1)) := by
            show _ = _
            rw [Mem.take_snoc _ _ hal, Mem.take_snoc _ _ hbl, Heq.out, Hae.out, Hbe.out, hab]
          subst hab
          clear Hae Hbe
          cases a <;>
          · go_wp2_with fail
            go_quiet (fail)
            go_wp2_with fail
            go_roundw
            case rel => exact ⟨k + 1, by omega, by go_num, Mem.below_drewN hb _, h3.drewN _, h4.drewN _, hnext⟩
            case measure => simp [intOf]; omega
        · have hfin : Hid (decide (xs = bs) = false) := by
            show _ = _
            simp only [decide_eq_false_iff_not]
            intro e
            subst e
            have h1 := Hae.out
            rw [Hbe.out] at h1
            exact hab h1.symm
          clear Hae Hbe
          cases a <;> cases b
          · exact absurd rfl hab
          · clear hab
            go_wp2_with fail
            go_quiet (fail)
            go_wp2_with fail
            go_ret
            exact ⟨ret_bool hfin.out.symm, Mem.below_drewN hb _⟩
          · clear hab
            go_wp2_with fail
            go_quiet (fail)
            go_wp2_with fail
            go_ret
            exact ⟨ret_bool hfin.out.symm, Mem.below_drewN hb _⟩
          · exact absurd rfl hab
      · obtain rfl : k = n := by omega
        have hfin : Hid (decide (xs = bs) = true) := by
          show _ = _
          have := Heq.out
          rw [List.take_of_length_le (by have := Hla.out; omega), List.take_of_length_le (by have := Hlb.out; omega)] at this
          simp [this]
        go_wp2_with fail
        go_ret
        exact ⟨ret_bool hfin.out.symm, hb⟩
  · have hne : ((n : Int) != m) = true := by simp; omega
    have hfin : Hid (decide (xs = bs) = false) := by
      show _ = _
      simp only [decide_eq_false_iff_not]
      intro e
      subst e
      omega
    clear hla hlb
    go_enter Try.func21, Try.ntmps21
    go_wp2_with fail
    go_ret
    exact ⟨ret_bool hfin.out.symm, Below.refl _ _⟩
end Wo
end Go.Proofs.Ythccojfflmfggaa
/- The walk of the document's layer 16: the same runtimes. -/
namespace Go.Proofs.Ythccojfflmfggaa
open Go.RowKit
namespace Wo
set_option maxRecDepth 100000 in
set_option maxHeartbeats 4000000 in
theorem rsame_c (rt rt2 : Int) (AO AB AI EO EB EI : Option Addr) (nO cO nB cB nI cI dO dB dI : Nat) (os : List Bool) (bx : List ConV) (im : List ImgV) (w : World)
    (h1 : Mem.Sl w w.heap.size 1 AO nO (os.map Value.bool)) (h2 : Mem.Sl w w.heap.size 4 AB nB (ConV.flat bx)) (h3 : Mem.Sl w w.heap.size 3 AI nI (ImgV.flat im))
    (k1 : Mem.Sl w w.heap.size 1 EO nO (os.map Value.bool)) (k2 : Mem.Sl w w.heap.size 4 EB nB (ConV.flat bx)) (k3 : Mem.Sl w w.heap.size 3 EI nI (ImgV.flat im)) (n1 : nO ≤ 1000000) (n2 : nB ≤ 1000000) (n3 : nI ≤ 1000000) :
    Calls Try.prog 47 #[.agg #[.int .i64 rt, .slice AO nO cO, .slice AB nB cB, .slice AI nI cI], .agg #[.int .i64 rt2, .slice EO nO dO, .slice EB nB dB, .slice EI nI dI]] w fun e w' => e = .returned (.bool true) ∧ Below w.heap.size w w' := by
  have L0 : Below w.heap.size w ((w.alloc (.cells #[.int .i64 rt, .slice AO nO cO, .slice AB nB cB, .slice AI nI cI] 64)).alloc (.cells #[.int .i64 rt2, .slice EO nO dO, .slice EB nB dB, .slice EI nI dI] 64)) := ((Below.refl _ _).alloc (Nat.le_refl _) _).alloc (by simp) _
  have N3 : Mem.Blk ((w.alloc (.cells #[.int .i64 rt, .slice AO nO cO, .slice AB nB cB, .slice AI nI cI] 64)).alloc (.cells #[.int .i64 rt2, .slice EO nO dO, .slice EB nB dB, .slice EI nI dI] 64)) w.heap.size 64 #[.int .i64 rt, .slice AO nO cO, .slice AB nB cB, .slice AI nI cI] := Mem.Blk.new.alloc
  have N6 : Mem.Blk ((w.alloc (.cells #[.int .i64 rt, .slice AO nO cO, .slice AB nB cB, .slice AI nI cI] 64)).alloc (.cells #[.int .i64 rt2, .slice EO nO dO, .slice EB nB dB, .slice EI nI dI] 64)) (w.heap.size + 1) 64 #[.int .i64 rt2, .slice EO nO dO, .slice EB nB dB, .slice EI nI dI] := by
    have := Mem.Blk.new (w := w.alloc (.cells #[.int .i64 rt, .slice AO nO cO, .slice AB nB cB, .slice AI nI cI] 64)) (t := 64) (cs := #[.int .i64 rt2, .slice EO nO dO, .slice EB nB dB, .slice EI nI dI])
    simpa using this
  have HC := Lib.hid (fun (X : World) (hX : Below w.heap.size w X) => sameboxes_c AB EB nB cB dB w.heap.size w.heap.size bx X (h2.below hX) (k2.below hX) n2)
  have HO := Lib.hid (fun (X : World) (hX : Below w.heap.size w X) => sameouts_c AO EO nO cO nO dO w.heap.size w.heap.size os os X (h1.below hX) (k1.below hX) n1 n1)
  have HI := Lib.hid (fun (X : World) (hX : Below w.heap.size w X) => sameimages_c AI EI nI cI dI w.heap.size w.heap.size im X (h3.below hX) (k3.below hX) n3)
  rw [decide_eq_true (rfl : os = os)] at HO
  have HL := Lib.hid L0
  have H3 := Lib.hid N3
  have H6 := Lib.hid N6
  clear L0 N3 N6 h1 h2 h3 k1 k2 k3
  go_enter Try.func47, Try.ntmps47
  go_wp2_with fail
  generalize (w.alloc (.cells #[.int .i64 rt, .slice AO nO cO, .slice AB nB cB, .slice AI nI cI] 64)).alloc (.cells #[.int .i64 rt2, .slice EO nO dO, .slice EB nB dB, .slice EI nI dI] 64) = X at *
  refine (HC.out X HL.out).mono ?_
  rintro e w1 ⟨rfl, hb1⟩
  have M3 := H3.out.below hb1 H3.out.lt
  have M6 := H6.out.below hb1 H6.out.lt
  have q1 : w1.cell? ⟨w.heap.size, 1, none⟩ = some (.slice AO nO cO) := M3.cell 1
  have r1 : w1.cell? ⟨w.heap.size + 1, 1, none⟩ = some (.slice EO nO dO) := M6.cell 1
  have L1 := HL.out.trans (hb1.mono HL.out.size)
  have HL1 := Lib.hid L1
  have HX1 := Lib.hid hb1
  clear M3 M6 L1 HC hb1
  go_wp2_with fail
  refine (HO.out w1 HL1.out).mono ?_
  rintro e w2 ⟨rfl, hb2⟩
  have hb02 := HX1.out.trans (hb2.mono HX1.out.size)
  have M3 := H3.out.below hb02 H3.out.lt
  have M6 := H6.out.below hb02 H6.out.lt
  have q3 : w2.cell? ⟨w.heap.size, 3, none⟩ = some (.slice AI nI cI) := M3.cell 3
  have r3 : w2.cell? ⟨w.heap.size + 1, 3, none⟩ = some (.slice EI nI dI) := M6.cell 3
  have HL2 := Lib.hid (HL1.out.trans (hb2.mono HL1.out.size))
  clear M3 M6 HO hb2 hb02 q1 r1 HX1 HL1
  go_wp2_with fail
  refine (HI.out w2 HL2.out).mono ?_
  rintro e w3 ⟨rfl, hb3⟩
  have HL3 := Lib.hid (HL2.out.trans (hb3.mono HL2.out.size))
  clear hb3 HL2 HI q3 r3
  go_wp2_with fail
  go_ret
  exact ⟨rfl, HL3.out⟩
end Wo
end Go.Proofs.Ythccojfflmfggaa
/- The walk of the document's layer 16: the next outcome. -/
namespace Go.Proofs.Ythccojfflmfggaa
open Go.RowKit
namespace Wo
set_option maxRecDepth 100000 in
set_option maxHeartbeats 4000000 in
theorem rnext0_c (rt : Int) (AO AB AI : Option Addr) (cO nB cB nI cI : Nat) (w : World) :
    Calls Try.prog 60 #[.agg #[.int .i64 rt, .slice AO 0 cO, .slice AB nB cB, .slice AI nI cI]] w fun e w' => e = .returned (.tuple #[.bool true, .agg #[.int .i64 rt, .slice AO 0 cO, .slice AB nB cB, .slice AI nI cI]]) ∧ Below w.heap.size w w' := by
  go_enter Try.func60, Try.ntmps60
  go_wp2_with fail
  go_region
  all_goals
    go_wp2_with fail
    refine bodyPost_ret (v := .tuple #[.bool true, .agg #[.int .i64 rt, .slice AO 0 cO, .slice AB nB cB, .slice AI nI cI]]) (by simp [results, Try.results60, go_sem]) rfl ⟨rfl, ?_⟩
    exact (((Below.refl _ _).alloc (Nat.le_refl _) _).alloc (by simp) _).drew
end Wo
end Go.Proofs.Ythccojfflmfggaa
/- The walk of the document's layer 16: what is asked of a container is done. -/
namespace Go.Proofs.Ythccojfflmfggaa
open Go.RowKit
namespace Wo
/-- what is left of one container -/
def oneD (s : ByteArray) (q : Int) (well : Bool) (rt round : Int) (p : ConV) : List ConV :=
  if (p.id.toList == s.toList) = true then (if (doP p q well rt round).st = 5 then [] else [doP p q well rt round]) else (if p.st = 5 then [] else [p])
def rdoB (bx : List ConV) (s : ByteArray) (q : Int) (well : Bool) (rt round : Int) : List ConV := bx.flatMap (oneD s q well rt round)
theorem flatMap_take {l : List ConV} {f : ConV → List ConV} {k : Nat} (h : k < l.length) : (l.take (k + 1)).flatMap f = (l.take k).flatMap f ++ f l[k] := by
  rw [Mem.take_snoc _ _ h, List.flatMap_append]
  simp
set_option maxRecDepth 100000 in
set_option maxHeartbeats 4000000 in
theorem rwdo_c (rt : Int) (AO A AI : Option Addr) (nO cO n c nI cI : Nat) (bx : List ConV) (s : ByteArray) (q : Int) (well : Bool) (round : Int) (w : World) (h : Mem.Sl w w.heap.size 4 A n (ConV.flat bx)) (hlen : bx.length = n) (hn : n ≤ 10000) (ht : ∀ p ∈ bx, p.tr ≤ 9223372036854775807) :
    Calls Try.prog 61 #[.agg #[.int .i64 rt, .slice AO nO cO, .slice A n c, .slice AI nI cI], .string s, .int .i64 q, .bool well, .int .i64 round] w
      (NewC rt (.slice AO nO cO) (.slice AI nI cI) (rdoB bx s q well rt round) w (fun v => .returned v)) := by
  have Hl := Lib.hid hlen
  have H := Lib.hid h
  have HT := Lib.hid ht
  clear hlen h ht
  go_enter Try.func61, Try.ntmps61
  go_wp2_with fail
  have L0 : Below w.heap.size w ((w.alloc (.cells #[.int .i64 rt, .slice AO nO cO, .slice A n c, .slice AI nI cI] 64)).alloc (.cells #[.int .i64 0, .slice none 0 0, .slice none 0 0, .slice none 0 0] 64)) := ((Below.refl _ _).alloc (Nat.le_refl _) _).alloc (by simp) _
  have N3 : Mem.Blk ((w.alloc (.cells #[.int .i64 rt, .slice AO nO cO, .slice A n c, .slice AI nI cI] 64)).alloc (.cells #[.int .i64 0, .slice none 0 0, .slice none 0 0, .slice none 0 0] 64)) w.heap.size 64 #[.int .i64 rt, .slice AO nO cO, .slice A n c, .slice AI nI cI] := Mem.Blk.new.alloc
  have N6 : Mem.Blk ((w.alloc (.cells #[.int .i64 rt, .slice AO nO cO, .slice A n c, .slice AI nI cI] 64)).alloc (.cells #[.int .i64 0, .slice none 0 0, .slice none 0 0, .slice none 0 0] 64)) (w.heap.size + 1) 64 #[.int .i64 0, .slice none 0 0, .slice none 0 0, .slice none 0 0] := by
    have := Mem.Blk.new (w := w.alloc (.cells #[.int .i64 rt, .slice AO nO cO, .slice A n c, .slice AI nI cI] 64)) (t := 64) (cs := #[.int .i64 0, .slice none 0 0, .slice none 0 0, .slice none 0 0])
    simpa using this
  generalize (w.alloc (.cells #[.int .i64 rt, .slice AO nO cO, .slice A n c, .slice AI nI cI] 64)).alloc (.cells #[.int .i64 0, .slice none 0 0, .slice none 0 0, .slice none 0 0] 64) = wx at *
  have HL0 := Lib.hid L0
  have HN3 := Lib.hid N3
  have HN6 := Lib.hid N6
  clear L0 N3 N6
  go_loopw [11, 12] (fun vo vi wr => ∃ (k m : Nat) (A' : Option Addr) (c' : Nat), k ≤ n ∧ m ≤ k ∧ vi = .int .i64 k ∧ vo = .slice A' m c' ∧ Hid (m = ((bx.take k).flatMap (oneD s q well rt round)).length) ∧ Hid (Bld wx wr 48 4 A' m c' (ConV.flat ((bx.take k).flatMap (oneD s q well rt round))))) (fun _ i _ => n - (intOf i).toNat)
  case atStart => exact ⟨0, 0, none, 0, by omega, by omega, rfl, rfl, by show _ = _; simp, Bld.nil (Below.refl _ _)⟩
  case round =>
    obtain ⟨k, m, A', c', hk, hm, rfl, rfl, HM, HB⟩ := hrel
    have M3 := HN3.out.below HB.out.below HN3.out.lt
    have x2 : wr.cell? ⟨w.heap.size, 2, none⟩ = some (.slice A n c) := M3.cell 2
    have x0 : wr.cell? ⟨w.heap.size, 0, none⟩ = some (.int .i64 rt) := M3.cell 0
    by_cases hlt : k < n
    · obtain ⟨ad, hl, rfl, hlb, hlb2, hat⟩ := ConV.at_ H.out hlt
      have htp : bx[k].tr ≤ 9223372036854775807 := HT.out _ (List.getElem_mem hl)
      have HF := Lib.hid (flatMap_take (f := oneD s q well rt round) hl)
      have hat2 := hat.below (HL0.out.trans (HB.out.below.mono HL0.out.size)) hlb2
      generalize bx[k] = p at *
      obtain ⟨t, x, y, r⟩ := p
      obtain ⟨c0, c1, c2, c3⟩ := hat2
      dsimp only at c0 c1 c2 c3 htp
      have l3 := M3.lt
      have one : ∀ (a : ByteArray) (b d f : Int), ∀ u ∈ (#[.string a, .int .i64 b, .int .i64 d, .int .i64 f] : Array Value).toList, u.oneCell' = true := by simp [Value.oneCell']
      have hal : Below wr.heap.size wr (wr.alloc (.cells #[.string t, .int .i64 x, .int .i64 y, .int .i64 r] 48)) := (Below.refl _ _).alloc (Nat.le_refl _) _
      clear hat hl hlb hlb2 M3
      by_cases hts : (t.toList == s.toList) = true
      · have hf : oneD s q well rt round ⟨t, x, y, r⟩ = if (doP ⟨t, x, y, r⟩ q well rt round).st = 5 then [] else [doP ⟨t, x, y, r⟩ q well rt round] := by unfold oneD; rw [if_pos hts]
        rw [hf] at HF
        obtain ⟨u, v, hst⟩ : ∃ u v, Box.step (x, y) q well rt = (u, v) := ⟨_, _, rfl⟩
        have hdo : doP ⟨t, x, y, r⟩ q well rt round = ⟨t, u, v, if well then round else r⟩ := by unfold doP; dsimp only; rw [hst]
        rw [hdo] at HF
        have hD := Box.rdo_c x y q rt well (wr.alloc (.cells #[.string t, .int .i64 x, .int .i64 y, .int .i64 r] 48)) htp
        unfold Box.RSaid at hD
        rw [hst] at hD
        have HD := Lib.hid hD
        generalize (Box.nxt x q != 0) = yes at *
        clear hD hf hdo hst
        go_wp2_with fail
        refine HD.out.mono ?_
        rintro e w2 ⟨rfl, hb2⟩
        have hb02 := hal.trans (hb2.mono hal.size)
        have C := (Mem.Blk.new (w := wr) (t := 48) (cs := #[.string t, .int .i64 x, .int .i64 y, .int .i64 r])).below hb2 Mem.Blk.new.lt
        have k0 : w2.cell? ⟨wr.heap.size, 0, none⟩ = some (.string t) := C.cell 0
        have k1 : w2.cell? ⟨wr.heap.size, 1, none⟩ = some (.int .i64 x) := C.cell 1
        have k2 : w2.cell? ⟨wr.heap.size, 2, none⟩ = some (.int .i64 y) := C.cell 2
        have k3 : w2.cell? ⟨wr.heap.size, 3, none⟩ = some (.int .i64 r) := C.cell 3
        have kf := C.frozen
        have kl := C.lt
        clear HD hb2 C x0 x2 c0 c1 c2 c3 hts hal htp
        cases well
        · rw [show (if false = true then round else r) = r from rfl] at HF
          have hX : Below wr.heap.size wr (((w2.setCell ⟨wr.heap.size, 1, none⟩ (.int .i64 u)).setCell ⟨wr.heap.size, 2, none⟩ (.int .i64 v)).alloc (.cells #[.int .i64 u, .int .i64 v] 44)) := (((hb02.setCell (Nat.le_refl wr.heap.size) _).setCell (Nat.le_refl wr.heap.size) _)).alloc (by simpa using hb02.size) _
          have hB3 := HB.out.free hX
          by_cases hu5 : u = 5
          · subst hu5
            rw [if_pos rfl, List.append_nil] at HF
            have HB3 := Lib.hid hB3
            clear one hB3 hX
            go_wp2_with fail
            go_roundw
            case rel => exact ⟨k + 1, m, A', c', by omega, by omega, by go_num, rfl, by show _ = _; rw [HF.out]; exact HM.out, by show Bld _ _ _ _ _ _ _ _; rw [HF.out]; exact HB3.out⟩
            case measure => simp [intOf]; omega
          · rw [if_neg hu5] at HF
            have hx : (u != 5) = true := by simpa using hu5
            obtain ⟨A3, cc3, w3, hr, hb3, -⟩ := hB3.push elc #[.string t, .int .i64 u, .int .i64 v, .int .i64 r] rfl (one _ _ _ _) (by omega) (by decide) (N := w2.heap.size + 1) (by simp)
            have HB3 := Lib.hid hb3
            clear one hB3 hX hb3 hu5
            go_wp2_with (at_builtin; refine Ro.wpList_app rfl _ _ _ _ rfl _ _ rfl rfl hr ?_)
            go_roundw
            case rel => exact ⟨k + 1, m + 1, A3, cc3, by omega, by omega, by go_num, rfl, by show _ = _; rw [HF.out, List.length_append, ← HM.out]; rfl, by show Bld _ _ _ _ _ _ _ _; rw [HF.out, flatC_snoc]; exact HB3.out⟩
            case measure => simp [intOf]; omega
        · rw [show (if true = true then round else r) = round from rfl] at HF
          have hX : Below wr.heap.size wr ((((w2.setCell ⟨wr.heap.size, 1, none⟩ (.int .i64 u)).setCell ⟨wr.heap.size, 2, none⟩ (.int .i64 v)).setCell ⟨wr.heap.size, 3, none⟩ (.int .i64 round)).alloc (.cells #[.int .i64 u, .int .i64 v] 44)) := (((hb02.setCell (Nat.le_refl wr.heap.size) _).setCell (Nat.le_refl wr.heap.size) _).setCell (Nat.le_refl wr.heap.size) _).alloc (by simpa using hb02.size) _
          have hB3 := HB.out.free hX
          by_cases hu5 : u = 5
          · subst hu5
            rw [if_pos rfl, List.append_nil] at HF
            have HB3 := Lib.hid hB3
            clear one hB3 hX
            go_wp2_with fail
            go_roundw
            case rel => exact ⟨k + 1, m, A', c', by omega, by omega, by go_num, rfl, by show _ = _; rw [HF.out]; exact HM.out, by show Bld _ _ _ _ _ _ _ _; rw [HF.out]; exact HB3.out⟩
            case measure => simp [intOf]; omega
          · rw [if_neg hu5] at HF
            have hx : (u != 5) = true := by simpa using hu5
            obtain ⟨A3, cc3, w3, hr, hb3, -⟩ := hB3.push elc #[.string t, .int .i64 u, .int .i64 v, .int .i64 round] rfl (one _ _ _ _) (by omega) (by decide) (N := w2.heap.size + 1) (by simp)
            have HB3 := Lib.hid hb3
            clear one hB3 hX hb3 hu5
            go_wp2_with (at_builtin; refine Ro.wpList_app rfl _ _ _ _ rfl _ _ rfl rfl hr ?_)
            go_roundw
            case rel => exact ⟨k + 1, m + 1, A3, cc3, by omega, by omega, by go_num, rfl, by show _ = _; rw [HF.out, List.length_append, ← HM.out]; rfl, by show Bld _ _ _ _ _ _ _ _; rw [HF.out, flatC_snoc]; exact HB3.out⟩
            case measure => simp [intOf]; omega
      · have hts' : (t.toList == s.toList) = false := by simpa using hts
        have hf : oneD s q well rt round ⟨t, x, y, r⟩ = if x = 5 then [] else [⟨t, x, y, r⟩] := by unfold oneD; rw [if_neg hts]
        rw [hf] at HF
        by_cases hx5 : x = 5
        · rw [if_pos hx5, List.append_nil] at HF
          have HB3 := Lib.hid (HB.out.free hal)
          subst hx5
          clear hts hf one hal
          go_wp2_with fail
          go_roundw
          case rel => exact ⟨k + 1, m, A', c', by omega, by omega, by go_num, rfl, by show _ = _; rw [HF.out]; exact HM.out, by show Bld _ _ _ _ _ _ _ _; rw [HF.out]; exact HB3.out⟩
          case measure => simp [intOf]; omega
        · rw [if_neg hx5] at HF
          have hx : (x != 5) = true := by simpa using hx5
          obtain ⟨A3, cc3, w3, hr, hb3, -⟩ := (HB.out.free hal).push elc #[.string t, .int .i64 x, .int .i64 y, .int .i64 r] rfl (one _ _ _ _) (by omega) (by decide) (N := wr.heap.size + 1) (by simp)
          have HB3 := Lib.hid hb3
          clear hts hf one hal hb3 hx5
          go_wp2_with (at_builtin; refine Ro.wpList_app rfl _ _ _ _ rfl _ _ rfl rfl hr ?_)
          go_roundw
          case rel => exact ⟨k + 1, m + 1, A3, cc3, by omega, by omega, by go_num, rfl, by show _ = _; rw [HF.out, List.length_append, ← HM.out]; rfl, by show Bld _ _ _ _ _ _ _ _; rw [HF.out, flatC_snoc]; exact HB3.out⟩
          case measure => simp [intOf]; omega
    · obtain rfl : k = n := by omega
      have he : Hid (bx.take k = bx) := by show _ = _; rw [List.take_of_length_le (by have := Hl.out; omega)]
      have M6 := HN6.out.below HB.out.below HN6.out.lt
      have q0 : wr.cell? ⟨w.heap.size, 0, none⟩ = some (.int .i64 rt) := M3.cell 0
      have q1 : wr.cell? ⟨w.heap.size, 1, none⟩ = some (.slice AO nO cO) := M3.cell 1
      have q3 : wr.cell? ⟨w.heap.size, 3, none⟩ = some (.slice AI nI cI) := M3.cell 3
      have r0 : wr.cell? ⟨w.heap.size + 1, 0, none⟩ = some (.int .i64 0) := M6.cell 0
      have r1 : wr.cell? ⟨w.heap.size + 1, 1, none⟩ = some (.slice none 0 0) := M6.cell 1
      have r2 : wr.cell? ⟨w.heap.size + 1, 2, none⟩ = some (.slice none 0 0) := M6.cell 2
      have r3 : wr.cell? ⟨w.heap.size + 1, 3, none⟩ = some (.slice none 0 0) := M6.cell 3
      have f3 := M3.frozen
      have f6 := M6.frozen
      have HE : Hid (∀ (u : World), Ro.Only (fun b => b = w.heap.size ∨ b = w.heap.size + 1) wr u → CRow u A' m c' (rdoB bx s q well rt round) ∧ Below w.heap.size w u ∧ ∀ b, Ro.blk A' = some b → w.heap.size ≤ b) := by
        intro u hu
        have l6 := HN6.out.lt
        have hz := HL0.out.size
        have hb := HB.out
        rw [he.out] at hb
        refine ⟨hb.row.only hu (fun b hb2 e => by have := hb.fresh b hb2; omega), ?_, fun b hb2 => by have := hb.fresh b hb2; omega⟩
        exact (HL0.out.trans (hb.below.mono HL0.out.size)).trans (hu.below (by have := hb.below.size; omega) (fun b hb e => by omega))
      have hm2 : Hid ((rdoB bx s q well rt round).length = m) := by
        have := HM.out
        rw [he.out] at this
        exact this.symm
      clear M3 M6
      go_wp2_with fail
      obtain ⟨e1, e2, e3⟩ := HE.out _ (only5 wr w.heap.size 2 (.slice A' m c') (.int .i64 rt) (.slice AO nO cO) (.slice A' m c') (.slice AI nI cI))
      refine bodyPost_ret (v := .agg #[.int .i64 rt, .slice AO nO cO, .slice A' m c', .slice AI nI cI]) (by simp [results, Try.results61, go_sem, r0, r1, r2, r3]) rfl ?_
      unfold NewC
      rw [hm2.out]
      exact ⟨A', c', rfl, e1, e2, e3⟩
end Wo
end Go.Proofs.Ythccojfflmfggaa
/- The walks of layers 15 and 16 (image, world): touch. -/
namespace Go.Proofs.Ythccojfflmfggaa
open Go.RowKit
namespace Wo
/-- one name is used -/
def tchOne (round : Int) (l : List ImgV) (u : ByteArray) : List ImgV := if Str.has (nms l) u then match l[Str.pos (nms l) u]? with
  | some p => l.set (Str.pos (nms l) u) ⟨p.name, p.size, round⟩
  | none => l
  else l
theorem nms_one (round : Int) (l : List ImgV) (u : ByteArray) : nms (tchOne round l u) = nms l := by
  unfold tchOne
  split
  · generalize Str.pos (nms l) u = P
    cases hp : l[P]? with
    | none => rfl
    | some p =>
      obtain ⟨hl, _⟩ := List.getElem?_eq_some_iff.1 hp
      show (l.set P _).map (fun p => p.name) = l.map fun p => p.name
      rw [List.map_set]
      apply List.ext_getElem?
      intro j
      rw [List.getElem?_set]
      by_cases e : P = j
      · subst e
        rw [if_pos rfl, if_pos (by simpa using hl), List.getElem?_map, hp]
        rfl
      · rw [if_neg e]
  · rfl
def tchTo (round : Int) (im : List ImgV) (us : List ByteArray) : List ImgV := us.foldl (tchOne round) im
theorem nms_to (round : Int) (us : List ByteArray) : ∀ im : List ImgV, nms (tchTo round im us) = nms im := by
  induction us with
  | nil => intro im; rfl
  | cons u us ih => intro im; show nms (tchTo round (tchOne round im u) us) = _; rw [ih, nms_one]
theorem len_to (round : Int) (us : List ByteArray) (im : List ImgV) : (tchTo round im us).length = im.length := by
  rw [← nms_len, nms_to, nms_len]
theorem to_snoc (round : Int) (us : List ByteArray) (k : Nat) (h : k < us.length) (im : List ImgV) : tchTo round im (us.take (k + 1)) = tchOne round (tchTo round im (us.take k)) us[k] := by
  unfold tchTo
  rw [Mem.take_snoc _ _ h, List.foldl_append]
  rfl
set_option maxRecDepth 100000 in
set_option maxHeartbeats 4000000 in
theorem touch_c (A A2 : Option Addr) (n c m d : Nat) (im : List ImgV) (us : List ByteArray) (round : Int) (w : World) (h : Mem.Sl w w.heap.size 3 A n (ImgV.flat im)) (h2 : Strs w w.heap.size A2 m us) (hr : Str.Rises (nms im)) (hlen : im.length = n) (hn : n ≤ 100000) (hm : m ≤ 10000) (hA : A = none → n = 0 ∧ c = 0) :
    Calls Try.prog 65 #[.slice A n c, .slice A2 m d, .int .i64 round] w (NewI n (tchTo round im us) w) := by
  have hcl := Lib.hid (clonei_c A n c im w h (by omega) hA)
  have Hl := Lib.hid hlen
  have H2 := Lib.hid h2
  have Hr := Lib.hid hr
  clear hlen h h2 hr hA
  go_enter Try.func65, Try.ntmps65
  go_wp2_with fail
  refine hcl.out.mono ?_
  rintro e w2 ⟨A', c', rfl, hR2, hb2, hA2⟩
  have HR := Lib.hid hR2
  have HB := Lib.hid hb2
  have HA := Lib.hid hA2
  clear hcl hR2 hb2 hA2
  go_wp2_with fail
  go_loopw [16] (fun vi wr => ∃ k : Nat, k ≤ m ∧ vi = .int .i64 k ∧ Hid (Below w.heap.size w wr) ∧ Hid (IRow wr A' n c' (tchTo round im (us.take k)))) (fun i _ => m - (intOf i).toNat)
  case atStart => exact ⟨0, by omega, rfl, HB, HR⟩
  case round =>
    clear HR HB
    obtain ⟨k, hk, rfl, HB, HR⟩ := hrel
    by_cases hlt : k < m
    · obtain ⟨ad, t, hl, rfl, hlb, ht, hcell⟩ := (show Strs wr w.heap.size A2 m us from Mem.Sl.below H2.out HB.out).at_ hlt
      have HS := Lib.hid (to_snoc round us k hl im)
      rw [ht] at HS
      have hll := len_to round (us.take k) im
      have hat := iat_c A' n c' (tchTo round im (us.take k)) t wr (Ro.Row.sl HR.out) (by rw [nms_to]; exact Hr.out) (by rw [hll]; exact Hl.out) (by omega)
      have hrise : Str.Rises (nms (tchTo round im (us.take k))) := by rw [nms_to]; exact Hr.out
      have hln : (tchTo round im (us.take k)).length = n := by rw [hll]; exact Hl.out
      clear hl ht hlb hll
      generalize tchTo round im (us.take k) = L at *
      cases hh : Str.has (nms L) t
      · have e1 : tchOne round L t = L := by unfold tchOne; rw [hh, if_neg (by decide)]
        rw [e1] at HS
        rw [hh] at hat
        have Hat := Lib.hid hat
        generalize Str.pos (nms L) t = P at *
        clear e1 hh hat hrise hln
        go_wp2_with fail
        refine Hat.out.mono ?_
        rintro e w3 ⟨rfl, hb3⟩
        have HB3 := Lib.hid (HB.out.trans (hb3.mono HB.out.size))
        have HR3 := Lib.hid (HR.out.keep fun b hb => hb3.block b (HR.out.lt hb))
        clear Hat hb3
        go_wp2_with fail
        go_roundw
        case rel => exact ⟨k + 1, by omega, by go_num, HB3, by show IRow _ _ _ _ _; rw [HS.out]; exact HR3.out⟩
        case measure => simp [intOf]; omega
      · obtain ⟨hl, -, hnm⟩ := theI_some hrise hh
        have e1 : ∀ P (hP : P < L.length), P = Str.pos (nms L) t → tchOne round L t = L.set P ⟨L[P].name, L[P].size, round⟩ := by
          rintro P hP rfl
          unfold tchOne
          rw [hh, if_pos rfl, List.getElem?_eq_getElem hP]
        rw [hh] at hat
        have Hat := Lib.hid hat
        obtain ⟨P, hP⟩ : ∃ P, P = Str.pos (nms L) t := ⟨_, rfl⟩
        have hl' : P < L.length := by rw [hP]; exact hl
        have e2 := e1 P hl' hP
        rw [e2] at HS
        rw [← hP] at Hat
        clear e1 e2 hh hat hrise hnm hl hP
        have hPn : P < n := by omega
        go_wp2_with fail
        refine Hat.out.mono ?_
        rintro e w3 ⟨rfl, hb3⟩
        have HB3 := Lib.hid (HB.out.trans (hb3.mono HB.out.size))
        have hR3 : IRow w3 A' n c' L := HR.out.keep fun b hb => hb3.block b (HR.out.lt hb)
        have hle := hR3.le
        obtain ⟨gI, off, rfl⟩ := hR3.some_of (by omega)
        have hg := HA.out gI rfl
        have hlt3 : P * 3 + 2 < (ImgV.flat L).length := by rw [ImgV.flat_len]; omega
        have hcell3 := hR3.cell (P * 3 + 2) hlt3
        have hget : (ImgV.flat L)[P * 3 + 2] = .int .i64 L[P].last := by
          have := ImgV.flat_get L P 2 hl' (by decide)
          rw [List.getElem?_eq_getElem hlt3] at this
          exact Option.some.inj this
        rw [hget, ← Nat.add_assoc] at hcell3
        have hfz := hR3.frozen
        have hset := hR3.set1 (P * 3 + 2) hlt3 (.int .i64 round)
        rw [flati_set2 hl', ← Nat.add_assoc] at hset
        have HSt := Lib.hid hset
        have hz := HB3.out.size
        generalize L[P].last = ls at *
        clear Hat hb3 hset hR3 hget hlt3
        go_wp2_with fail
        go_roundw
        case rel => exact ⟨k + 1, by omega, by go_num, HB3.out.setCell (by show w.heap.size ≤ gI; have := HB.out.size; omega) _, by show IRow _ _ _ _ _; rw [HS.out]; exact HSt.out⟩
        case measure => simp [intOf]; omega
    · obtain rfl : k = m := by omega
      have he : Hid (us.take k = us) := by show _ = _; rw [List.take_of_length_le (by have := H2.out.len; omega)]
      go_wp2_with fail
      go_ret
      have h2 := HR.out
      rw [he.out] at h2
      exact ⟨A', c', rfl, h2, HB.out, HA.out⟩
set_option maxRecDepth 100000 in
set_option maxHeartbeats 1000000 in
theorem wtouch_c (g : Nat) (s : St) (S : Nat → Prop) (A2 : Option Addr) (m d : Nat) (us : List ByteArray) (round : Int) (w : World) (h : At w g s S) (hs : Good s) (h2 : Strs w w.heap.size A2 m us) (hm : m ≤ 10000) :
    Calls Try.prog 45 #[.pointer (some ⟨g, 0, none⟩), .slice A2 m d, .int .i64 round] w fun e w' => e = .returned (.tuple #[]) ∧ Post S w w' g { s with im := tchTo round s.im us } := by
  have H := Lib.hid h
  have hni := hs.ni
  obtain ⟨AQ, nq, cq, AB, nb, cb, AI, ni, ci, hL⟩ := h
  have hlen := hL.lens.2.2
  have m3 : w.cell? ⟨g, 3, none⟩ = some (.slice AI ni ci) := hL.blk.cell 3
  have ht := Lib.hid (touch_c AI A2 ni ci m d s.im us round w hL.i.sl h2 hs.ri hlen (by omega) hm (row_nil hL.i))
  clear hL h2 hs hlen
  go_enter Try.func45, Try.ntmps45
  go_wp2_with fail
  refine ht.out.mono ?_
  rintro e w1 ⟨A', c', rfl, hR, hb1, hA⟩
  obtain ⟨⟨v, k3⟩, kf, hp⟩ := post_setI H.out hb1 hR hA
  have HP := Lib.hid hp
  clear ht hR hb1 hA hp
  go_wp2_with fail
  exact bodyPost_end (results_none rfl _ _ _) rfl ⟨rfl, HP.out⟩
theorem touchH {wr w : World} {ks : Nat → Prop} {g : Nat} {s : St} {A2 : Option Addr} {m d : Nat} {us : List ByteArray} {round : Int} (h : Has wr ks w g s) (hs : Good s) (h2 : Strs w w.heap.size A2 m us) (hm : m ≤ 10000) :
    Calls Try.prog 45 #[.pointer (some ⟨g, 0, none⟩), .slice A2 m d, .int .i64 round] w fun e w' => e = .returned (.tuple #[]) ∧ Has wr ks w' g { s with im := tchTo round s.im us } := by
  obtain ⟨S, h1, h3, h4⟩ := h
  exact (wtouch_c g s S A2 m d us round w h1 hs h2 hm).mono fun e w' p => ⟨p.1, Has.step h3 h4 p.2⟩
end Wo
end Go.Proofs.Ythccojfflmfggaa
