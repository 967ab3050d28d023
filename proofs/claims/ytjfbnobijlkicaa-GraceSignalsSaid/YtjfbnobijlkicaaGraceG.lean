/- The walks of the reference of layer 18 (grace): shares, edges, signals. -/
import Derived.Test.YtjfbnobijlkicaaGraceH
namespace Go.Proofs.Ytjfbnobijlkicaa
open Go.RowKit
namespace Grc
set_option maxRecDepth 100000 in
set_option maxHeartbeats 1000000 in
theorem rshare_c (cap pct : Int) (w : World) (h0 : 0 ≤ cap) (h1 : cap ≤ 9223372036854775807) (p0 : 0 ≤ pct) (p1 : pct ≤ 100) :
    Calls Try.prog 71 #[.int .i64 cap, .int .i64 pct] w fun e w' => e = .returned (.int .i64 (Wide.share cap pct)) ∧ Below w.heap.size w w' := by
  obtain ⟨s0, _, _, s1, s2⟩ := Wide.share_facts cap pct h1
  have hclip : Wide.clip pct = pct := by unfold Wide.clip; (repeat' split) <;> omega
  rw [hclip] at s2
  have s3 := s1 h0
  have hcall : Hid (∀ (q : Int) (w : World), 0 ≤ q → q ≤ 9223372036854775807 → ∃ r : Int, (q < Wide.share cap pct → r < 0) ∧ (Wide.share cap pct ≤ q → 0 ≤ r) ∧ Calls Try.prog 72 #[.int .i64 q, .int .i64 100, .int .i64 cap, .int .i64 pct] w fun e w' => e = .returned (.int .i64 r) ∧ w = w') := by
    intro q w hq hq2
    refine ⟨_, fun h => ?_, fun h => ?_, Wide.rcompare_c q 100 cap pct w hq2 (by decide) h1 (by omega)⟩
    · have := s2 q hq
      unfold Wide.below at this
      rw [decide_eq_decide] at this
      exact this.2 h
    · have := s2 q hq
      unfold Wide.below at this
      rw [decide_eq_decide] at this
      omega
  clear s1 s2 hclip
  generalize Wide.share cap pct = S at *
  go_enter Try.func71, Try.ntmps71
  go_wp2_with fail
  go_loopw [5, 6] (fun vl vh wr => ∃ lo hi : Int, vl = .int .i64 lo ∧ vh = .int .i64 hi ∧ 0 ≤ lo ∧ lo ≤ S ∧ S ≤ hi ∧ hi ≤ cap ∧ Below w.heap.size w wr) (fun l h _ => (intOf h - intOf l).toNat)
  case atStart => exact ⟨0, cap, rfl, rfl, by omega, s0, s3, by omega, Below.refl _ _⟩
  case round =>
    obtain ⟨lo, hi, rfl, rfl, b0, b1, b2, b3, hbr⟩ := hrel
    by_cases hlt : lo < hi
    · have q1 : IntKind.i64.wrap (hi - lo) = hi - lo := by unfold IntKind.wrap; simp [IntKind.bits, IntKind.signed]; omega
      obtain ⟨D, hD⟩ : ∃ D, D = (hi - lo) / 2 := ⟨_, rfl⟩
      have d0 : 0 ≤ D := by omega
      have d1 : lo + D < hi := by omega
      have q2 : (hi - lo).tdiv 2 = D := by rw [Int.tdiv_eq_ediv_of_nonneg (by omega), hD]
      clear hD
      have q3 : IntKind.i64.wrap D = D := by unfold IntKind.wrap; simp [IntKind.bits, IntKind.signed]; omega
      have q4 : IntKind.i64.wrap (lo + D) = lo + D := by unfold IntKind.wrap; simp [IntKind.bits, IntKind.signed]; omega
      have q5 : IntKind.i64.wrap (lo + D + 1) = lo + D + 1 := by unfold IntKind.wrap; simp [IntKind.bits, IntKind.signed]; omega
      obtain ⟨r, r1, r2, hc⟩ := hcall.out (lo + D) wr (by omega) (by omega)
      have Hc := Lib.hid hc
      clear hc
      go_wp2_with fail
      refine Hc.out.mono ?_
      rintro e w2 ⟨rfl, rfl⟩
      have hor : r < 0 ∧ lo + D < S ∨ 0 ≤ r ∧ S ≤ lo + D := by
        by_cases h : lo + D < S
        · exact .inl ⟨r1 h, h⟩
        · exact .inr ⟨r2 (by omega), by omega⟩
      clear r1 r2
      rcases hor with ⟨g1, g2⟩ | ⟨g1, g2⟩
      · have e1 : decide (r < 0) = true := by simp; omega
        go_wp2_with fail
        go_roundw
        case rel => exact ⟨lo + D + 1, hi, rfl, rfl, by omega, by omega, by omega, by omega, hbr⟩
        case measure => simp [intOf]; omega
      · have e1 : decide (r < 0) = false := by simp; omega
        go_wp2_with fail
        go_roundw
        case rel => exact ⟨lo, lo + D, rfl, rfl, by omega, by omega, by omega, by omega, hbr⟩
        case measure => simp [intOf]; omega
    · obtain rfl : lo = S := by omega
      go_wp2_with fail
      go_ret
      exact ⟨rfl, hbr⟩
set_option maxRecDepth 100000 in
set_option maxHeartbeats 4000000 in
theorem redge1_c (p : CfgV) (ths : List ThrV) (k : Nat) (w : World) (hp : p.ok w w.heap.size ths) (hk : k < ths.length) (hn : p.n ≤ 1000000) (hr : RightC p ths) :
    Calls Try.prog 62 #[.agg p.arr, .int .i64 k] w fun e w' => e = .returned (.int .i64 (edgeT ths[k] (pick3 p.c0 p.c1 p.c2 ths[k].sig))) ∧ Below w.heap.size w w' := by
  have hlen := hp.len
  have hsl := hp.sl
  have hcs := And.intro (And.intro hr.c0 hp.c0.2) (And.intro (And.intro hr.c1 hp.c1.2) (And.intro hr.c2 hp.c2.2))
  have hmem : ths[k] ∈ ths := List.getElem_mem hk
  have hrt := hr.each _ hmem
  clear hp hr
  obtain ⟨k0, k1, k2, a0, a1, a2, A, n, c, per, ret, age, dead⟩ := p
  unfold CfgV.arr
  dsimp only at hn hlen hsl hcs ⊢
  obtain ⟨hc0, hc1, hc2⟩ := hcs
  have hlt : k < n := by omega
  obtain ⟨ad, _, hA, _, hbk, hat⟩ := ThrV.at_ hsl hlt
  have hs0 := hrt.s0
  have hs2 := hrt.s2
  have hp0 := hrt.p0
  have hp1 := hrt.p1
  obtain ⟨F, hF⟩ : ∃ F, F = edgeT ths[k] (pick3 k0 k1 k2 ths[k].sig) := ⟨_, rfl⟩
  rw [← hF]
  have hmd : Hid (F = if 0 < ths[k].pct then Wide.share (pick3 k0 k1 k2 ths[k].sig) ths[k].pct else ths[k].amt) := hF
  clear hF hrt hmem
  have hab : ad.block < w.heap.size := by rw [Mem.add_block] at hbk; exact hbk
  subst hA
  generalize ths[k] = t at *
  obtain ⟨sig, pct, amt, soft, grace⟩ := t
  obtain ⟨c0, c1, c2, c3, c4⟩ := hat
  dsimp only at c0 c1 c2 c3 c4 hs0 hs2 hp0 hp1 hmd
  have e0 : World.cell? (w.alloc (.cells #[.int .i64 k0, .int .i64 k1, .int .i64 k2, .int .i64 a0, .int .i64 a1, .int .i64 a2, .slice (some ad) n c, .int .i64 per, .int .i64 ret, .int .i64 age, .int .i64 dead] 47)) (ad.add (k * 5)) = some (.int .i64 sig) := Mem.keep_alloc c0
  have e1 : World.cell? (w.alloc (.cells #[.int .i64 k0, .int .i64 k1, .int .i64 k2, .int .i64 a0, .int .i64 a1, .int .i64 a2, .slice (some ad) n c, .int .i64 per, .int .i64 ret, .int .i64 age, .int .i64 dead] 47)) { block := (ad.add (k * 5)).block, off := (ad.add (k * 5)).off + 1 } = some (.int .i64 pct) := Mem.keep_alloc c1
  have e2 : World.cell? (w.alloc (.cells #[.int .i64 k0, .int .i64 k1, .int .i64 k2, .int .i64 a0, .int .i64 a1, .int .i64 a2, .slice (some ad) n c, .int .i64 per, .int .i64 ret, .int .i64 age, .int .i64 dead] 47)) { block := (ad.add (k * 5)).block, off := (ad.add (k * 5)).off + 2 } = some (.int .i64 amt) := Mem.keep_alloc c2
  have e3 : World.cell? (w.alloc (.cells #[.int .i64 k0, .int .i64 k1, .int .i64 k2, .int .i64 a0, .int .i64 a1, .int .i64 a2, .slice (some ad) n c, .int .i64 per, .int .i64 ret, .int .i64 age, .int .i64 dead] 47)) { block := (ad.add (k * 5)).block, off := (ad.add (k * 5)).off + 3 } = some (.bool soft) := Mem.keep_alloc c3
  have e4 : World.cell? (w.alloc (.cells #[.int .i64 k0, .int .i64 k1, .int .i64 k2, .int .i64 a0, .int .i64 a1, .int .i64 a2, .slice (some ad) n c, .int .i64 per, .int .i64 ret, .int .i64 age, .int .i64 dead] 47)) { block := (ad.add (k * 5)).block, off := (ad.add (k * 5)).off + 4 } = some (.int .i64 grace) := Mem.keep_alloc c4
  clear c0 c1 c2 c3 c4
  have hor : pct = 0 ∨ pct ≠ 0 := by omega
  rcases hor with rfl | hq
  · have hv : F = amt := by rw [hmd.out]; simp
    have HV := Lib.hid hv
    clear hv
    go_enter Try.func62, Try.ntmps62
    go_wp2_with fail
    go_ret
    exact ⟨by rw [HV.out]; rfl, ((Below.refl _ _).alloc (Nat.le_refl _) _).alloc (by simp) _⟩
  · have hv : F = Wide.share (pick3 k0 k1 k2 sig) pct := by rw [hmd.out, if_pos (by omega)]
    have HV := Lib.hid hv
    clear hv
    have e1' : (pct == 0) = false := by simp [hq]
    have HQ := Lib.hid hq
    clear hq
    have hor : sig = 0 ∨ sig = 1 ∨ sig = 2 := by omega
    rcases hor with rfl | rfl | rfl
    · go_enter Try.func62, Try.ntmps62
      go_wp2_with fail
      clear e0 e1 e2 e3 e4
      obtain ⟨X, hX⟩ : ∃ X, X = World.drew ((w.alloc (.cells #[.int .i64 k0, .int .i64 k1, .int .i64 k2, .int .i64 a0, .int .i64 a1, .int .i64 a2, .slice (some ad) n c, .int .i64 per, .int .i64 ret, .int .i64 age, .int .i64 dead] 47)).alloc (.cells #[.int .i64 0, .int .i64 pct, .int .i64 amt, .bool soft, .int .i64 grace] 67)) := ⟨_, rfl⟩
      have LX : Below w.heap.size w X := by rw [hX]; exact (((Below.refl _ _).alloc (Nat.le_refl _) _).alloc (by simp) _).drew
      have zX : w.heap.size + 2 ≤ X.heap.size := by rw [hX]; simp
      have TX : Mem.Blk X (w.heap.size + 1) 67 #[.int .i64 0, .int .i64 pct, .int .i64 amt, .bool soft, .int .i64 grace] := by
        rw [hX]
        have q := Mem.Blk.new (w := w.alloc (.cells #[.int .i64 k0, .int .i64 k1, .int .i64 k2, .int .i64 a0, .int .i64 a1, .int .i64 a2, .slice (some ad) n c, .int .i64 per, .int .i64 ret, .int .i64 age, .int .i64 dead] 47)) (t := 67) (cs := #[.int .i64 0, .int .i64 pct, .int .i64 amt, .bool soft, .int .i64 grace])
        rw [World.size_alloc] at q
        exact q.drew
      have BX : Mem.Blk X w.heap.size 47 #[.int .i64 k0, .int .i64 k1, .int .i64 k2, .int .i64 a0, .int .i64 a1, .int .i64 a2, .slice (some ad) n c, .int .i64 per, .int .i64 ret, .int .i64 age, .int .i64 dead] := by
        rw [hX]
        exact (Mem.Blk.new.alloc).drew
      have SX : (fun w' => w'.cell? ⟨w.heap.size + 1, 0, none⟩ = some (.int .i64 0) ∧ w'.cell? ⟨w.heap.size + 1, 1, none⟩ = some (.int .i64 pct) ∧ w'.cell? ⟨w.heap.size, 0, none⟩ = some (.int .i64 k0)) X := ⟨TX.cell 0, TX.cell 1, BX.cell 0⟩
      refine Reg.start (S := (fun w' => w'.cell? ⟨w.heap.size + 1, 0, none⟩ = some (.int .i64 0) ∧ w'.cell? ⟨w.heap.size + 1, 1, none⟩ = some (.int .i64 pct) ∧ w'.cell? ⟨w.heap.size, 0, none⟩ = some (.int .i64 k0))) (by kernel_rfl) ?_
      rw [← hX]
      clear hX
      refine Reg.takes (n := 2) (by kernel_rfl) (fun _ _ d _ _ h => by cases d <;> exact h) SX [0, 1, 2, 3, 4, 5, 6] _ _ (by kernel_rfl) ?_
      iterate 7 (refine Reg.det_step rfl (fun K' hK' => ?_); go_simp; (first | (refine hK' _ ?_; clear hK' K') | (apply Exists.intro; refine ⟨fun wx hwx => ?_, hK' _ ?_⟩; (first | rfl | (have fa := hwx; intro fb fc; go_simp; first | done | rfl)); clear hK' K')))
      refine Reg.det_nil ?_
      refine Reg.one (i := 7) (n := 1) (by kernel_rfl) ?_
      refine Reg.call rfl rfl (by go_simp; exact ⟨rfl, rfl⟩) ?_
      refine (rshare_c k0 pct _ (by omega) (by omega) (by omega) (by omega)).mono ?_
      rintro e w2 ⟨rfl, hb2⟩
      have S2 : (fun w' => w'.cell? ⟨w.heap.size + 1, 0, none⟩ = some (.int .i64 0) ∧ w'.cell? ⟨w.heap.size + 1, 1, none⟩ = some (.int .i64 pct) ∧ w'.cell? ⟨w.heap.size, 0, none⟩ = some (.int .i64 k0)) w2 := ⟨(TX.belowS hb2).cell 0, (TX.belowS hb2).cell 1, (BX.belowS hb2).cell 0⟩
      refine ⟨_, rfl, S2, ?_⟩
      refine Reg.takes (n := 0) (by kernel_rfl) (fun _ _ d _ _ h => by cases d <;> exact h) S2 [8] _ _ (by kernel_rfl) ?_
      iterate 1 (refine Reg.det_step rfl (fun K' hK' => ?_); go_simp; (first | (refine hK' _ ?_; clear hK' K') | (apply Exists.intro; refine ⟨fun wx hwx => ?_, hK' _ ?_⟩; (first | rfl | (have fa := hwx; intro fb fc; go_simp; first | done | rfl)); clear hK' K')))
      refine Reg.det_nil ?_
      refine wpAnyH_done (by kernel_rfl) ?_ _
      go_wp2_with fail
      go_ret
      exact ⟨by rw [HV.out]; rfl, LX.trans (hb2.mono LX.size)⟩
    · go_enter Try.func62, Try.ntmps62
      go_wp2_with fail
      clear e0 e1 e2 e3 e4
      obtain ⟨X, hX⟩ : ∃ X, X = World.drew ((w.alloc (.cells #[.int .i64 k0, .int .i64 k1, .int .i64 k2, .int .i64 a0, .int .i64 a1, .int .i64 a2, .slice (some ad) n c, .int .i64 per, .int .i64 ret, .int .i64 age, .int .i64 dead] 47)).alloc (.cells #[.int .i64 1, .int .i64 pct, .int .i64 amt, .bool soft, .int .i64 grace] 67)) := ⟨_, rfl⟩
      have LX : Below w.heap.size w X := by rw [hX]; exact (((Below.refl _ _).alloc (Nat.le_refl _) _).alloc (by simp) _).drew
      have zX : w.heap.size + 2 ≤ X.heap.size := by rw [hX]; simp
      have TX : Mem.Blk X (w.heap.size + 1) 67 #[.int .i64 1, .int .i64 pct, .int .i64 amt, .bool soft, .int .i64 grace] := by
        rw [hX]
        have q := Mem.Blk.new (w := w.alloc (.cells #[.int .i64 k0, .int .i64 k1, .int .i64 k2, .int .i64 a0, .int .i64 a1, .int .i64 a2, .slice (some ad) n c, .int .i64 per, .int .i64 ret, .int .i64 age, .int .i64 dead] 47)) (t := 67) (cs := #[.int .i64 1, .int .i64 pct, .int .i64 amt, .bool soft, .int .i64 grace])
        rw [World.size_alloc] at q
        exact q.drew
      have BX : Mem.Blk X w.heap.size 47 #[.int .i64 k0, .int .i64 k1, .int .i64 k2, .int .i64 a0, .int .i64 a1, .int .i64 a2, .slice (some ad) n c, .int .i64 per, .int .i64 ret, .int .i64 age, .int .i64 dead] := by
        rw [hX]
        exact (Mem.Blk.new.alloc).drew
      have SX : (fun w' => w'.cell? ⟨w.heap.size + 1, 0, none⟩ = some (.int .i64 1) ∧ w'.cell? ⟨w.heap.size + 1, 1, none⟩ = some (.int .i64 pct) ∧ w'.cell? ⟨w.heap.size, 1, none⟩ = some (.int .i64 k1)) X := ⟨TX.cell 0, TX.cell 1, BX.cell 1⟩
      refine Reg.start (S := (fun w' => w'.cell? ⟨w.heap.size + 1, 0, none⟩ = some (.int .i64 1) ∧ w'.cell? ⟨w.heap.size + 1, 1, none⟩ = some (.int .i64 pct) ∧ w'.cell? ⟨w.heap.size, 1, none⟩ = some (.int .i64 k1))) (by kernel_rfl) ?_
      rw [← hX]
      clear hX
      refine Reg.takes (n := 2) (by kernel_rfl) (fun _ _ d _ _ h => by cases d <;> exact h) SX [0, 1, 2, 3, 4, 5, 6] _ _ (by kernel_rfl) ?_
      iterate 7 (refine Reg.det_step rfl (fun K' hK' => ?_); go_simp; (first | (refine hK' _ ?_; clear hK' K') | (apply Exists.intro; refine ⟨fun wx hwx => ?_, hK' _ ?_⟩; (first | rfl | (have fa := hwx; intro fb fc; go_simp; first | done | rfl)); clear hK' K')))
      refine Reg.det_nil ?_
      refine Reg.one (i := 7) (n := 1) (by kernel_rfl) ?_
      refine Reg.call rfl rfl (by go_simp; exact ⟨rfl, rfl⟩) ?_
      refine (rshare_c k1 pct _ (by omega) (by omega) (by omega) (by omega)).mono ?_
      rintro e w2 ⟨rfl, hb2⟩
      have S2 : (fun w' => w'.cell? ⟨w.heap.size + 1, 0, none⟩ = some (.int .i64 1) ∧ w'.cell? ⟨w.heap.size + 1, 1, none⟩ = some (.int .i64 pct) ∧ w'.cell? ⟨w.heap.size, 1, none⟩ = some (.int .i64 k1)) w2 := ⟨(TX.belowS hb2).cell 0, (TX.belowS hb2).cell 1, (BX.belowS hb2).cell 1⟩
      refine ⟨_, rfl, S2, ?_⟩
      refine Reg.takes (n := 0) (by kernel_rfl) (fun _ _ d _ _ h => by cases d <;> exact h) S2 [8] _ _ (by kernel_rfl) ?_
      iterate 1 (refine Reg.det_step rfl (fun K' hK' => ?_); go_simp; (first | (refine hK' _ ?_; clear hK' K') | (apply Exists.intro; refine ⟨fun wx hwx => ?_, hK' _ ?_⟩; (first | rfl | (have fa := hwx; intro fb fc; go_simp; first | done | rfl)); clear hK' K')))
      refine Reg.det_nil ?_
      refine wpAnyH_done (by kernel_rfl) ?_ _
      go_wp2_with fail
      go_ret
      exact ⟨by rw [HV.out]; rfl, LX.trans (hb2.mono LX.size)⟩
    · go_enter Try.func62, Try.ntmps62
      go_wp2_with fail
      clear e0 e1 e2 e3 e4
      obtain ⟨X, hX⟩ : ∃ X, X = World.drew ((w.alloc (.cells #[.int .i64 k0, .int .i64 k1, .int .i64 k2, .int .i64 a0, .int .i64 a1, .int .i64 a2, .slice (some ad) n c, .int .i64 per, .int .i64 ret, .int .i64 age, .int .i64 dead] 47)).alloc (.cells #[.int .i64 2, .int .i64 pct, .int .i64 amt, .bool soft, .int .i64 grace] 67)) := ⟨_, rfl⟩
      have LX : Below w.heap.size w X := by rw [hX]; exact (((Below.refl _ _).alloc (Nat.le_refl _) _).alloc (by simp) _).drew
      have zX : w.heap.size + 2 ≤ X.heap.size := by rw [hX]; simp
      have TX : Mem.Blk X (w.heap.size + 1) 67 #[.int .i64 2, .int .i64 pct, .int .i64 amt, .bool soft, .int .i64 grace] := by
        rw [hX]
        have q := Mem.Blk.new (w := w.alloc (.cells #[.int .i64 k0, .int .i64 k1, .int .i64 k2, .int .i64 a0, .int .i64 a1, .int .i64 a2, .slice (some ad) n c, .int .i64 per, .int .i64 ret, .int .i64 age, .int .i64 dead] 47)) (t := 67) (cs := #[.int .i64 2, .int .i64 pct, .int .i64 amt, .bool soft, .int .i64 grace])
        rw [World.size_alloc] at q
        exact q.drew
      have BX : Mem.Blk X w.heap.size 47 #[.int .i64 k0, .int .i64 k1, .int .i64 k2, .int .i64 a0, .int .i64 a1, .int .i64 a2, .slice (some ad) n c, .int .i64 per, .int .i64 ret, .int .i64 age, .int .i64 dead] := by
        rw [hX]
        exact (Mem.Blk.new.alloc).drew
      have SX : (fun w' => w'.cell? ⟨w.heap.size + 1, 0, none⟩ = some (.int .i64 2) ∧ w'.cell? ⟨w.heap.size + 1, 1, none⟩ = some (.int .i64 pct) ∧ w'.cell? ⟨w.heap.size, 2, none⟩ = some (.int .i64 k2)) X := ⟨TX.cell 0, TX.cell 1, BX.cell 2⟩
      refine Reg.start (S := (fun w' => w'.cell? ⟨w.heap.size + 1, 0, none⟩ = some (.int .i64 2) ∧ w'.cell? ⟨w.heap.size + 1, 1, none⟩ = some (.int .i64 pct) ∧ w'.cell? ⟨w.heap.size, 2, none⟩ = some (.int .i64 k2))) (by kernel_rfl) ?_
      rw [← hX]
      clear hX
      refine Reg.takes (n := 2) (by kernel_rfl) (fun _ _ d _ _ h => by cases d <;> exact h) SX [0, 1, 2, 3, 4, 5, 6] _ _ (by kernel_rfl) ?_
      iterate 7 (refine Reg.det_step rfl (fun K' hK' => ?_); go_simp; (first | (refine hK' _ ?_; clear hK' K') | (apply Exists.intro; refine ⟨fun wx hwx => ?_, hK' _ ?_⟩; (first | rfl | (have fa := hwx; intro fb fc; go_simp; first | done | rfl)); clear hK' K')))
      refine Reg.det_nil ?_
      refine Reg.one (i := 7) (n := 1) (by kernel_rfl) ?_
      refine Reg.call rfl rfl (by go_simp; exact ⟨rfl, rfl⟩) ?_
      refine (rshare_c k2 pct _ (by omega) (by omega) (by omega) (by omega)).mono ?_
      rintro e w2 ⟨rfl, hb2⟩
      have S2 : (fun w' => w'.cell? ⟨w.heap.size + 1, 0, none⟩ = some (.int .i64 2) ∧ w'.cell? ⟨w.heap.size + 1, 1, none⟩ = some (.int .i64 pct) ∧ w'.cell? ⟨w.heap.size, 2, none⟩ = some (.int .i64 k2)) w2 := ⟨(TX.belowS hb2).cell 0, (TX.belowS hb2).cell 1, (BX.belowS hb2).cell 2⟩
      refine ⟨_, rfl, S2, ?_⟩
      refine Reg.takes (n := 0) (by kernel_rfl) (fun _ _ d _ _ h => by cases d <;> exact h) S2 [8] _ _ (by kernel_rfl) ?_
      iterate 1 (refine Reg.det_step rfl (fun K' hK' => ?_); go_simp; (first | (refine hK' _ ?_; clear hK' K') | (apply Exists.intro; refine ⟨fun wx hwx => ?_, hK' _ ?_⟩; (first | rfl | (have fa := hwx; intro fb fc; go_simp; first | done | rfl)); clear hK' K')))
      refine Reg.det_nil ?_
      refine wpAnyH_done (by kernel_rfl) ?_ _
      go_wp2_with fail
      go_ret
      exact ⟨by rw [HV.out]; rfl, LX.trans (hb2.mono LX.size)⟩
set_option maxRecDepth 100000 in
set_option maxHeartbeats 4000000 in
theorem redge_c (p : CfgV) (ths : List ThrV) (S : Option Addr) (sc : Nat) (bs : List Bool) (s : Int) (w : World) (hp : p.ok w w.heap.size ths) (hn : p.n ≤ 1000000) (hr : RightC p ths)
    (hb : Mem.Sl w w.heap.size 1 S p.n (bs.map Value.bool)) :
    Calls Try.prog 43 #[.agg p.arr, .slice S p.n sc, .int .i64 s] w fun e w' => e = .returned (.int .i64 (edgeF (pick3 p.c0 p.c1 p.c2 s) s ths bs 0)) ∧ Below w.heap.size w w' := by
  have hlen := hp.len
  have hsl := hp.sl
  have hbl : bs.length = p.n := by have := hb.1; simpa using this
  have hcall : Hid (∀ (wx : World) (k : Nat) (hk : k < ths.length), Below w.heap.size w wx → Calls Try.prog 62 #[.agg p.arr, .int .i64 k] wx fun e w' => e = .returned (.int .i64 (edgeT ths[k] (pick3 p.c0 p.c1 p.c2 ths[k].sig))) ∧ Below wx.heap.size wx w') := fun wx k hk hb => redge1_c p ths k wx ((hp.below hb).more hb.size) hk hn hr
  clear hp hr
  obtain ⟨F, hF⟩ : ∃ F, F = edgeF (pick3 p.c0 p.c1 p.c2 s) s ths bs 0 := ⟨_, rfl⟩
  rw [← hF]
  have HF : Hid (edgeF (pick3 p.c0 p.c1 p.c2 s) s (ths.drop 0) (bs.drop 0) 0 = F) := hF.symm
  clear hF
  obtain ⟨k0, k1, k2, a0, a1, a2, A, n, c, per, ret, age, dead⟩ := p
  unfold CfgV.arr at hcall ⊢
  dsimp only at hn hlen hsl hb hbl HF hcall ⊢
  go_enter Try.func43, Try.ntmps43
  go_wp2_with fail
  go_loopw [7, 8] (fun ve vi wr => ∃ (k : Nat) (e : Int), k ≤ n ∧ vi = .int .i64 k ∧ ve = .int .i64 e ∧ Below w.heap.size w wr ∧ w.heap.size + 1 ≤ wr.heap.size ∧ Mem.Blk wr w.heap.size 47 #[.int .i64 k0, .int .i64 k1, .int .i64 k2, .int .i64 a0, .int .i64 a1, .int .i64 a2, .slice A n c, .int .i64 per, .int .i64 ret, .int .i64 age, .int .i64 dead] ∧ Hid (edgeF (pick3 k0 k1 k2 s) s (ths.drop k) (bs.drop k) e = F)) (fun _ i _ => n - (intOf i).toNat)
  case atStart => exact ⟨0, 0, by omega, rfl, rfl, (Below.refl _ _).alloc (Nat.le_refl _) _, by simp, Mem.Blk.new, HF⟩
  case round =>
    clear HF
    obtain ⟨k, e, hk, rfl, rfl, hbr, hz, B0, HF⟩ := hrel
    by_cases hlt : k < n
    · obtain ⟨ad, hlk, hA, _, hbk, hat⟩ := ThrV.at_ (hsl.below hbr) hlt
      obtain ⟨ad2, hlb, rfl, hb2, hcb⟩ := bool_at (hb.below hbr) hlt
      have hone : Hid (∀ (wx : World), Below w.heap.size w wx → Calls Try.prog 62 #[.agg #[.int .i64 k0, .int .i64 k1, .int .i64 k2, .int .i64 a0, .int .i64 a1, .int .i64 a2, .slice A n c, .int .i64 per, .int .i64 ret, .int .i64 age, .int .i64 dead], .int .i64 k] wx fun e w' => e = .returned (.int .i64 (edgeT ths[k] (pick3 k0 k1 k2 ths[k].sig))) ∧ Below wx.heap.size wx w') := fun wx hb => hcall.out wx k hlk hb
      have hF2 := HF.out
      rw [edgeF_step hlk hlb] at hF2
      have HF2 := Lib.hid hF2
      clear hF2 HF hcall
      subst hA
      generalize ths[k] = t at *
      generalize bs[k] = b at *
      have hee : Hid (t.sig = s → edgeT t (pick3 k0 k1 k2 t.sig) = edgeT t (pick3 k0 k1 k2 s)) := fun h => by rw [h]
      generalize edgeT t (pick3 k0 k1 k2 t.sig) = E at *
      obtain ⟨sig, pct, amt, soft, grace⟩ := t
      obtain ⟨c0, c1, c2, c3, c4⟩ := hat
      dsimp only at c0 c1 c2 c3 c4 HF2 hee
      clear c1 c2 c3 c4
      have hor : b = false ∨ b = true ∧ (sig ≠ s ∨ sig = s) := by cases b <;> simp <;> omega
      have m0 : wr.cell? ⟨w.heap.size, 0, none⟩ = some (.int .i64 k0) := B0.cell 0
      have m1 : wr.cell? ⟨w.heap.size, 1, none⟩ = some (.int .i64 k1) := B0.cell 1
      have m2 : wr.cell? ⟨w.heap.size, 2, none⟩ = some (.int .i64 k2) := B0.cell 2
      have m3 : wr.cell? ⟨w.heap.size, 3, none⟩ = some (.int .i64 a0) := B0.cell 3
      have m4 : wr.cell? ⟨w.heap.size, 4, none⟩ = some (.int .i64 a1) := B0.cell 4
      have m5 : wr.cell? ⟨w.heap.size, 5, none⟩ = some (.int .i64 a2) := B0.cell 5
      have m6 : wr.cell? ⟨w.heap.size, 6, none⟩ = some (.slice (some ad) n c) := B0.cell 6
      have m7 : wr.cell? ⟨w.heap.size, 7, none⟩ = some (.int .i64 per) := B0.cell 7
      have m8 : wr.cell? ⟨w.heap.size, 8, none⟩ = some (.int .i64 ret) := B0.cell 8
      have m9 : wr.cell? ⟨w.heap.size, 9, none⟩ = some (.int .i64 age) := B0.cell 9
      have m10 : wr.cell? ⟨w.heap.size, 10, none⟩ = some (.int .i64 dead) := B0.cell 10
      rcases hor with rfl | ⟨rfl, hq | rfl⟩
      · go_wp2_with fail
        go_roundw
        case rel => exact ⟨k + 1, e, by omega, by go_num, rfl, hbr, by omega, B0, by show _ = _; have q := HF2.out; simpa using q⟩
        case measure => simp [intOf]; omega
      · have d1 : (sig == s) = false := by simp [hq]
        have Hq := Lib.hid hq
        clear hq
        go_wp2_with fail
        go_roundw
        case rel => exact ⟨k + 1, e, by omega, by go_num, rfl, hbr, by omega, B0, by show _ = _; have q := HF2.out; simpa [Hq.out] using q⟩
        case measure => simp [intOf]; omega
      · have he := hee.out rfl
        simp only [← he] at HF2
        have H4 : Hid (edgeF (pick3 k0 k1 k2 sig) sig (ths.drop (k + 1)) (bs.drop (k + 1)) (max e E) = F) := by
          show _ = _
          have q := HF2.out
          simpa using q
        clear hee he HF2
        go_wp2_with fail
        refine (hone.out _ hbr).mono ?_
        rintro e1 w2 ⟨rfl, hb3⟩
        have L2 : Below w.heap.size w w2 := hbr.trans (hb3.mono hbr.size)
        have z2 : w.heap.size + 1 ≤ w2.heap.size := by have := hb3.size; omega
        have B2 := B0.belowS hb3
        clear hb3 hcb c0 B0 hbr hz m0 m1 m2 m3 m4 m5 m6 m7 m8 m9 m10
        have hor : e < E ∨ E ≤ e := by omega
        rcases hor with hq | hq
        · have d2 : decide (e < E) = true := by simp; omega
          have HM := Lib.hid (show max e E = E by omega)
          have m0 : w2.cell? ⟨w.heap.size, 0, none⟩ = some (.int .i64 k0) := B2.cell 0
          have m1 : w2.cell? ⟨w.heap.size, 1, none⟩ = some (.int .i64 k1) := B2.cell 1
          have m2 : w2.cell? ⟨w.heap.size, 2, none⟩ = some (.int .i64 k2) := B2.cell 2
          have m3 : w2.cell? ⟨w.heap.size, 3, none⟩ = some (.int .i64 a0) := B2.cell 3
          have m4 : w2.cell? ⟨w.heap.size, 4, none⟩ = some (.int .i64 a1) := B2.cell 4
          have m5 : w2.cell? ⟨w.heap.size, 5, none⟩ = some (.int .i64 a2) := B2.cell 5
          have m6 : w2.cell? ⟨w.heap.size, 6, none⟩ = some (.slice (some ad) n c) := B2.cell 6
          have m7 : w2.cell? ⟨w.heap.size, 7, none⟩ = some (.int .i64 per) := B2.cell 7
          have m8 : w2.cell? ⟨w.heap.size, 8, none⟩ = some (.int .i64 ret) := B2.cell 8
          have m9 : w2.cell? ⟨w.heap.size, 9, none⟩ = some (.int .i64 age) := B2.cell 9
          have m10 : w2.cell? ⟨w.heap.size, 10, none⟩ = some (.int .i64 dead) := B2.cell 10
          go_wp2_with fail
          refine (hone.out _ L2).mono ?_
          rintro e1 w3 ⟨rfl, hb4⟩
          have L3 : Below w.heap.size w w3 := L2.trans (hb4.mono L2.size)
          have z3 : w.heap.size + 1 ≤ w3.heap.size := by have := hb4.size; omega
          have B3 := B2.belowS hb4
          clear m0 m1 m2 m3 m4 m5 m6 m7 m8 m9 m10
          go_wp2_with fail
          go_roundw
          case rel => exact ⟨k + 1, E, by omega, by go_num, rfl, L3, z3, B3, by show _ = _; have q := H4.out; rw [HM.out] at q; exact q⟩
          case measure => simp [intOf]; omega
        · have d2 : decide (e < E) = false := by simp; omega
          have HM := Lib.hid (show max e E = e by omega)
          go_wp2_with fail
          go_roundw
          case rel => exact ⟨k + 1, e, by omega, by go_num, rfl, L2, z2, B2, by show _ = _; have q := H4.out; rw [HM.out] at q; exact q⟩
          case measure => simp [intOf]; omega
    · obtain rfl : k = n := by omega
      have m6' : wr.cell? ⟨w.heap.size, 6, none⟩ = some (.slice A k c) := B0.cell 6
      have hfin : F = e := by rw [← HF.out, List.drop_eq_nil_of_le (by omega)]; simp [edgeF]
      subst hfin
      go_wp2_with fail
      go_ret
      exact ⟨rfl, hbr⟩
set_option maxRecDepth 100000 in
set_option maxHeartbeats 4000000 in
theorem rsignals_c (p : CfgV) (ths : List ThrV) (S : Option Addr) (sc : Nat) (bs : List Bool) (w : World) (hp : p.ok w w.heap.size ths) (hn : p.n ≤ 1000000) (hr : ∀ t ∈ ths, RightT t)
    (hb : Mem.Sl w w.heap.size 1 S p.n (bs.map Value.bool)) :
    Calls Try.prog 41 #[.agg p.arr, .slice S p.n sc] w (SigSaid (sigF ths bs false false false) w) := by
  have hlen := hp.len
  have hsl := hp.sl
  have hbl : bs.length = p.n := by have := hb.1; simpa using this
  have Hr := Lib.hid hr
  clear hp hr
  obtain ⟨F, hF⟩ : ∃ F, F = sigF ths bs false false false := ⟨_, rfl⟩
  rw [← hF]
  have HF : Hid (sigF (ths.drop 0) (bs.drop 0) false false false = F) := hF.symm
  clear hF
  obtain ⟨k0, k1, k2, a0, a1, a2, A, n, c, per, ret, age, dead⟩ := p
  unfold CfgV.arr
  dsimp only at hn hlen hsl hb hbl ⊢
  go_enter Try.func41, Try.ntmps41
  go_wp2_with fail
  go_loopw [6] (fun vi wr => ∃ (k : Nat) (x y z : Bool), k ≤ n ∧ vi = .int .i64 k ∧ Below w.heap.size w wr ∧ w.heap.size + 3 ≤ wr.heap.size ∧ Mem.Blk wr w.heap.size 47 #[.int .i64 k0, .int .i64 k1, .int .i64 k2, .int .i64 a0, .int .i64 a1, .int .i64 a2, .slice A n c, .int .i64 per, .int .i64 ret, .int .i64 age, .int .i64 dead] ∧ Mem.Blk wr (w.heap.size + 1) 58 #[.bool false, .bool false, .bool false] ∧ Mem.Blk wr (w.heap.size + 1 + 1) 58 #[.bool x, .bool y, .bool z] ∧ Hid (sigF (ths.drop k) (bs.drop k) x y z = F)) (fun i _ => n - (intOf i).toNat)
  case atStart =>
    refine ⟨0, false, false, false, by omega, rfl, (((Below.refl _ _).alloc (Nat.le_refl _) _).alloc (by simp) _).alloc (by simp <;> omega) _, by simp, Mem.Blk.new.alloc.alloc, ?_, ?_, HF⟩
    · have q := (Mem.Blk.new (w := w.alloc (.cells #[.int .i64 k0, .int .i64 k1, .int .i64 k2, .int .i64 a0, .int .i64 a1, .int .i64 a2, .slice A n c, .int .i64 per, .int .i64 ret, .int .i64 age, .int .i64 dead] 47)) (t := 58) (cs := #[.bool false, .bool false, .bool false])).alloc (o := .cells #[.bool false, .bool false, .bool false] 58)
      rw [World.size_alloc] at q
      exact q
    · have q := Mem.Blk.new (w := (w.alloc (.cells #[.int .i64 k0, .int .i64 k1, .int .i64 k2, .int .i64 a0, .int .i64 a1, .int .i64 a2, .slice A n c, .int .i64 per, .int .i64 ret, .int .i64 age, .int .i64 dead] 47)).alloc (.cells #[.bool false, .bool false, .bool false] 58)) (t := 58) (cs := #[.bool false, .bool false, .bool false])
      rw [World.size_alloc, World.size_alloc] at q
      exact q
  case round =>
    clear HF
    obtain ⟨k, x, y, z, hk, rfl, hbr, hz, BC, B0, B1, HF⟩ := hrel
    by_cases hlt : k < n
    · obtain ⟨ad, hlk, hA, _, hbk, hat⟩ := ThrV.at_ (hsl.below hbr) hlt
      obtain ⟨ad2, hlb, rfl, hb2, hcb⟩ := bool_at (hb.below hbr) hlt
      have hrt := Hr.out _ (List.getElem_mem hlk)
      have hs0 := hrt.s0
      have hs2 := hrt.s2
      have hF2 := HF.out
      rw [sigF_step hlk hlb] at hF2
      have HF2 := Lib.hid hF2
      clear hF2 HF hrt
      subst hA
      generalize ths[k] = t at *
      generalize bs[k] = b at *
      obtain ⟨sig, pct, amt, soft, grace⟩ := t
      obtain ⟨c0, c1, c2, c3, c4⟩ := hat
      dsimp only at c0 c1 c2 c3 c4 hs0 hs2 HF2
      clear c1 c2 c3 c4
      have m6 : wr.cell? ⟨w.heap.size, 6, none⟩ = some (.slice (some ad) n c) := BC.cell 6
      have xf := B1.frozen
      cases b with
      | false =>
        simp only [Bool.and_false, Bool.or_false] at HF2
        go_wp2_with fail
        go_roundw
        case rel => exact ⟨k + 1, x, y, z, by omega, by go_num, hbr, hz, BC, B0, B1, HF2⟩
        case measure => simp [intOf]; omega
      | true =>
        have hor : sig = 0 ∨ sig = 1 ∨ sig = 2 := by omega
        rcases hor with rfl | rfl | rfl
        · simp only [decide_true, Bool.true_and, decide_false, Bool.false_and, Bool.or_false, Bool.or_true, show ((0:Int) = 1) = False from by simp, show ((0:Int) = 2) = False from by simp, show ((1:Int) = 0) = False from by simp, show ((1:Int) = 2) = False from by simp, show ((2:Int) = 0) = False from by simp, show ((2:Int) = 1) = False from by simp] at HF2
          have xc : wr.cell? ⟨w.heap.size + 1 + 1, 0, none⟩ = some (.bool x) := B1.cell 0
          go_wp2_with fail
          go_roundw
          case rel =>
            refine ⟨k + 1, true, y, z, by omega, by go_num, hbr.setCell (by simp <;> omega) _, by simp <;> omega, BC.far (by simp <;> omega), B0.far (by simp), ?_, HF2⟩
            have q := B1.set_ 0 (.bool true)
            simpa using q
          case measure => simp [intOf]; omega
        · simp only [decide_true, Bool.true_and, decide_false, Bool.false_and, Bool.or_false, Bool.or_true, show ((0:Int) = 1) = False from by simp, show ((0:Int) = 2) = False from by simp, show ((1:Int) = 0) = False from by simp, show ((1:Int) = 2) = False from by simp, show ((2:Int) = 0) = False from by simp, show ((2:Int) = 1) = False from by simp] at HF2
          have xc : wr.cell? ⟨w.heap.size + 1 + 1, 1, none⟩ = some (.bool y) := B1.cell 1
          go_wp2_with fail
          go_roundw
          case rel =>
            refine ⟨k + 1, x, true, z, by omega, by go_num, hbr.setCell (by simp <;> omega) _, by simp <;> omega, BC.far (by simp <;> omega), B0.far (by simp), ?_, HF2⟩
            have q := B1.set_ 1 (.bool true)
            simpa using q
          case measure => simp [intOf]; omega
        · simp only [decide_true, Bool.true_and, decide_false, Bool.false_and, Bool.or_false, Bool.or_true, show ((0:Int) = 1) = False from by simp, show ((0:Int) = 2) = False from by simp, show ((1:Int) = 0) = False from by simp, show ((1:Int) = 2) = False from by simp, show ((2:Int) = 0) = False from by simp, show ((2:Int) = 1) = False from by simp] at HF2
          have xc : wr.cell? ⟨w.heap.size + 1 + 1, 2, none⟩ = some (.bool z) := B1.cell 2
          go_wp2_with fail
          go_roundw
          case rel =>
            refine ⟨k + 1, x, y, true, by omega, by go_num, hbr.setCell (by simp <;> omega) _, by simp <;> omega, BC.far (by simp <;> omega), B0.far (by simp), ?_, HF2⟩
            have q := B1.set_ 2 (.bool true)
            simpa using q
          case measure => simp [intOf]; omega
    · obtain rfl : k = n := by omega
      have hF3 : (x, y, z) = F := by
        have q := HF.out
        rw [List.drop_eq_nil_of_le (by omega)] at q
        simpa [sigF] using q
      subst hF3
      have m6' : wr.cell? ⟨w.heap.size, 6, none⟩ = some (.slice A k c) := BC.cell 6
      have j0 : wr.cell? ⟨w.heap.size + 1, 0, none⟩ = some (.bool false) := B0.cell 0
      have j1 : wr.cell? ⟨w.heap.size + 1, 1, none⟩ = some (.bool false) := B0.cell 1
      have j2 : wr.cell? ⟨w.heap.size + 1, 2, none⟩ = some (.bool false) := B0.cell 2
      have i0 : wr.cell? ⟨w.heap.size + 1 + 1, 0, none⟩ = some (.bool x) := B1.cell 0
      have i1 : wr.cell? ⟨w.heap.size + 1 + 1, 1, none⟩ = some (.bool y) := B1.cell 1
      have i2 : wr.cell? ⟨w.heap.size + 1 + 1, 2, none⟩ = some (.bool z) := B1.cell 2
      have jf := B0.frozen
      go_wp2_with fail
      refine bodyPost_ret (v := .agg #[.bool x, .bool y, .bool z]) (by simp [*, results, Try.results41, go_sem]) rfl ⟨rfl, ((hbr.setCell (by simp) _).setCell (by simp) _).setCell (by simp) _⟩
end Grc
end Go.Proofs.Ytjfbnobijlkicaa
