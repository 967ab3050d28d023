/- The walks of the reference of layer 18 (grace). -/
import Derived.Test.YtjfbnobijlkicaaGraceB
namespace Go.Proofs.Ytjfbnobijlkicaa
open Go.RowKit
namespace Grc
set_option maxRecDepth 100000 in
set_option maxHeartbeats 1000000 in
theorem sameInts_c (A A' : Option Addr) (n c c' B B' : Nat) (xs : List Int) (w : World) (h : Mem.Ints w B .i64 A n xs) (h' : Mem.Ints w B' .i64 A' n xs) (hn : n ≤ 9223372036854775807) :
    Calls Try.prog 30 #[.slice A n c, .slice A' n c'] w fun e w' => e = .returned (.bool true) ∧ Below w.heap.size w w' := by
  go_enter Try.func30, Try.ntmps30
  go_wp2_with fail
  go_loopw [5] (fun vi wr => ∃ k : Nat, k ≤ n ∧ vi = .int .i64 k ∧ Below w.heap.size w wr ∧ Hid (∀ q : Addr, wr.cell? q = w.cell? q)) (fun i _ => n - (intOf i).toNat)
  case atStart => exact ⟨0, by omega, rfl, Below.refl _ _, fun _ => rfl⟩
  case round =>
    obtain ⟨k, hk, rfl, hbr, hc⟩ := hrel
    by_cases hlt : k < n
    · obtain ⟨ad, z, hl, rfl, _, hze, hx⟩ := Mem.Ints.at_ h hlt
      obtain ⟨ad2, z2, _, rfl, _, hze2, hy⟩ := Mem.Ints.at_ h' hlt
      obtain rfl : z = z2 := hze.symm.trans hze2
      clear hze hze2
      have f1 := (hc.out _).trans hx
      have f2 := (hc.out _).trans hy
      clear hx hy
      go_wp2_with fail
      refine Reg.start (S := (fun w' => w'.cell? (ad.add k) = some (.int .i64 z) ∧ w'.cell? (ad2.add k) = some (.int .i64 z))) (by kernel_rfl) ?_
      refine Reg.takes (n := 0) (by kernel_rfl) (fun _ _ d _ _ h => by cases d <;> exact h) ⟨f1, f2⟩ [0, 1, 2, 3, 4, 5, 6, 7, 8] _ _ (by kernel_rfl) ?_
      iterate 9 (refine Reg.det_step rfl (fun K' hK' => ?_); go_simp; (first | (refine hK' _ ?_; clear hK' K') | (apply Exists.intro; refine ⟨fun wx hwx => ?_, hK' _ ?_⟩; (first | rfl | (have fa := hwx; intro fb; go_simp; first | done | rfl)); clear hK' K')))
      refine Reg.det_nil ?_
      refine wpAnyH_done (by kernel_rfl) ?_ _
      go_wp2_with fail
      go_roundw
      case rel => exact ⟨k + 1, by omega, by go_num, hbr.drew, fun q => hc.out q⟩
      case measure => simp [intOf]; omega
    · obtain rfl : k = n := by omega
      go_wp2_with fail
      go_ret
      exact ⟨rfl, hbr⟩
set_option maxRecDepth 100000 in
set_option maxHeartbeats 1000000 in
theorem sameBools_c (A A' : Option Addr) (n c c' B B' : Nat) (xs : List Bool) (w : World) (h : Mem.Sl w B 1 A n (xs.map Value.bool)) (h' : Mem.Sl w B' 1 A' n (xs.map Value.bool)) (hn : n ≤ 9223372036854775807) :
    Calls Try.prog 33 #[.slice A n c, .slice A' n c'] w fun e w' => e = .returned (.bool true) ∧ Below w.heap.size w w' := by
  go_enter Try.func33, Try.ntmps33
  go_wp2_with fail
  go_loopw [5] (fun vi wr => ∃ k : Nat, k ≤ n ∧ vi = .int .i64 k ∧ Below w.heap.size w wr ∧ Hid (∀ q : Addr, wr.cell? q = w.cell? q)) (fun i _ => n - (intOf i).toNat)
  case atStart => exact ⟨0, by omega, rfl, Below.refl _ _, fun _ => rfl⟩
  case round =>
    obtain ⟨k, hk, rfl, hbr, hc⟩ := hrel
    by_cases hlt : k < n
    · obtain ⟨ad, hl, rfl, _, hx⟩ := bool_at h hlt
      obtain ⟨ad2, _, rfl, _, hy⟩ := bool_at h' hlt
      generalize xs[k] = z at *
      have f1 := (hc.out _).trans hx
      have f2 := (hc.out _).trans hy
      clear hx hy
      go_wp2_with fail
      refine Reg.start (S := (fun w' => w'.cell? (ad.add k) = some (.bool z) ∧ w'.cell? (ad2.add k) = some (.bool z))) (by kernel_rfl) ?_
      refine Reg.takes (n := 0) (by kernel_rfl) (fun _ _ d _ _ h => by cases d <;> exact h) ⟨f1, f2⟩ [0, 1, 2, 3, 4, 5, 6, 7, 8] _ _ (by kernel_rfl) ?_
      iterate 9 (refine Reg.det_step rfl (fun K' hK' => ?_); go_simp; (first | (refine hK' _ ?_; clear hK' K') | (apply Exists.intro; refine ⟨fun wx hwx => ?_, hK' _ ?_⟩; (first | rfl | (have fa := hwx; intro fb; go_simp; first | done | rfl)); clear hK' K')))
      refine Reg.det_nil ?_
      refine wpAnyH_done (by kernel_rfl) ?_ _
      go_wp2_with fail
      go_roundw
      case rel => exact ⟨k + 1, by omega, by go_num, hbr.drew, fun q => hc.out q⟩
      case measure => simp [intOf]; omega
    · obtain rfl : k = n := by omega
      go_wp2_with fail
      go_ret
      exact ⟨rfl, hbr⟩
set_option maxRecDepth 100000 in
set_option maxHeartbeats 4000000 in
theorem one_c (p : CfgV) (ths : List ThrV) (x0 x1 x2 : Int) (k : Nat) (w : World) (hp : p.ok w w.heap.size ths) (hk : k < ths.length) (hn : p.n ≤ 1000000) (hr : ∀ t ∈ ths, RightT t) (hx0 : ThrV.I64 x0) (hx1 : ThrV.I64 x1) (hx2 : ThrV.I64 x2) :
    Calls Try.prog 45 #[.agg p.arr, .int .i64 k, .agg #[.int .i64 x0, .int .i64 x1, .int .i64 x2]] w fun e w' => e = .returned (.bool (metC p.c0 p.c1 p.c2 x0 x1 x2 ths[k])) ∧ Below w.heap.size w w' := by
  have hlen := hp.len
  have hsl := hp.sl
  have Hp := Lib.hid hp
  have Hx := Lib.hid (And.intro hx0 (And.intro hx1 hx2))
  have hmem : ths[k] ∈ ths := List.getElem_mem hk
  have hrt := hr _ hmem
  have hso := hp.each _ hmem
  clear hp hr hx0 hx1 hx2
  obtain ⟨k0, k1, k2, a0, a1, a2, A, n, c, per, ret, age, dead⟩ := p
  unfold CfgV.arr
  dsimp only at hn hlen hsl ⊢
  have hlt : k < n := by omega
  have hcall : Hid (∀ (cap av : Int) (w : World), ThrV.I64 cap → ThrV.I64 av → Calls Try.prog 63 #[.agg ths[k].arr, .int .i64 cap, .int .i64 av] w fun e w' => e = .returned (.bool (metT ths[k] cap av)) ∧ Below w.heap.size w w') := fun cap av w h1 h2 => rmet_c ths[k] cap av w hso h1 h2
  obtain ⟨ad, _, hA, _, hbk, hat⟩ := ThrV.at_ hsl hlt
  have hs0 := hrt.s0
  have hs2 := hrt.s2
  obtain ⟨F, hF⟩ : ∃ F, F = metC k0 k1 k2 x0 x1 x2 ths[k] := ⟨_, rfl⟩
  rw [← hF]
  have hmd : Hid (F = metT ths[k] (pick3 k0 k1 k2 ths[k].sig) (pick3 x0 x1 x2 ths[k].sig)) := hF
  clear hF hrt hso
  have hab : ad.block < w.heap.size := by rw [Mem.add_block] at hbk; exact hbk
  subst hA
  generalize ths[k] = t at *
  obtain ⟨sig, pct, amt, soft, grace⟩ := t
  unfold ThrV.arr at hcall
  obtain ⟨c0, c1, c2, c3, c4⟩ := hat
  dsimp only at c0 c1 c2 c3 c4 hs0 hs2 hcall hmd
  have e0 : World.cell? ((w.alloc (.cells #[.int .i64 k0, .int .i64 k1, .int .i64 k2, .int .i64 a0, .int .i64 a1, .int .i64 a2, .slice (some ad) n c, .int .i64 per, .int .i64 ret, .int .i64 age, .int .i64 dead] 47)).alloc (.cells #[.int .i64 x0, .int .i64 x1, .int .i64 x2] 44)) (ad.add (k * 5)) = some (.int .i64 sig) := Mem.keep_alloc (Mem.keep_alloc c0)
  have e1 : World.cell? ((w.alloc (.cells #[.int .i64 k0, .int .i64 k1, .int .i64 k2, .int .i64 a0, .int .i64 a1, .int .i64 a2, .slice (some ad) n c, .int .i64 per, .int .i64 ret, .int .i64 age, .int .i64 dead] 47)).alloc (.cells #[.int .i64 x0, .int .i64 x1, .int .i64 x2] 44)) { block := (ad.add (k * 5)).block, off := (ad.add (k * 5)).off + 1 } = some (.int .i64 pct) := Mem.keep_alloc (Mem.keep_alloc c1)
  have e2 : World.cell? ((w.alloc (.cells #[.int .i64 k0, .int .i64 k1, .int .i64 k2, .int .i64 a0, .int .i64 a1, .int .i64 a2, .slice (some ad) n c, .int .i64 per, .int .i64 ret, .int .i64 age, .int .i64 dead] 47)).alloc (.cells #[.int .i64 x0, .int .i64 x1, .int .i64 x2] 44)) { block := (ad.add (k * 5)).block, off := (ad.add (k * 5)).off + 2 } = some (.int .i64 amt) := Mem.keep_alloc (Mem.keep_alloc c2)
  have e3 : World.cell? ((w.alloc (.cells #[.int .i64 k0, .int .i64 k1, .int .i64 k2, .int .i64 a0, .int .i64 a1, .int .i64 a2, .slice (some ad) n c, .int .i64 per, .int .i64 ret, .int .i64 age, .int .i64 dead] 47)).alloc (.cells #[.int .i64 x0, .int .i64 x1, .int .i64 x2] 44)) { block := (ad.add (k * 5)).block, off := (ad.add (k * 5)).off + 3 } = some (.bool soft) := Mem.keep_alloc (Mem.keep_alloc c3)
  have e4 : World.cell? ((w.alloc (.cells #[.int .i64 k0, .int .i64 k1, .int .i64 k2, .int .i64 a0, .int .i64 a1, .int .i64 a2, .slice (some ad) n c, .int .i64 per, .int .i64 ret, .int .i64 age, .int .i64 dead] 47)).alloc (.cells #[.int .i64 x0, .int .i64 x1, .int .i64 x2] 44)) { block := (ad.add (k * 5)).block, off := (ad.add (k * 5)).off + 4 } = some (.int .i64 grace) := Mem.keep_alloc (Mem.keep_alloc c4)
  clear c0 c1 c2 c3 c4
  have hor : sig = 0 ∨ sig = 1 ∨ sig = 2 := by omega
  rcases hor with rfl | rfl | rfl
  · go_enter Try.func45, Try.ntmps45
    go_wp2_with fail
    clear e0 e1 e2 e3 e4
    obtain ⟨X, hX⟩ : ∃ X, X = World.drew (((w.alloc (.cells #[.int .i64 k0, .int .i64 k1, .int .i64 k2, .int .i64 a0, .int .i64 a1, .int .i64 a2, .slice (some ad) n c, .int .i64 per, .int .i64 ret, .int .i64 age, .int .i64 dead] 47)).alloc (.cells #[.int .i64 x0, .int .i64 x1, .int .i64 x2] 44)).alloc (.cells #[.int .i64 0, .int .i64 pct, .int .i64 amt, .bool soft, .int .i64 grace] 67)) := ⟨_, rfl⟩
    have LX : Below w.heap.size w X := by rw [hX]; exact ((((Below.refl _ _).alloc (Nat.le_refl _) _).alloc (by simp) _).alloc (by simp <;> omega) _).drew
    have MX : MetS X w.heap.size (w.heap.size + 1) (w.heap.size + 1 + 1) k0 k1 k2 x0 x1 x2 ⟨0, pct, amt, soft, grace⟩ := by
      rw [hX]
      have T0 := Mem.Blk.new (w := ((w.alloc (.cells #[.int .i64 k0, .int .i64 k1, .int .i64 k2, .int .i64 a0, .int .i64 a1, .int .i64 a2, .slice (some ad) n c, .int .i64 per, .int .i64 ret, .int .i64 age, .int .i64 dead] 47)).alloc (.cells #[.int .i64 x0, .int .i64 x1, .int .i64 x2] 44))) (t := 67) (cs := #[.int .i64 0, .int .i64 pct, .int .i64 amt, .bool soft, .int .i64 grace])
      rw [World.size_alloc, World.size_alloc] at T0
      have C0 := (Mem.Blk.new (w := w) (t := 47) (cs := #[.int .i64 k0, .int .i64 k1, .int .i64 k2, .int .i64 a0, .int .i64 a1, .int .i64 a2, .slice (some ad) n c, .int .i64 per, .int .i64 ret, .int .i64 age, .int .i64 dead])).alloc (o := .cells #[.int .i64 x0, .int .i64 x1, .int .i64 x2] 44) |>.alloc (o := .cells #[.int .i64 0, .int .i64 pct, .int .i64 amt, .bool soft, .int .i64 grace] 67)
      have V0 := (Mem.Blk.new (w := w.alloc (.cells #[.int .i64 k0, .int .i64 k1, .int .i64 k2, .int .i64 a0, .int .i64 a1, .int .i64 a2, .slice (some ad) n c, .int .i64 per, .int .i64 ret, .int .i64 age, .int .i64 dead] 47)) (t := 44) (cs := #[.int .i64 x0, .int .i64 x1, .int .i64 x2])).alloc (o := .cells #[.int .i64 0, .int .i64 pct, .int .i64 amt, .bool soft, .int .i64 grace] 67)
      rw [World.size_alloc] at V0
      exact MetS.drew ⟨C0.cell 0, C0.cell 1, C0.cell 2, V0.cell 0, V0.cell 1, V0.cell 2, T0.cell 0, T0.cell 1, T0.cell 2, T0.cell 3, T0.cell 4⟩
    have zX : w.heap.size + 3 ≤ X.heap.size := by rw [hX]; simp
    refine Reg.start (S := (fun w' => MetS w' w.heap.size (w.heap.size + 1) (w.heap.size + 1 + 1) k0 k1 k2 x0 x1 x2 ⟨0, pct, amt, soft, grace⟩)) (by kernel_rfl) ?_
    rw [← hX]
    clear hX
    refine Reg.takes (n := 2) (by kernel_rfl) (fun _ _ d _ _ h => by cases d <;> exact h) MX [0, 1, 2, 3, 4, 5, 6, 7, 8, 9] _ _ (by kernel_rfl) ?_
    iterate 10 (refine Reg.det_step rfl (fun K' hK' => ?_); go_simp; (first | (refine hK' _ ?_; clear hK' K') | (apply Exists.intro; refine ⟨fun wx hwx => ?_, hK' _ ?_⟩; (first | rfl | (have fk0 := hwx.k0; have fk1 := hwx.k1; have fk2 := hwx.k2; have fx0 := hwx.x0; have fx1 := hwx.x1; have fx2 := hwx.x2; have ft0 := hwx.t0; have ft1 := hwx.t1; have ft2 := hwx.t2; have ft3 := hwx.t3; have ft4 := hwx.t4; dsimp only at ft0 ft1 ft2 ft3 ft4; go_simp; first | done | rfl)); clear hK' K')))
    refine Reg.det_nil ?_
    refine Reg.one (i := 10) (n := 1) (by kernel_rfl) ?_
    refine Reg.call rfl rfl (by go_simp; exact ⟨rfl, rfl⟩) ?_
    refine (hcall.out k0 x0 _ (by first | exact Hp.out.c0 | exact Hp.out.c1 | exact Hp.out.c2) (by first | exact Hx.out.1 | exact Hx.out.2.1 | exact Hx.out.2.2)).mono ?_
    rintro e w2 ⟨rfl, hb2⟩
    refine ⟨_, rfl, MX.below hb2 (by omega) (by omega) (by omega), ?_⟩
    refine Reg.takes (n := 0) (by kernel_rfl) (fun _ _ d _ _ h => by cases d <;> exact h) (MX.below hb2 (by omega) (by omega) (by omega)) [11] _ _ (by kernel_rfl) ?_
    iterate 1 (refine Reg.det_step rfl (fun K' hK' => ?_); go_simp; (first | (refine hK' _ ?_; clear hK' K') | (apply Exists.intro; refine ⟨fun wx hwx => ?_, hK' _ ?_⟩; (first | rfl | (have fk0 := hwx.k0; have fk1 := hwx.k1; have fk2 := hwx.k2; have fx0 := hwx.x0; have fx1 := hwx.x1; have fx2 := hwx.x2; have ft0 := hwx.t0; have ft1 := hwx.t1; have ft2 := hwx.t2; have ft3 := hwx.t3; have ft4 := hwx.t4; dsimp only at ft0 ft1 ft2 ft3 ft4; go_simp; first | done | rfl)); clear hK' K')))
    refine Reg.det_nil ?_
    refine wpAnyH_done (by kernel_rfl) ?_ _
    go_wp2_with fail
    go_ret
    exact ⟨by rw [hmd.out]; rfl, LX.trans (hb2.mono LX.size)⟩
  · go_enter Try.func45, Try.ntmps45
    go_wp2_with fail
    clear e0 e1 e2 e3 e4
    obtain ⟨X, hX⟩ : ∃ X, X = World.drew (((w.alloc (.cells #[.int .i64 k0, .int .i64 k1, .int .i64 k2, .int .i64 a0, .int .i64 a1, .int .i64 a2, .slice (some ad) n c, .int .i64 per, .int .i64 ret, .int .i64 age, .int .i64 dead] 47)).alloc (.cells #[.int .i64 x0, .int .i64 x1, .int .i64 x2] 44)).alloc (.cells #[.int .i64 1, .int .i64 pct, .int .i64 amt, .bool soft, .int .i64 grace] 67)) := ⟨_, rfl⟩
    have LX : Below w.heap.size w X := by rw [hX]; exact ((((Below.refl _ _).alloc (Nat.le_refl _) _).alloc (by simp) _).alloc (by simp <;> omega) _).drew
    have MX : MetS X w.heap.size (w.heap.size + 1) (w.heap.size + 1 + 1) k0 k1 k2 x0 x1 x2 ⟨1, pct, amt, soft, grace⟩ := by
      rw [hX]
      have T0 := Mem.Blk.new (w := ((w.alloc (.cells #[.int .i64 k0, .int .i64 k1, .int .i64 k2, .int .i64 a0, .int .i64 a1, .int .i64 a2, .slice (some ad) n c, .int .i64 per, .int .i64 ret, .int .i64 age, .int .i64 dead] 47)).alloc (.cells #[.int .i64 x0, .int .i64 x1, .int .i64 x2] 44))) (t := 67) (cs := #[.int .i64 1, .int .i64 pct, .int .i64 amt, .bool soft, .int .i64 grace])
      rw [World.size_alloc, World.size_alloc] at T0
      have C0 := (Mem.Blk.new (w := w) (t := 47) (cs := #[.int .i64 k0, .int .i64 k1, .int .i64 k2, .int .i64 a0, .int .i64 a1, .int .i64 a2, .slice (some ad) n c, .int .i64 per, .int .i64 ret, .int .i64 age, .int .i64 dead])).alloc (o := .cells #[.int .i64 x0, .int .i64 x1, .int .i64 x2] 44) |>.alloc (o := .cells #[.int .i64 1, .int .i64 pct, .int .i64 amt, .bool soft, .int .i64 grace] 67)
      have V0 := (Mem.Blk.new (w := w.alloc (.cells #[.int .i64 k0, .int .i64 k1, .int .i64 k2, .int .i64 a0, .int .i64 a1, .int .i64 a2, .slice (some ad) n c, .int .i64 per, .int .i64 ret, .int .i64 age, .int .i64 dead] 47)) (t := 44) (cs := #[.int .i64 x0, .int .i64 x1, .int .i64 x2])).alloc (o := .cells #[.int .i64 1, .int .i64 pct, .int .i64 amt, .bool soft, .int .i64 grace] 67)
      rw [World.size_alloc] at V0
      exact MetS.drew ⟨C0.cell 0, C0.cell 1, C0.cell 2, V0.cell 0, V0.cell 1, V0.cell 2, T0.cell 0, T0.cell 1, T0.cell 2, T0.cell 3, T0.cell 4⟩
    have zX : w.heap.size + 3 ≤ X.heap.size := by rw [hX]; simp
    refine Reg.start (S := (fun w' => MetS w' w.heap.size (w.heap.size + 1) (w.heap.size + 1 + 1) k0 k1 k2 x0 x1 x2 ⟨1, pct, amt, soft, grace⟩)) (by kernel_rfl) ?_
    rw [← hX]
    clear hX
    refine Reg.takes (n := 2) (by kernel_rfl) (fun _ _ d _ _ h => by cases d <;> exact h) MX [0, 1, 2, 3, 4, 5, 6, 7, 8, 9] _ _ (by kernel_rfl) ?_
    iterate 10 (refine Reg.det_step rfl (fun K' hK' => ?_); go_simp; (first | (refine hK' _ ?_; clear hK' K') | (apply Exists.intro; refine ⟨fun wx hwx => ?_, hK' _ ?_⟩; (first | rfl | (have fk0 := hwx.k0; have fk1 := hwx.k1; have fk2 := hwx.k2; have fx0 := hwx.x0; have fx1 := hwx.x1; have fx2 := hwx.x2; have ft0 := hwx.t0; have ft1 := hwx.t1; have ft2 := hwx.t2; have ft3 := hwx.t3; have ft4 := hwx.t4; dsimp only at ft0 ft1 ft2 ft3 ft4; go_simp; first | done | rfl)); clear hK' K')))
    refine Reg.det_nil ?_
    refine Reg.one (i := 10) (n := 1) (by kernel_rfl) ?_
    refine Reg.call rfl rfl (by go_simp; exact ⟨rfl, rfl⟩) ?_
    refine (hcall.out k1 x1 _ (by first | exact Hp.out.c0 | exact Hp.out.c1 | exact Hp.out.c2) (by first | exact Hx.out.1 | exact Hx.out.2.1 | exact Hx.out.2.2)).mono ?_
    rintro e w2 ⟨rfl, hb2⟩
    refine ⟨_, rfl, MX.below hb2 (by omega) (by omega) (by omega), ?_⟩
    refine Reg.takes (n := 0) (by kernel_rfl) (fun _ _ d _ _ h => by cases d <;> exact h) (MX.below hb2 (by omega) (by omega) (by omega)) [11] _ _ (by kernel_rfl) ?_
    iterate 1 (refine Reg.det_step rfl (fun K' hK' => ?_); go_simp; (first | (refine hK' _ ?_; clear hK' K') | (apply Exists.intro; refine ⟨fun wx hwx => ?_, hK' _ ?_⟩; (first | rfl | (have fk0 := hwx.k0; have fk1 := hwx.k1; have fk2 := hwx.k2; have fx0 := hwx.x0; have fx1 := hwx.x1; have fx2 := hwx.x2; have ft0 := hwx.t0; have ft1 := hwx.t1; have ft2 := hwx.t2; have ft3 := hwx.t3; have ft4 := hwx.t4; dsimp only at ft0 ft1 ft2 ft3 ft4; go_simp; first | done | rfl)); clear hK' K')))
    refine Reg.det_nil ?_
    refine wpAnyH_done (by kernel_rfl) ?_ _
    go_wp2_with fail
    go_ret
    exact ⟨by rw [hmd.out]; rfl, LX.trans (hb2.mono LX.size)⟩
  · go_enter Try.func45, Try.ntmps45
    go_wp2_with fail
    clear e0 e1 e2 e3 e4
    obtain ⟨X, hX⟩ : ∃ X, X = World.drew (((w.alloc (.cells #[.int .i64 k0, .int .i64 k1, .int .i64 k2, .int .i64 a0, .int .i64 a1, .int .i64 a2, .slice (some ad) n c, .int .i64 per, .int .i64 ret, .int .i64 age, .int .i64 dead] 47)).alloc (.cells #[.int .i64 x0, .int .i64 x1, .int .i64 x2] 44)).alloc (.cells #[.int .i64 2, .int .i64 pct, .int .i64 amt, .bool soft, .int .i64 grace] 67)) := ⟨_, rfl⟩
    have LX : Below w.heap.size w X := by rw [hX]; exact ((((Below.refl _ _).alloc (Nat.le_refl _) _).alloc (by simp) _).alloc (by simp <;> omega) _).drew
    have MX : MetS X w.heap.size (w.heap.size + 1) (w.heap.size + 1 + 1) k0 k1 k2 x0 x1 x2 ⟨2, pct, amt, soft, grace⟩ := by
      rw [hX]
      have T0 := Mem.Blk.new (w := ((w.alloc (.cells #[.int .i64 k0, .int .i64 k1, .int .i64 k2, .int .i64 a0, .int .i64 a1, .int .i64 a2, .slice (some ad) n c, .int .i64 per, .int .i64 ret, .int .i64 age, .int .i64 dead] 47)).alloc (.cells #[.int .i64 x0, .int .i64 x1, .int .i64 x2] 44))) (t := 67) (cs := #[.int .i64 2, .int .i64 pct, .int .i64 amt, .bool soft, .int .i64 grace])
      rw [World.size_alloc, World.size_alloc] at T0
      have C0 := (Mem.Blk.new (w := w) (t := 47) (cs := #[.int .i64 k0, .int .i64 k1, .int .i64 k2, .int .i64 a0, .int .i64 a1, .int .i64 a2, .slice (some ad) n c, .int .i64 per, .int .i64 ret, .int .i64 age, .int .i64 dead])).alloc (o := .cells #[.int .i64 x0, .int .i64 x1, .int .i64 x2] 44) |>.alloc (o := .cells #[.int .i64 2, .int .i64 pct, .int .i64 amt, .bool soft, .int .i64 grace] 67)
      have V0 := (Mem.Blk.new (w := w.alloc (.cells #[.int .i64 k0, .int .i64 k1, .int .i64 k2, .int .i64 a0, .int .i64 a1, .int .i64 a2, .slice (some ad) n c, .int .i64 per, .int .i64 ret, .int .i64 age, .int .i64 dead] 47)) (t := 44) (cs := #[.int .i64 x0, .int .i64 x1, .int .i64 x2])).alloc (o := .cells #[.int .i64 2, .int .i64 pct, .int .i64 amt, .bool soft, .int .i64 grace] 67)
      rw [World.size_alloc] at V0
      exact MetS.drew ⟨C0.cell 0, C0.cell 1, C0.cell 2, V0.cell 0, V0.cell 1, V0.cell 2, T0.cell 0, T0.cell 1, T0.cell 2, T0.cell 3, T0.cell 4⟩
    have zX : w.heap.size + 3 ≤ X.heap.size := by rw [hX]; simp
    refine Reg.start (S := (fun w' => MetS w' w.heap.size (w.heap.size + 1) (w.heap.size + 1 + 1) k0 k1 k2 x0 x1 x2 ⟨2, pct, amt, soft, grace⟩)) (by kernel_rfl) ?_
    rw [← hX]
    clear hX
    refine Reg.takes (n := 2) (by kernel_rfl) (fun _ _ d _ _ h => by cases d <;> exact h) MX [0, 1, 2, 3, 4, 5, 6, 7, 8, 9] _ _ (by kernel_rfl) ?_
    iterate 10 (refine Reg.det_step rfl (fun K' hK' => ?_); go_simp; (first | (refine hK' _ ?_; clear hK' K') | (apply Exists.intro; refine ⟨fun wx hwx => ?_, hK' _ ?_⟩; (first | rfl | (have fk0 := hwx.k0; have fk1 := hwx.k1; have fk2 := hwx.k2; have fx0 := hwx.x0; have fx1 := hwx.x1; have fx2 := hwx.x2; have ft0 := hwx.t0; have ft1 := hwx.t1; have ft2 := hwx.t2; have ft3 := hwx.t3; have ft4 := hwx.t4; dsimp only at ft0 ft1 ft2 ft3 ft4; go_simp; first | done | rfl)); clear hK' K')))
    refine Reg.det_nil ?_
    refine Reg.one (i := 10) (n := 1) (by kernel_rfl) ?_
    refine Reg.call rfl rfl (by go_simp; exact ⟨rfl, rfl⟩) ?_
    refine (hcall.out k2 x2 _ (by first | exact Hp.out.c0 | exact Hp.out.c1 | exact Hp.out.c2) (by first | exact Hx.out.1 | exact Hx.out.2.1 | exact Hx.out.2.2)).mono ?_
    rintro e w2 ⟨rfl, hb2⟩
    refine ⟨_, rfl, MX.below hb2 (by omega) (by omega) (by omega), ?_⟩
    refine Reg.takes (n := 0) (by kernel_rfl) (fun _ _ d _ _ h => by cases d <;> exact h) (MX.below hb2 (by omega) (by omega) (by omega)) [11] _ _ (by kernel_rfl) ?_
    iterate 1 (refine Reg.det_step rfl (fun K' hK' => ?_); go_simp; (first | (refine hK' _ ?_; clear hK' K') | (apply Exists.intro; refine ⟨fun wx hwx => ?_, hK' _ ?_⟩; (first | rfl | (have fk0 := hwx.k0; have fk1 := hwx.k1; have fk2 := hwx.k2; have fx0 := hwx.x0; have fx1 := hwx.x1; have fx2 := hwx.x2; have ft0 := hwx.t0; have ft1 := hwx.t1; have ft2 := hwx.t2; have ft3 := hwx.t3; have ft4 := hwx.t4; dsimp only at ft0 ft1 ft2 ft3 ft4; go_simp; first | done | rfl)); clear hK' K')))
    refine Reg.det_nil ?_
    refine wpAnyH_done (by kernel_rfl) ?_ _
    go_wp2_with fail
    go_ret
    exact ⟨by rw [hmd.out]; rfl, LX.trans (hb2.mono LX.size)⟩
end Grc
end Go.Proofs.Ytjfbnobijlkicaa
