/- The walks of the reference of layer 18 (grace): a beginning; what is met; what holds. -/
import Derived.Test.YtjfbnobijlkicaaGraceT
namespace Go.Proofs.Ytjfbnobijlkicaa
open Go.RowKit
namespace Grc
set_option maxRecDepth 100000 in
set_option maxHeartbeats 1000000 in
theorem rbegin_c (p : CfgV) (w : World) (hn : p.n ≤ 1000000) : Calls Try.prog 32 #[.agg p.arr] w (NewI p.n (nevers p.n) w) := by
  obtain ⟨k0, k1, k2, a0, a1, a2, A, n, c, per, ret, age, dead⟩ := p
  unfold CfgV.arr
  dsimp only at hn ⊢
  have hnl : (nevers n).length = n := by simp [nevers]
  go_enter Try.func32, Try.ntmps32
  go_wp2_with fail
  go_loopw [3, 4] (fun vo vi wr => ∃ k : Nat, k ≤ n ∧ vi = .int .i64 k ∧ Below w.heap.size w wr ∧ Mem.Blk wr w.heap.size 47 #[.int .i64 k0, .int .i64 k1, .int .i64 k2, .int .i64 a0, .int .i64 a1, .int .i64 a2, .slice A n c, .int .i64 per, .int .i64 ret, .int .i64 age, .int .i64 dead] ∧ ∃ A' c', vo = .slice A' k c' ∧ IRow wr (w.heap.size + 1) A' k c' ((nevers n).take k)) (fun _ i _ => n - (intOf i).toNat)
  case atStart => exact ⟨0, by omega, rfl, (Below.refl _ _).alloc (Nat.le_refl _) _, Mem.Blk.new, none, 0, rfl, Mem.own_nil⟩
  case round =>
    obtain ⟨k, hk, rfl, hbr, B0, A', c', rfl, hrow⟩ := hrel
    have m6 : wr.cell? ⟨w.heap.size, 6, none⟩ = some (.slice A n c) := B0.cell 6
    have zr : w.heap.size < wr.heap.size := B0.lt
    by_cases hlt : k < n
    · have hP : Hid ((nevers n).take k ++ [Value.int .i64 (-1)] = (nevers n).take (k + 1)) := take_one _ k _ (by omega) (by simp [nevers])
      have lt1 : ∀ g, (Value.slice A' k c').ownBlock = some g → w.heap.size + 1 ≤ g := fun g hg => (World.ownsRow.lt hrow g hg).1
      have Lt1 := Lib.hid lt1
      clear lt1
      go_wp2_with (at_builtin; refine Mem.wpList_app rfl rfl eli (base := w.heap.size + 1) (World.ownsRow.alloc hrow _) rfl rfl (Mem.new_sl (n := 1) (xs := [.int .i64 (-1)]) rfl rfl rfl) (by simp [Value.oneCell']) (N := k + 1) (ys := (nevers n).take (k + 1)) rfl hP.out (by unfold maxLen; omega) (by omega) (by simp; omega) ?_; intro A3 c3 w3 hown3 hg3 hat3)
      go_roundw
      case rel => exact ⟨k + 1, by omega, by go_num, (hbr.alloc hbr.size _).grown hg3 (by simp; omega) (fun g hg => by have := Lt1.out g hg; omega), (B0.alloc).grown hg3 (fun e => by have := Lt1.out w.heap.size e.symm; omega), A3, c3, rfl, hown3⟩
      case measure => simp [intOf]; omega
    · obtain rfl : k = n := by omega
      go_wp2_with fail
      go_ret
      rw [List.take_of_length_le (by omega)] at hrow
      exact ⟨_, _, rfl, own_low hrow (by omega), hbr⟩
set_option maxRecDepth 100000 in
set_option maxHeartbeats 4000000 in
theorem rmetl_c (p : CfgV) (ths : List ThrV) (x0 x1 x2 : Int) (w : World) (hp : p.ok w w.heap.size ths) (hn : p.n ≤ 1000000) (hr : ∀ t ∈ ths, RightT t) (hx0 : ThrV.I64 x0) (hx1 : ThrV.I64 x1) (hx2 : ThrV.I64 x2) :
    Calls Try.prog 35 #[.agg p.arr, .agg #[.int .i64 x0, .int .i64 x1, .int .i64 x2]] w (NewB p.n ((metL p x0 x1 x2 ths).map .bool) w) := by
  have hlen := hp.len
  have hml : (metL p x0 x1 x2 ths).length = p.n := by simp [metL, hlen]
  have hone : Hid (∀ (wx : World) (k : Nat), Below w.heap.size w wx → k < p.n → Calls Try.prog 45 #[.agg p.arr, .int .i64 k, .agg #[.int .i64 x0, .int .i64 x1, .int .i64 x2]] wx fun e w' => e = .returned (.bool ((metL p x0 x1 x2 ths).getD k false)) ∧ Below wx.heap.size wx w') := by
    intro wx k hb hk
    have hk' : k < ths.length := by omega
    have e : (metL p x0 x1 x2 ths).getD k false = metC p.c0 p.c1 p.c2 x0 x1 x2 ths[k] := by simp [metL, List.getD_eq_getElem?_getD, hk']
    rw [e]
    exact one_c p ths x0 x1 x2 k wx ((hp.below hb).more hb.size) hk' hn hr hx0 hx1 hx2
  clear hp hr hx0 hx1 hx2
  generalize metL p x0 x1 x2 ths = ms at *
  obtain ⟨k0, k1, k2, a0, a1, a2, A, n, c, per, ret, age, dead⟩ := p
  unfold CfgV.arr at hone ⊢
  dsimp only at hn hlen hml hone ⊢
  obtain ⟨L, hL⟩ : ∃ L, L = ms.map Value.bool := ⟨_, rfl⟩
  have hll : L.length = n := by rw [hL]; simp [hml]
  rw [← hL]
  have HL := Lib.hid hL
  clear hL
  go_enter Try.func35, Try.ntmps35
  go_wp2_with fail
  go_loopw [5, 6] (fun vo vi wr => ∃ k : Nat, k ≤ n ∧ vi = .int .i64 k ∧ Below w.heap.size w wr ∧ Mem.Blk wr w.heap.size 47 #[.int .i64 k0, .int .i64 k1, .int .i64 k2, .int .i64 a0, .int .i64 a1, .int .i64 a2, .slice A n c, .int .i64 per, .int .i64 ret, .int .i64 age, .int .i64 dead] ∧ Mem.Blk wr (w.heap.size + 1) 44 #[.int .i64 x0, .int .i64 x1, .int .i64 x2] ∧ ∃ A' c', vo = .slice A' k c' ∧ BRow wr (w.heap.size + 2) A' k c' (L.take k)) (fun _ i _ => n - (intOf i).toNat)
  case atStart =>
    refine ⟨0, by omega, rfl, ((Below.refl _ _).alloc (Nat.le_refl _) _).alloc (by simp) _, Mem.Blk.new.alloc, ?_, none, 0, rfl, Mem.own_nil⟩
    have q := Mem.Blk.new (w := w.alloc (.cells #[.int .i64 k0, .int .i64 k1, .int .i64 k2, .int .i64 a0, .int .i64 a1, .int .i64 a2, .slice A n c, .int .i64 per, .int .i64 ret, .int .i64 age, .int .i64 dead] 47)) (t := 44) (cs := #[.int .i64 x0, .int .i64 x1, .int .i64 x2])
    rw [World.size_alloc] at q
    exact q
  case round =>
    obtain ⟨k, hk, rfl, hbr, B0, B1, A', c', rfl, hrow⟩ := hrel
    have zr2 : w.heap.size + 1 < wr.heap.size := B1.lt
    have m6' : wr.cell? ⟨w.heap.size, 6, none⟩ = some (.slice A n c) := B0.cell 6
    by_cases hlt : k < n
    · clear m6'
      have hmk : k < ms.length := by omega
      have hLk : L[k]'(by omega) = .bool (ms.getD k false) := by
        have := HL.out
        subst this
        simp [List.getD_eq_getElem?_getD, hmk]
      have hP : Hid (L.take k ++ [Value.bool (ms.getD k false)] = L.take (k + 1)) := take_one L k _ (by omega) hLk
      clear hLk
      have m0 : wr.cell? ⟨w.heap.size, 0, none⟩ = some (.int .i64 k0) := B0.cell 0
      have m1 : wr.cell? ⟨w.heap.size, 1, none⟩ = some (.int .i64 k1) := B0.cell 1
      have m2 : wr.cell? ⟨w.heap.size, 2, none⟩ = some (.int .i64 k2) := B0.cell 2
      have m3 : wr.cell? ⟨w.heap.size, 3, none⟩ = some (.int .i64 a0) := B0.cell 3
      have m4 : wr.cell? ⟨w.heap.size, 4, none⟩ = some (.int .i64 a1) := B0.cell 4
      have m5 : wr.cell? ⟨w.heap.size, 5, none⟩ = some (.int .i64 a2) := B0.cell 5
      have m6 : wr.cell? ⟨w.heap.size, 6, none⟩ = some (.slice A n c) := B0.cell 6
      have m7 : wr.cell? ⟨w.heap.size, 7, none⟩ = some (.int .i64 per) := B0.cell 7
      have m8 : wr.cell? ⟨w.heap.size, 8, none⟩ = some (.int .i64 ret) := B0.cell 8
      have m9 : wr.cell? ⟨w.heap.size, 9, none⟩ = some (.int .i64 age) := B0.cell 9
      have m10 : wr.cell? ⟨w.heap.size, 10, none⟩ = some (.int .i64 dead) := B0.cell 10
      have n0 : wr.cell? ⟨w.heap.size + 1, 0, none⟩ = some (.int .i64 x0) := B1.cell 0
      have n1 : wr.cell? ⟨w.heap.size + 1, 1, none⟩ = some (.int .i64 x1) := B1.cell 1
      have n2 : wr.cell? ⟨w.heap.size + 1, 2, none⟩ = some (.int .i64 x2) := B1.cell 2
      go_wp2_with fail
      refine (hone.out _ k hbr hlt).mono ?_
      rintro e w2 ⟨rfl, hb2⟩
      have L2 : Below w.heap.size w w2 := hbr.trans (hb2.mono hbr.size)
      have z2 : w.heap.size + 2 ≤ w2.heap.size := by have := hb2.size; omega
      have C0 := B0.belowS hb2
      have C1 := B1.belowS hb2
      have hrow2 : BRow w2 (w.heap.size + 2) A' k c' (L.take k) := own_below hrow hb2 (Nat.le_refl _)
      have lt1 : ∀ g, (Value.slice A' k c').ownBlock = some g → w.heap.size + 2 ≤ g := fun g hg => (World.ownsRow.lt hrow2 g hg).1
      have Lt1 := Lib.hid lt1
      clear hb2 B0 B1 hrow hbr lt1 m0 m1 m2 m3 m4 m5 m6 m7 m8 m9 m10 n0 n1 n2
      generalize ms.getD k false = m at *
      go_wp2_with (at_builtin; refine Mem.wpList_app rfl rfl elt (base := w.heap.size + 2) (World.ownsRow.alloc hrow2 _) rfl rfl (Mem.new_sl (n := 1) (xs := [.bool m]) rfl rfl rfl) (by simp [Value.oneCell']) (N := k + 1) (ys := L.take (k + 1)) rfl hP.out (by unfold maxLen; omega) (by omega) (by simp; omega) ?_; intro A3 c3 w3 hown3 hg3 hat3)
      go_roundw
      case rel => exact ⟨k + 1, by omega, by go_num, (L2.alloc L2.size _).grown hg3 (by simp; omega) (fun g hg => by have := Lt1.out g hg; omega), (C0.alloc).grown hg3 (fun e => by have := Lt1.out w.heap.size e.symm; omega), (C1.alloc).grown hg3 (fun e => by have := Lt1.out (w.heap.size + 1) e.symm; omega), A3, c3, rfl, hown3⟩
      case measure => simp [intOf]; omega
    · obtain rfl : k = n := by omega
      go_wp2_with fail
      go_ret
      rw [List.take_of_length_le (by omega)] at hrow
      exact ⟨_, _, rfl, own_low hrow (by omega), hbr⟩
set_option maxRecDepth 100000 in
set_option maxHeartbeats 4000000 in
theorem rhold_c (p : CfgV) (ths : List ThrV) (S : Option Addr) (sc : Nat) (zs : List Int) (round : Int) (w : World) (hp : p.ok w w.heap.size ths) (hn : p.n ≤ 1000000) (hr : ∀ t ∈ ths, RightT t) (h0 : 0 ≤ round) (h1 : round ≤ 4611686018427387904) (hzs : FitZ zs round)
    (hz : Mem.Ints w w.heap.size .i64 S p.n zs) :
    Calls Try.prog 38 #[.agg p.arr, .slice S p.n sc, .int .i64 round] w (NewB p.n ((holdL ths zs round).map .bool) w) := by
  have hlen := hp.len
  have hsl := hp.sl
  have hzl := hz.len
  have Hzs := Lib.hid hzs
  have Hr := Lib.hid hr
  clear hp hzs hr
  obtain ⟨k0, k1, k2, a0, a1, a2, A, n, c, per, ret, age, dead⟩ := p
  unfold CfgV.arr
  dsimp only at hn hlen hsl hz hzl ⊢
  obtain ⟨L, hL⟩ : ∃ L, L = (holdL ths zs round).map Value.bool := ⟨_, rfl⟩
  have hll : L.length = n := by rw [hL]; simp [holdL, hlen, hzl]
  rw [← hL]
  have HL := Lib.hid hL
  clear hL
  go_enter Try.func38, Try.ntmps38
  go_wp2_with fail
  go_loopw [7, 8] (fun vo vi wr => ∃ k : Nat, k ≤ n ∧ vi = .int .i64 k ∧ Below w.heap.size w wr ∧ Mem.Blk wr w.heap.size 47 #[.int .i64 k0, .int .i64 k1, .int .i64 k2, .int .i64 a0, .int .i64 a1, .int .i64 a2, .slice A n c, .int .i64 per, .int .i64 ret, .int .i64 age, .int .i64 dead] ∧ ∃ A' c', vo = .slice A' k c' ∧ BRow wr (w.heap.size + 1) A' k c' (L.take k)) (fun _ i _ => n - (intOf i).toNat)
  case atStart => exact ⟨0, by omega, rfl, (Below.refl _ _).alloc (Nat.le_refl _) _, Mem.Blk.new, none, 0, rfl, Mem.own_nil⟩
  case round =>
    obtain ⟨k, hk, rfl, hbr, B0, A', c', rfl, hrow⟩ := hrel
    have zr2 : w.heap.size < wr.heap.size := B0.lt
    have m6 : wr.cell? ⟨w.heap.size, 6, none⟩ = some (.slice A n c) := B0.cell 6
    by_cases hlt : k < n
    · obtain ⟨ad, hlk, hA, _, hbk, hat⟩ := ThrV.at_ (hsl.below hbr) hlt
      obtain ⟨ad2, z, hlz, rfl, hb2, hze, hcz⟩ := Mem.Ints.at_ (hz.below hbr) hlt
      obtain ⟨hz0, hz1⟩ := Hzs.out z (by rw [← hze]; exact List.getElem_mem hlz)
      have hrt := Hr.out _ (List.getElem_mem hlk)
      have hg0 := hrt.g0
      have hg1 := hrt.g1
      have hLk : L[k]'(by omega) = .bool (holdZ ths[k] z round) := by
        have := HL.out
        subst this
        simp [holdL, hze]
      have hput : Hid (∀ b, b = holdZ ths[k] z round → L.take k ++ [Value.bool b] = L.take (k + 1)) := fun b hb => take_one L k _ (by omega) (by rw [hLk, hb])
      have lt1 : ∀ g, (Value.slice A' k c').ownBlock = some g → w.heap.size + 1 ≤ g := fun g hg => (World.ownsRow.lt hrow g hg).1
      have Lt1 := Lib.hid lt1
      subst hA
      clear hLk hze hrt lt1
      generalize ths[k] = t at *
      obtain ⟨sig, pct, amt, soft, grace⟩ := t
      obtain ⟨c0, c1, c2, c3, c4⟩ := hat
      dsimp only at c0 c1 c2 c3 c4 hg0 hg1
      have hor : (z = -1 ∨ 0 ≤ z) ∧ (soft = false ∨ soft = true ∧ (round < z + grace ∨ z + grace ≤ round)) := by
        refine ⟨by omega, ?_⟩
        cases soft <;> simp <;> omega
      obtain ⟨hzc, hsc⟩ := hor
      have hcz2 : World.cell? (wr.alloc (.cells #[.int .i64 sig, .int .i64 pct, .int .i64 amt, .bool soft, .int .i64 grace] 67)) (ad2.add k) = some (.int .i64 z) := Mem.keep_alloc hcz
      rcases hzc with rfl | hq
      · clear hsc
        cases soft
        · have hP := Lib.hid (hput.out false rfl)
          clear hput
          go_wp2_with fail
          clear c0 c1 c2 c3 c4
          obtain ⟨X, hX⟩ : ∃ X, X = World.drew (wr.alloc (.cells #[.int .i64 sig, .int .i64 pct, .int .i64 amt, .bool false, .int .i64 grace] 67)) := ⟨_, rfl⟩
          have LX : Below w.heap.size w X := by rw [hX]; exact (hbr.alloc hbr.size _).drew
          have zX : wr.heap.size < X.heap.size := by rw [hX]; simp
          have BX := B0.alloc (o := .cells #[.int .i64 sig, .int .i64 pct, .int .i64 amt, .bool false, .int .i64 grace] 67) |>.drew
          have RX : BRow X (w.heap.size + 1) A' k c' (L.take k) := by rw [hX]; exact World.ownsRow.drew (World.ownsRow.alloc hrow _)
          rw [← hX] at BX
          have SX : (fun w' => w'.cell? (ad2.add k) = some (.int .i64 (-1)) ∧ w'.cell? ⟨wr.heap.size, 3, none⟩ = some (.bool false) ∧ w'.cell? ⟨wr.heap.size, 4, none⟩ = some (.int .i64 grace)) X := by
            rw [hX]
            have T0 : Mem.Blk (wr.alloc (.cells #[.int .i64 sig, .int .i64 pct, .int .i64 amt, .bool false, .int .i64 grace] 67)) wr.heap.size 67 #[.int .i64 sig, .int .i64 pct, .int .i64 amt, .bool false, .int .i64 grace] := Mem.Blk.new
            exact ⟨Mem.keep_drew hcz2, T0.cell 3, T0.cell 4⟩
          refine Reg.start (S := (fun w' => w'.cell? (ad2.add k) = some (.int .i64 (-1)) ∧ w'.cell? ⟨wr.heap.size, 3, none⟩ = some (.bool false) ∧ w'.cell? ⟨wr.heap.size, 4, none⟩ = some (.int .i64 grace))) (by kernel_rfl) ?_
          rw [← hX]
          clear hX hrow hcz hcz2 B0 m6
          refine Reg.takes (n := 0) (by kernel_rfl) (fun _ _ d _ _ h => by cases d <;> exact h) SX [0, 1, 2, 3, 4, 5, 6, 7, 8, 9, 10, 11, 12] _ _ (by kernel_rfl) ?_
          iterate 13 (refine Reg.det_step rfl (fun K' hK' => ?_); go_simp; (first | (refine hK' _ ?_; clear hK' K') | (apply Exists.intro; refine ⟨fun wx hwx => ?_, hK' _ ?_⟩; (first | rfl | (have fa := hwx; intro fb fc; go_simp; first | done | rfl)); clear hK' K')))
          refine Reg.det_nil ?_
          refine wpAnyH_done (by kernel_rfl) ?_ _
          go_wp2_with (at_builtin; refine Mem.wpList_app rfl rfl elt (base := w.heap.size + 1) (World.ownsRow.alloc RX _) rfl rfl (Mem.new_sl (n := 1) (xs := [.bool false]) rfl rfl rfl) (by simp [Value.oneCell']) (N := k + 1) (ys := L.take (k + 1)) rfl hP.out (by unfold maxLen; omega) (by omega) (by simp; omega) ?_; intro A3 c3 w3 hown3 hg3 hat3)
          go_roundw
          case rel => exact ⟨k + 1, by omega, by go_num, (LX.alloc LX.size _).grown hg3 (by simp; omega) (fun g hg => by have := Lt1.out g hg; omega), (BX.alloc).grown hg3 (fun e => by have := Lt1.out w.heap.size e.symm; omega), A3, c3, rfl, hown3⟩
          case measure => simp [intOf]; omega
        · have hP := Lib.hid (hput.out false rfl)
          clear hput
          go_wp2_with fail
          clear c0 c1 c2 c3 c4
          obtain ⟨X, hX⟩ : ∃ X, X = World.drew (wr.alloc (.cells #[.int .i64 sig, .int .i64 pct, .int .i64 amt, .bool true, .int .i64 grace] 67)) := ⟨_, rfl⟩
          have LX : Below w.heap.size w X := by rw [hX]; exact (hbr.alloc hbr.size _).drew
          have zX : wr.heap.size < X.heap.size := by rw [hX]; simp
          have BX := B0.alloc (o := .cells #[.int .i64 sig, .int .i64 pct, .int .i64 amt, .bool true, .int .i64 grace] 67) |>.drew
          have RX : BRow X (w.heap.size + 1) A' k c' (L.take k) := by rw [hX]; exact World.ownsRow.drew (World.ownsRow.alloc hrow _)
          rw [← hX] at BX
          have SX : (fun w' => w'.cell? (ad2.add k) = some (.int .i64 (-1)) ∧ w'.cell? ⟨wr.heap.size, 3, none⟩ = some (.bool true) ∧ w'.cell? ⟨wr.heap.size, 4, none⟩ = some (.int .i64 grace)) X := by
            rw [hX]
            have T0 : Mem.Blk (wr.alloc (.cells #[.int .i64 sig, .int .i64 pct, .int .i64 amt, .bool true, .int .i64 grace] 67)) wr.heap.size 67 #[.int .i64 sig, .int .i64 pct, .int .i64 amt, .bool true, .int .i64 grace] := Mem.Blk.new
            exact ⟨Mem.keep_drew hcz2, T0.cell 3, T0.cell 4⟩
          refine Reg.start (S := (fun w' => w'.cell? (ad2.add k) = some (.int .i64 (-1)) ∧ w'.cell? ⟨wr.heap.size, 3, none⟩ = some (.bool true) ∧ w'.cell? ⟨wr.heap.size, 4, none⟩ = some (.int .i64 grace))) (by kernel_rfl) ?_
          rw [← hX]
          clear hX hrow hcz hcz2 B0 m6
          refine Reg.takes (n := 0) (by kernel_rfl) (fun _ _ d _ _ h => by cases d <;> exact h) SX [0, 1, 2, 3, 4, 5, 6, 7, 8, 9, 10, 11, 12] _ _ (by kernel_rfl) ?_
          iterate 13 (refine Reg.det_step rfl (fun K' hK' => ?_); go_simp; (first | (refine hK' _ ?_; clear hK' K') | (apply Exists.intro; refine ⟨fun wx hwx => ?_, hK' _ ?_⟩; (first | rfl | (have fa := hwx; intro fb fc; go_simp; first | done | rfl)); clear hK' K')))
          refine Reg.det_nil ?_
          refine wpAnyH_done (by kernel_rfl) ?_ _
          go_wp2_with (at_builtin; refine Mem.wpList_app rfl rfl elt (base := w.heap.size + 1) (World.ownsRow.alloc RX _) rfl rfl (Mem.new_sl (n := 1) (xs := [.bool false]) rfl rfl rfl) (by simp [Value.oneCell']) (N := k + 1) (ys := L.take (k + 1)) rfl hP.out (by unfold maxLen; omega) (by omega) (by simp; omega) ?_; intro A3 c3 w3 hown3 hg3 hat3)
          iterate 2
            go_roundw
            case rel => exact ⟨k + 1, by omega, by go_num, (LX.alloc LX.size _).grown hg3 (by simp; omega) (fun g hg => by have := Lt1.out g hg; omega), (BX.alloc).grown hg3 (fun e => by have := Lt1.out w.heap.size e.symm; omega), A3, c3, rfl, hown3⟩
            case measure => simp [intOf]; omega
      · rcases hsc with rfl | ⟨rfl, hq2 | hq2⟩
        · have d1 : decide (z ≥ 0) = true := by simp; omega
          have hP := Lib.hid (hput.out true (by unfold holdZ; simp; omega))
          clear hput
          go_wp2_with fail
          clear c0 c1 c2 c3 c4
          obtain ⟨X, hX⟩ : ∃ X, X = World.drew (wr.alloc (.cells #[.int .i64 sig, .int .i64 pct, .int .i64 amt, .bool false, .int .i64 grace] 67)) := ⟨_, rfl⟩
          have LX : Below w.heap.size w X := by rw [hX]; exact (hbr.alloc hbr.size _).drew
          have zX : wr.heap.size < X.heap.size := by rw [hX]; simp
          have BX := B0.alloc (o := .cells #[.int .i64 sig, .int .i64 pct, .int .i64 amt, .bool false, .int .i64 grace] 67) |>.drew
          have RX : BRow X (w.heap.size + 1) A' k c' (L.take k) := by rw [hX]; exact World.ownsRow.drew (World.ownsRow.alloc hrow _)
          rw [← hX] at BX
          have SX : (fun w' => w'.cell? (ad2.add k) = some (.int .i64 z) ∧ w'.cell? ⟨wr.heap.size, 3, none⟩ = some (.bool false) ∧ w'.cell? ⟨wr.heap.size, 4, none⟩ = some (.int .i64 grace)) X := by
            rw [hX]
            have T0 : Mem.Blk (wr.alloc (.cells #[.int .i64 sig, .int .i64 pct, .int .i64 amt, .bool false, .int .i64 grace] 67)) wr.heap.size 67 #[.int .i64 sig, .int .i64 pct, .int .i64 amt, .bool false, .int .i64 grace] := Mem.Blk.new
            exact ⟨Mem.keep_drew hcz2, T0.cell 3, T0.cell 4⟩
          refine Reg.start (S := (fun w' => w'.cell? (ad2.add k) = some (.int .i64 z) ∧ w'.cell? ⟨wr.heap.size, 3, none⟩ = some (.bool false) ∧ w'.cell? ⟨wr.heap.size, 4, none⟩ = some (.int .i64 grace))) (by kernel_rfl) ?_
          rw [← hX]
          clear hX hrow hcz hcz2 B0 m6
          refine Reg.takes (n := 0) (by kernel_rfl) (fun _ _ d _ _ h => by cases d <;> exact h) SX [0, 1, 2, 3, 4, 5, 6, 7, 8, 9, 10, 11, 12] _ _ (by kernel_rfl) ?_
          iterate 13 (refine Reg.det_step rfl (fun K' hK' => ?_); go_simp; (first | (refine hK' _ ?_; clear hK' K') | (apply Exists.intro; refine ⟨fun wx hwx => ?_, hK' _ ?_⟩; (first | rfl | (have fa := hwx; intro fb fc; go_simp; first | done | rfl)); clear hK' K')))
          refine Reg.det_nil ?_
          refine wpAnyH_done (by kernel_rfl) ?_ _
          go_wp2_with (at_builtin; refine Mem.wpList_app rfl rfl elt (base := w.heap.size + 1) (World.ownsRow.alloc RX _) rfl rfl (Mem.new_sl (n := 1) (xs := [.bool true]) rfl rfl rfl) (by simp [Value.oneCell']) (N := k + 1) (ys := L.take (k + 1)) rfl hP.out (by unfold maxLen; omega) (by omega) (by simp; omega) ?_; intro A3 c3 w3 hown3 hg3 hat3)
          go_roundw
          case rel => exact ⟨k + 1, by omega, by go_num, (LX.alloc LX.size _).grown hg3 (by simp; omega) (fun g hg => by have := Lt1.out g hg; omega), (BX.alloc).grown hg3 (fun e => by have := Lt1.out w.heap.size e.symm; omega), A3, c3, rfl, hown3⟩
          case measure => simp [intOf]; omega
        · have d1 : decide (z ≥ 0) = true := by simp; omega
          have hw : IntKind.i64.wrap (z + grace) = z + grace := by unfold IntKind.wrap; simp [IntKind.bits, IntKind.signed]; omega
          have d2 : decide (round < z + grace) = true := by simp; omega
          have hP := Lib.hid (hput.out false (by unfold holdZ; simp; omega))
          clear hput
          go_wp2_with fail
          clear c0 c1 c2 c3 c4
          obtain ⟨X, hX⟩ : ∃ X, X = World.drew (wr.alloc (.cells #[.int .i64 sig, .int .i64 pct, .int .i64 amt, .bool true, .int .i64 grace] 67)) := ⟨_, rfl⟩
          have LX : Below w.heap.size w X := by rw [hX]; exact (hbr.alloc hbr.size _).drew
          have zX : wr.heap.size < X.heap.size := by rw [hX]; simp
          have BX := B0.alloc (o := .cells #[.int .i64 sig, .int .i64 pct, .int .i64 amt, .bool true, .int .i64 grace] 67) |>.drew
          have RX : BRow X (w.heap.size + 1) A' k c' (L.take k) := by rw [hX]; exact World.ownsRow.drew (World.ownsRow.alloc hrow _)
          rw [← hX] at BX
          have SX : (fun w' => w'.cell? (ad2.add k) = some (.int .i64 z) ∧ w'.cell? ⟨wr.heap.size, 3, none⟩ = some (.bool true) ∧ w'.cell? ⟨wr.heap.size, 4, none⟩ = some (.int .i64 grace)) X := by
            rw [hX]
            have T0 : Mem.Blk (wr.alloc (.cells #[.int .i64 sig, .int .i64 pct, .int .i64 amt, .bool true, .int .i64 grace] 67)) wr.heap.size 67 #[.int .i64 sig, .int .i64 pct, .int .i64 amt, .bool true, .int .i64 grace] := Mem.Blk.new
            exact ⟨Mem.keep_drew hcz2, T0.cell 3, T0.cell 4⟩
          refine Reg.start (S := (fun w' => w'.cell? (ad2.add k) = some (.int .i64 z) ∧ w'.cell? ⟨wr.heap.size, 3, none⟩ = some (.bool true) ∧ w'.cell? ⟨wr.heap.size, 4, none⟩ = some (.int .i64 grace))) (by kernel_rfl) ?_
          rw [← hX]
          clear hX hrow hcz hcz2 B0 m6
          refine Reg.takes (n := 0) (by kernel_rfl) (fun _ _ d _ _ h => by cases d <;> exact h) SX [0, 1, 2, 3, 4, 5, 6, 7, 8, 9, 10, 11, 12] _ _ (by kernel_rfl) ?_
          iterate 13 (refine Reg.det_step rfl (fun K' hK' => ?_); go_simp; (first | (refine hK' _ ?_; clear hK' K') | (apply Exists.intro; refine ⟨fun wx hwx => ?_, hK' _ ?_⟩; (first | rfl | (have fa := hwx; intro fb fc; go_simp; first | done | rfl)); clear hK' K')))
          refine Reg.det_nil ?_
          refine wpAnyH_done (by kernel_rfl) ?_ _
          go_wp2_with (at_builtin; refine Mem.wpList_app rfl rfl elt (base := w.heap.size + 1) (World.ownsRow.alloc RX _) rfl rfl (Mem.new_sl (n := 1) (xs := [.bool false]) rfl rfl rfl) (by simp [Value.oneCell']) (N := k + 1) (ys := L.take (k + 1)) rfl hP.out (by unfold maxLen; omega) (by omega) (by simp; omega) ?_; intro A3 c3 w3 hown3 hg3 hat3)
          go_roundw
          case rel => exact ⟨k + 1, by omega, by go_num, (LX.alloc LX.size _).grown hg3 (by simp; omega) (fun g hg => by have := Lt1.out g hg; omega), (BX.alloc).grown hg3 (fun e => by have := Lt1.out w.heap.size e.symm; omega), A3, c3, rfl, hown3⟩
          case measure => simp [intOf]; omega
        · have d1 : decide (z ≥ 0) = true := by simp; omega
          have hw : IntKind.i64.wrap (z + grace) = z + grace := by unfold IntKind.wrap; simp [IntKind.bits, IntKind.signed]; omega
          have d2 : decide (round < z + grace) = false := by simp; omega
          have hP := Lib.hid (hput.out true (by unfold holdZ; simp; omega))
          clear hput
          go_wp2_with fail
          clear c0 c1 c2 c3 c4
          obtain ⟨X, hX⟩ : ∃ X, X = World.drew (wr.alloc (.cells #[.int .i64 sig, .int .i64 pct, .int .i64 amt, .bool true, .int .i64 grace] 67)) := ⟨_, rfl⟩
          have LX : Below w.heap.size w X := by rw [hX]; exact (hbr.alloc hbr.size _).drew
          have zX : wr.heap.size < X.heap.size := by rw [hX]; simp
          have BX := B0.alloc (o := .cells #[.int .i64 sig, .int .i64 pct, .int .i64 amt, .bool true, .int .i64 grace] 67) |>.drew
          have RX : BRow X (w.heap.size + 1) A' k c' (L.take k) := by rw [hX]; exact World.ownsRow.drew (World.ownsRow.alloc hrow _)
          rw [← hX] at BX
          have SX : (fun w' => w'.cell? (ad2.add k) = some (.int .i64 z) ∧ w'.cell? ⟨wr.heap.size, 3, none⟩ = some (.bool true) ∧ w'.cell? ⟨wr.heap.size, 4, none⟩ = some (.int .i64 grace)) X := by
            rw [hX]
            have T0 : Mem.Blk (wr.alloc (.cells #[.int .i64 sig, .int .i64 pct, .int .i64 amt, .bool true, .int .i64 grace] 67)) wr.heap.size 67 #[.int .i64 sig, .int .i64 pct, .int .i64 amt, .bool true, .int .i64 grace] := Mem.Blk.new
            exact ⟨Mem.keep_drew hcz2, T0.cell 3, T0.cell 4⟩
          refine Reg.start (S := (fun w' => w'.cell? (ad2.add k) = some (.int .i64 z) ∧ w'.cell? ⟨wr.heap.size, 3, none⟩ = some (.bool true) ∧ w'.cell? ⟨wr.heap.size, 4, none⟩ = some (.int .i64 grace))) (by kernel_rfl) ?_
          rw [← hX]
          clear hX hrow hcz hcz2 B0 m6
          refine Reg.takes (n := 0) (by kernel_rfl) (fun _ _ d _ _ h => by cases d <;> exact h) SX [0, 1, 2, 3, 4, 5, 6, 7, 8, 9, 10, 11, 12] _ _ (by kernel_rfl) ?_
          iterate 13 (refine Reg.det_step rfl (fun K' hK' => ?_); go_simp; (first | (refine hK' _ ?_; clear hK' K') | (apply Exists.intro; refine ⟨fun wx hwx => ?_, hK' _ ?_⟩; (first | rfl | (have fa := hwx; intro fb fc; go_simp; first | done | rfl)); clear hK' K')))
          refine Reg.det_nil ?_
          refine wpAnyH_done (by kernel_rfl) ?_ _
          go_wp2_with (at_builtin; refine Mem.wpList_app rfl rfl elt (base := w.heap.size + 1) (World.ownsRow.alloc RX _) rfl rfl (Mem.new_sl (n := 1) (xs := [.bool true]) rfl rfl rfl) (by simp [Value.oneCell']) (N := k + 1) (ys := L.take (k + 1)) rfl hP.out (by unfold maxLen; omega) (by omega) (by simp; omega) ?_; intro A3 c3 w3 hown3 hg3 hat3)
          go_roundw
          case rel => exact ⟨k + 1, by omega, by go_num, (LX.alloc LX.size _).grown hg3 (by simp; omega) (fun g hg => by have := Lt1.out g hg; omega), (BX.alloc).grown hg3 (fun e => by have := Lt1.out w.heap.size e.symm; omega), A3, c3, rfl, hown3⟩
          case measure => simp [intOf]; omega
    · obtain rfl : k = n := by omega
      go_wp2_with fail
      go_ret
      rw [List.take_of_length_le (by omega)] at hrow
      exact ⟨_, _, rfl, own_low hrow (by omega), hbr⟩
end Grc
end Go.Proofs.Ytjfbnobijlkicaa
