/- The walks of the reference of layer 18 (grace): a step. -/
import Derived.Test.YtjfbnobijlkicaaGraceR
namespace Go.Proofs.Ytjfbnobijlkicaa
open Go.RowKit
namespace Grc
theorem take_one (L : List Value) (k : Nat) (v : Value) (hk : k < L.length) (e : L[k] = v) : L.take k ++ [v] = L.take (k + 1) := by rw [Mem.take_snoc _ _ hk, e]
set_option maxRecDepth 100000 in
set_option maxHeartbeats 4000000 in
theorem rstep_c (p : CfgV) (ths : List ThrV) (S : Option Addr) (sc : Nat) (zs : List Int) (x0 x1 x2 round : Int) (w : World) (hp : p.ok w w.heap.size ths) (hn : p.n ≤ 1000000) (hr : ∀ t ∈ ths, RightT t) (hx0 : ThrV.I64 x0) (hx1 : ThrV.I64 x1) (hx2 : ThrV.I64 x2)
    (hz : Mem.Ints w w.heap.size .i64 S p.n zs) (hzf : ∀ z ∈ zs, -1 ≤ z) :
    Calls Try.prog 36 #[.agg p.arr, .slice S p.n sc, .agg #[.int .i64 x0, .int .i64 x1, .int .i64 x2], .int .i64 round] w (NewI p.n ((stepL (metL p x0 x1 x2 ths) zs round).map (.int .i64)) w) := by
  have hlen := hp.len
  have hzl := hz.len
  have hml : (metL p x0 x1 x2 ths).length = p.n := by simp [metL, hlen]
  have hone : Hid (∀ (wx : World) (k : Nat), Below w.heap.size w wx → k < p.n → Calls Try.prog 45 #[.agg p.arr, .int .i64 k, .agg #[.int .i64 x0, .int .i64 x1, .int .i64 x2]] wx fun e w' => e = .returned (.bool ((metL p x0 x1 x2 ths).getD k false)) ∧ Below wx.heap.size wx w') := by
    intro wx k hb hk
    have hk' : k < ths.length := by omega
    have e : (metL p x0 x1 x2 ths).getD k false = metC p.c0 p.c1 p.c2 x0 x1 x2 ths[k] := by simp [metL, List.getD_eq_getElem?_getD, hk']
    rw [e]
    exact one_c p ths x0 x1 x2 k wx ((hp.below hb).more hb.size) hk' hn hr hx0 hx1 hx2
  have Hzf := Lib.hid hzf
  clear hp hr hx0 hx1 hx2 hzf
  generalize metL p x0 x1 x2 ths = ms at *
  obtain ⟨k0, k1, k2, a0, a1, a2, A, n, c, per, ret, age, dead⟩ := p
  unfold CfgV.arr at hone ⊢
  dsimp only at hn hlen hz hzl hml hone ⊢
  obtain ⟨L, hL⟩ : ∃ L, L = (stepL ms zs round).map (Value.int .i64) := ⟨_, rfl⟩
  have hll : L.length = n := by rw [hL]; simp [stepL, hml, hzl]
  rw [← hL]
  have HL := Lib.hid hL
  clear hL
  go_enter Try.func36, Try.ntmps36
  go_wp2_with fail
  go_loopw [9, 10] (fun vo vi wr => ∃ k : Nat, k ≤ n ∧ vi = .int .i64 k ∧ Below w.heap.size w wr ∧ Mem.Blk wr w.heap.size 47 #[.int .i64 k0, .int .i64 k1, .int .i64 k2, .int .i64 a0, .int .i64 a1, .int .i64 a2, .slice A n c, .int .i64 per, .int .i64 ret, .int .i64 age, .int .i64 dead] ∧ Mem.Blk wr (w.heap.size + 1) 44 #[.int .i64 x0, .int .i64 x1, .int .i64 x2] ∧ ∃ A' c', vo = .slice A' k c' ∧ IRow wr (w.heap.size + 2) A' k c' (L.take k)) (fun _ i _ => n - (intOf i).toNat)
  case atStart =>
    refine ⟨0, by omega, rfl, ((Below.refl _ _).alloc (Nat.le_refl _) _).alloc (by simp) _, Mem.Blk.new.alloc, ?_, none, 0, rfl, Mem.own_nil⟩
    have q := Mem.Blk.new (w := w.alloc (.cells #[.int .i64 k0, .int .i64 k1, .int .i64 k2, .int .i64 a0, .int .i64 a1, .int .i64 a2, .slice A n c, .int .i64 per, .int .i64 ret, .int .i64 age, .int .i64 dead] 47)) (t := 44) (cs := #[.int .i64 x0, .int .i64 x1, .int .i64 x2])
    rw [World.size_alloc] at q
    exact q
  case round =>
    obtain ⟨k, hk, rfl, hbr, B0, B1, A', c', rfl, hrow⟩ := hrel
    have zr2 : w.heap.size + 1 < wr.heap.size := B1.lt
    have m6' : wr.cell? ⟨w.heap.size, 6, none⟩ = some (.slice A n c) := B0.cell 6
    by_cases hlt : k < n
    · clear m6'
      obtain ⟨ad, z, hlz, rfl, _, hzz, hcz⟩ := Mem.Ints.at_ (hz.below hbr) hlt
      have hz0 : -1 ≤ z := Hzf.out z (by rw [← hzz]; exact List.getElem_mem hlz)
      have hmk : k < ms.length := by omega
      have hLk : L[k]'(by omega) = .int .i64 (stepZ (ms.getD k false) z round) := by
        have := HL.out
        subst this
        simp [stepL, hzz, List.getD_eq_getElem?_getD, hmk]
      have hput : Hid (∀ y, y = stepZ (ms.getD k false) z round → L.take k ++ [Value.int .i64 y] = L.take (k + 1)) := fun y hy => take_one L k _ (by omega) (by rw [hLk, hy])
      have hzb : (z, z) = (z, z) := rfl
      clear hLk hzb
      have m0 : wr.cell? ⟨w.heap.size, 0, none⟩ = some (.int .i64 k0) := B0.cell 0
      have m1 : wr.cell? ⟨w.heap.size, 1, none⟩ = some (.int .i64 k1) := B0.cell 1
      have m2 : wr.cell? ⟨w.heap.size, 2, none⟩ = some (.int .i64 k2) := B0.cell 2
      have m3 : wr.cell? ⟨w.heap.size, 3, none⟩ = some (.int .i64 a0) := B0.cell 3
      have m4 : wr.cell? ⟨w.heap.size, 4, none⟩ = some (.int .i64 a1) := B0.cell 4
      have m5 : wr.cell? ⟨w.heap.size, 5, none⟩ = some (.int .i64 a2) := B0.cell 5
      have m6 : wr.cell? ⟨w.heap.size, 6, none⟩ = some (.slice A n c) := B0.cell 6
      have m7 : wr.cell? ⟨w.heap.size, 7, none⟩ = some (.int .i64 per) := B0.cell 7
      have m8 : wr.cell? ⟨w.heap.size, 8, none⟩ = some (.int .i64 ret) := B0.cell 8
      have m9 : wr.cell? ⟨w.heap.size, 9, none⟩ = some (.int .i64 age) := B0.cell 9
      have m10 : wr.cell? ⟨w.heap.size, 10, none⟩ = some (.int .i64 dead) := B0.cell 10
      have n0 : wr.cell? ⟨w.heap.size + 1, 0, none⟩ = some (.int .i64 x0) := B1.cell 0
      have n1 : wr.cell? ⟨w.heap.size + 1, 1, none⟩ = some (.int .i64 x1) := B1.cell 1
      have n2 : wr.cell? ⟨w.heap.size + 1, 2, none⟩ = some (.int .i64 x2) := B1.cell 2
      go_wp2_with fail
      refine (hone.out _ k hbr hlt).mono ?_
      rintro e w2 ⟨rfl, hb2⟩
      have L2 : Below w.heap.size w w2 := hbr.trans (hb2.mono hbr.size)
      have z2 : w.heap.size + 2 ≤ w2.heap.size := by have := hb2.size; omega
      have C0 := B0.belowS hb2
      have C1 := B1.belowS hb2
      have hrow2 : IRow w2 (w.heap.size + 2) A' k c' (L.take k) := own_below hrow hb2 (Nat.le_refl _)
      have hcz2 : w2.cell? (ad.add k) = some (.int .i64 z) := (hb2.cell (p := ad.add k) (World.block_lt_of_cell? wr _ hcz)).trans hcz
      clear hb2 B0 B1 hrow hcz hbr m0 m1 m2 m3 m4 m5 m6 m7 m8 m9 m10 n0 n1 n2
      generalize ms.getD k false = m at *
      cases m with
      | false =>
        have hP := Lib.hid (hput.out (-1) (by simp [stepZ]))
        clear hput
        go_wp2_with (at_builtin; refine Mem.wpList_app rfl rfl eli (base := w.heap.size + 2) (World.ownsRow.alloc hrow2 _) rfl rfl (Mem.new_sl (n := 1) (xs := [.int .i64 (-1)]) rfl rfl rfl) (by simp [Value.oneCell']) (N := k + 1) (ys := L.take (k + 1)) rfl hP.out (by unfold maxLen; omega) (by omega) (by simp; omega) ?_; intro A3 c3 w3 hown3 hg3 hat3)
        have lt1 : ∀ g, (Value.slice A' k c').ownBlock = some g → w.heap.size + 2 ≤ g := fun g hg => (World.ownsRow.lt hrow2 g hg).1
        go_roundw
        case rel => exact ⟨k + 1, by omega, by go_num, (L2.alloc L2.size _).grown hg3 (by simp; omega) (fun g hg => by have := lt1 g hg; omega), (C0.alloc).grown hg3 (fun e => by have := lt1 w.heap.size e.symm; omega), (C1.alloc).grown hg3 (fun e => by have := lt1 (w.heap.size + 1) e.symm; omega), A3, c3, rfl, hown3⟩
        case measure => simp [intOf]; omega
      | true =>
        have hor : z = -1 ∨ 0 ≤ z := by omega
        rcases hor with hq | hq
        · have d1 : decide (z ≥ 0) = false := by simp; omega
          have hP := Lib.hid (hput.out round (by simp [stepZ, hq]))
          clear hput hq
          go_wp2_with (at_builtin; refine Mem.wpList_app rfl rfl eli (base := w.heap.size + 2) (World.ownsRow.alloc hrow2 _) rfl rfl (Mem.new_sl (n := 1) (xs := [.int .i64 round]) rfl rfl rfl) (by simp [Value.oneCell']) (N := k + 1) (ys := L.take (k + 1)) rfl hP.out (by unfold maxLen; omega) (by omega) (by simp; omega) ?_; intro A3 c3 w3 hown3 hg3 hat3)
          have lt1 : ∀ g, (Value.slice A' k c').ownBlock = some g → w.heap.size + 2 ≤ g := fun g hg => (World.ownsRow.lt hrow2 g hg).1
          go_roundw
          case rel => exact ⟨k + 1, by omega, by go_num, (L2.alloc L2.size _).grown hg3 (by simp; omega) (fun g hg => by have := lt1 g hg; omega), (C0.alloc).grown hg3 (fun e => by have := lt1 w.heap.size e.symm; omega), (C1.alloc).grown hg3 (fun e => by have := lt1 (w.heap.size + 1) e.symm; omega), A3, c3, rfl, hown3⟩
          case measure => simp [intOf]; omega
        · have d1 : decide (z ≥ 0) = true := by simpa using hq
          have hP := Lib.hid (hput.out z (by unfold stepZ; rw [if_pos rfl, if_neg (by omega)]))
          clear hput hq
          go_wp2_with (at_builtin; refine Mem.wpList_app rfl rfl eli (base := w.heap.size + 2) (World.ownsRow.alloc hrow2 _) rfl rfl (Mem.new_sl (n := 1) (xs := [.int .i64 z]) rfl rfl rfl) (by simp [Value.oneCell']) (N := k + 1) (ys := L.take (k + 1)) rfl hP.out (by unfold maxLen; omega) (by omega) (by simp; omega) ?_; intro A3 c3 w3 hown3 hg3 hat3)
          have lt1 : ∀ g, (Value.slice A' k c').ownBlock = some g → w.heap.size + 2 ≤ g := fun g hg => (World.ownsRow.lt hrow2 g hg).1
          go_roundw
          case rel => exact ⟨k + 1, by omega, by go_num, (L2.alloc L2.size _).grown hg3 (by simp; omega) (fun g hg => by have := lt1 g hg; omega), (C0.alloc).grown hg3 (fun e => by have := lt1 w.heap.size e.symm; omega), (C1.alloc).grown hg3 (fun e => by have := lt1 (w.heap.size + 1) e.symm; omega), A3, c3, rfl, hown3⟩
          case measure => simp [intOf]; omega
    · obtain rfl : k = n := by omega
      go_wp2_with fail
      go_ret
      rw [List.take_of_length_le (by omega)] at hrow
      exact ⟨_, _, rfl, own_low hrow (by omega), hbr⟩
end Grc
end Go.Proofs.Ytjfbnobijlkicaa
