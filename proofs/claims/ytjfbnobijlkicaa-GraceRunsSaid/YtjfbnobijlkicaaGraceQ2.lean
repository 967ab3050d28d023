/- The walks of the references of layers 7 and 18: right configs; rows compared; timers that may be. -/
import Derived.Test.YtjfbnobijlkicaaGraceQ
import Derived.Test.YtjfbnobijlkicaaGraceS
namespace Go.Proofs.Ytjfbnobijlkicaa
open Go.RowKit
namespace Grc
/-- some bool; if it is true, P; what was there stays -/
def OkSaid (P : Prop) (W : World) (e : Ending) (w' : World) : Prop := ∃ b, e = .returned (.bool b) ∧ (b = true → P) ∧ Below W.heap.size W w'
set_option maxRecDepth 100000 in
set_option maxHeartbeats 4000000 in
theorem rcright_c (p : CfgV) (ths : List ThrV) (w : World) (hp : p.ok w w.heap.size ths) : Calls Try.prog 39 #[.agg p.arr] w (OkSaid (RightC p ths) w) := by
  have hlen := hp.len
  have hsl := hp.sl
  have hnc := hp.nc
  have hcm := hp.cm
  unfold maxLen at hcm
  clear hp
  obtain ⟨P, hP⟩ : ∃ P : Prop, P = RightC p ths := ⟨_, rfl⟩
  have HP : Hid (1 ≤ p.c0 → 1 ≤ p.c1 → 1 ≤ p.c2 → p.n ≤ 12 → (∀ t ∈ ths, RightT t) → P) := fun h0 h1 h2 hn ht => by rw [hP]; exact ⟨h0, h1, h2, hn, ht⟩
  rw [← hP]
  clear hP
  obtain ⟨k0, k1, k2, a0, a1, a2, A, n, c, per, ret, age, dead⟩ := p
  unfold CfgV.arr
  dsimp only at hlen hsl hnc hcm HP ⊢
  go_enter Try.func39, Try.ntmps39
  go_wp2_with fail
  go_loopw [3] (fun vi wr => ∃ i : Nat, i ≤ 3 ∧ vi = .int .i64 i ∧ Below w.heap.size w wr ∧ Mem.Blk wr w.heap.size 47 #[.int .i64 k0, .int .i64 k1, .int .i64 k2, .int .i64 a0, .int .i64 a1, .int .i64 a2, .slice A n c, .int .i64 per, .int .i64 ret, .int .i64 age, .int .i64 dead] ∧ (1 ≤ i → 1 ≤ k0) ∧ (2 ≤ i → 1 ≤ k1) ∧ (3 ≤ i → 1 ≤ k2)) (fun i _ => 3 - (intOf i).toNat)
  case atStart => exact ⟨0, by omega, rfl, (Below.refl _ _).alloc (Nat.le_refl _) _, Mem.Blk.new, fun h => absurd h (by omega), fun h => absurd h (by omega), fun h => absurd h (by omega)⟩
  case round =>
    obtain ⟨i, hi, rfl, hbr, B0, q0, q1, q2⟩ := hrel
    have m0 : wr.cell? ⟨w.heap.size, 0, none⟩ = some (.int .i64 k0) := B0.cell 0
    have m1 : wr.cell? ⟨w.heap.size, 1, none⟩ = some (.int .i64 k1) := B0.cell 1
    have m2 : wr.cell? ⟨w.heap.size, 2, none⟩ = some (.int .i64 k2) := B0.cell 2
    have m3 : wr.cell? ⟨w.heap.size, 3, none⟩ = some (.int .i64 a0) := B0.cell 3
    have m4 : wr.cell? ⟨w.heap.size, 4, none⟩ = some (.int .i64 a1) := B0.cell 4
    have m5 : wr.cell? ⟨w.heap.size, 5, none⟩ = some (.int .i64 a2) := B0.cell 5
    have hor : i = 0 ∨ i = 1 ∨ i = 2 ∨ i = 3 := by omega
    rcases hor with rfl | rfl | rfl | rfl
    · clear q0 q1 q2
      have hor : k0 < 1 ∨ 1 ≤ k0 ∧ (a0 < 0 ∨ 0 ≤ a0) := by omega
      rcases hor with h | ⟨h, h2 | h2⟩
      · go_wp2_with fail
        go_ret
        exact ⟨false, rfl, fun h => (by cases h), hbr⟩
      · go_wp2_with fail
        go_ret
        exact ⟨false, rfl, fun h => (by cases h), hbr⟩
      · go_wp2_with fail
        go_roundw
        case rel => exact ⟨1, by omega, rfl, hbr, B0, fun _ => h, fun h => absurd h (by omega), fun h => absurd h (by omega)⟩
        case measure => simp [intOf]
    · have Q0 := Lib.hid (q0 (by omega))
      clear q0 q1 q2
      have hor : k1 < 1 ∨ 1 ≤ k1 ∧ (a1 < 0 ∨ 0 ≤ a1) := by omega
      rcases hor with h | ⟨h, h2 | h2⟩
      · go_wp2_with fail
        go_ret
        exact ⟨false, rfl, fun h => (by cases h), hbr⟩
      · go_wp2_with fail
        go_ret
        exact ⟨false, rfl, fun h => (by cases h), hbr⟩
      · go_wp2_with fail
        go_roundw
        case rel => exact ⟨2, by omega, rfl, hbr, B0, fun _ => Q0.out, fun _ => h, fun h => absurd h (by omega)⟩
        case measure => simp [intOf]
    · have Q0 := Lib.hid (q0 (by omega))
      have Q1 := Lib.hid (q1 (by omega))
      clear q0 q1 q2
      have hor : k2 < 1 ∨ 1 ≤ k2 ∧ (a2 < 0 ∨ 0 ≤ a2) := by omega
      rcases hor with h | ⟨h, h2 | h2⟩
      · go_wp2_with fail
        go_ret
        exact ⟨false, rfl, fun h => (by cases h), hbr⟩
      · go_wp2_with fail
        go_ret
        exact ⟨false, rfl, fun h => (by cases h), hbr⟩
      · go_wp2_with fail
        go_roundw
        case rel => exact ⟨3, by omega, rfl, hbr, B0, fun _ => Q0.out, fun _ => Q1.out, fun _ => h⟩
        case measure => simp [intOf]
    · rw [show ((3 : Nat) : Int) = (3 : Int) from rfl]
      have HP2 : Hid (n ≤ 12 → (∀ t ∈ ths, RightT t) → P) := fun hn ht => HP.out (q0 (by omega)) (q1 (by omega)) (q2 (by omega)) hn ht
      have m6 : wr.cell? ⟨w.heap.size, 6, none⟩ = some (.slice A n c) := B0.cell 6
      clear q0 q1 q2
      have hor : k0 < a1 ∨ a1 ≤ k0 ∧ (k2 < a2 ∨ a2 ≤ k2 ∧ (12 < n ∨ n ≤ 12)) := by omega
      rcases hor with h | ⟨h, h2 | ⟨h2, h3 | h3⟩⟩
      · have d1 : decide (a1 > k0) = true := by simpa using h
        go_wp2_with fail
        go_ret
        exact ⟨false, rfl, fun h => (by cases h), hbr⟩
      · have d1 : decide (a1 > k0) = false := by simpa using h
        have d2 : decide (a2 > k2) = true := by simpa using h2
        go_wp2_with fail
        go_ret
        exact ⟨false, rfl, fun h => (by cases h), hbr⟩
      · have d1 : decide (a1 > k0) = false := by simpa using h
        have d2 : decide (a2 > k2) = false := by simpa using h2
        have d3 : decide ((n : Int) > 12) = true := by simp; omega
        go_wp2_with fail
        go_ret
        exact ⟨false, rfl, fun h => (by cases h), hbr⟩
      · have d1 : decide (a1 > k0) = false := by simpa using h
        have d2 : decide (a2 > k2) = false := by simpa using h2
        have d3 : decide ((n : Int) > 12) = false := by simp; omega
        clear h h2
        go_wp2_with fail
        clear m0 m1 m2 m3 m4 m5 m6 d1 d2 d3
        go_loopw [4] (fun vj wr2 => ∃ j : Nat, j ≤ n ∧ vj = .int .i64 j ∧ Below w.heap.size w wr2 ∧ Mem.Blk wr2 w.heap.size 47 #[.int .i64 k0, .int .i64 k1, .int .i64 k2, .int .i64 a0, .int .i64 a1, .int .i64 a2, .slice A n c, .int .i64 per, .int .i64 ret, .int .i64 age, .int .i64 dead] ∧ Hid (∀ t ∈ ths.take j, RightT t)) (fun j _ => n - (intOf j).toNat)
        case atStart => exact ⟨0, by omega, rfl, hbr, B0, by show ∀ t ∈ _, _; simp⟩
        case round =>
          clear hbr B0
          obtain ⟨j, hj, rfl, hbr, B0, hall⟩ := hrel
          have m6 : wr.cell? ⟨w.heap.size, 6, none⟩ = some (.slice A n c) := B0.cell 6
          by_cases hlt : j < n
          · obtain ⟨ad, hlk, hA, _, hbk, hat⟩ := ThrV.at_ (hsl.below hbr) hlt
            have hcall : Hid (∀ w, Calls Try.prog 60 #[.agg ths[j].arr] w (RTSaid ths[j] w)) := fun w => rright_c ths[j] w
            have hnext : Hid (RightT ths[j] → ∀ t ∈ ths.take (j + 1), RightT t) := by
              intro h t ht
              rw [Mem.take_snoc _ _ hlk] at ht
              rcases List.mem_append.1 ht with h1 | h1
              · exact hall.out t h1
              · have : t = ths[j] := by simpa using h1
                rw [this]; exact h
            unfold RTSaid at hcall
            obtain ⟨R, hR⟩ : ∃ R : Prop, R = RightT ths[j] := ⟨_, rfl⟩
            rw [← hR] at hcall hnext
            clear hR
            subst hA
            generalize ths[j] = t at *
            obtain ⟨sig, pct, amt, soft, grace⟩ := t
            unfold ThrV.arr at hcall
            obtain ⟨c0, c1, c2, c3, c4⟩ := hat
            dsimp only at c0 c1 c2 c3 c4 hcall
            go_wp2_with fail
            refine (hcall.out _).mono ?_
            rintro e w2 ⟨b, rfl, hb, hb2⟩
            have L2 : Below w.heap.size w w2 := hbr.trans (hb2.mono hbr.size)
            have B2 := B0.belowS hb2
            cases b with
            | false =>
              go_wp2_with fail
              go_ret
              exact ⟨false, rfl, fun h => (by cases h), L2⟩
            | true =>
              have HN := Lib.hid (hnext.out (hb rfl))
              clear hb
              go_wp2_with fail
              go_roundw
              case rel => exact ⟨j + 1, by omega, by go_num, L2, B2, HN.out⟩
              case measure => simp [intOf]; omega
          · obtain rfl : j = n := by omega
            have hall2 : Hid P := HP2.out h3 (by have := hall.out; rw [List.take_of_length_le (by omega)] at this; exact this)
            have m7 : wr.cell? ⟨w.heap.size, 7, none⟩ = some (.int .i64 per) := B0.cell 7
            have m8 : wr.cell? ⟨w.heap.size, 8, none⟩ = some (.int .i64 ret) := B0.cell 8
            have m9 : wr.cell? ⟨w.heap.size, 9, none⟩ = some (.int .i64 age) := B0.cell 9
            have m10 : wr.cell? ⟨w.heap.size, 10, none⟩ = some (.int .i64 dead) := B0.cell 10
            go_wp2_with fail
            all_goals (go_ret; exact ⟨_, rfl, fun _ => hall2.out, hbr⟩)
/-- a timer may be -/
def FitZ (zs : List Int) (round : Int) : Prop := ∀ z ∈ zs, -1 ≤ z ∧ z ≤ round
def FitP (p : CfgV) (ths : List ThrV) (m : Nat) (zs : List Int) (round : Int) : Prop := RightC p ths ∧ m = p.n ∧ 0 ≤ round ∧ round ≤ 1099511627776 ∧ FitZ zs round
set_option maxRecDepth 100000 in
set_option maxHeartbeats 4000000 in
theorem fit_c (p : CfgV) (ths : List ThrV) (S : Option Addr) (m sc : Nat) (zs : List Int) (round : Int) (w : World) (hp : p.ok w w.heap.size ths) (hz : Mem.Ints w w.heap.size .i64 S m zs) (hm : m ≤ 9223372036854775807) :
    Calls Try.prog 28 #[.agg p.arr, .slice S m sc, .int .i64 round] w (OkSaid (FitP p ths m zs round) w) := by
  have hzl := hz.len
  have hnc : p.n ≤ 9223372036854775807 := by have h1 := hp.nc; have h2 := hp.cm; unfold maxLen at h2; omega
  have hcall : Hid (∀ w', Below w.heap.size w w' → Calls Try.prog 39 #[.agg p.arr] w' (OkSaid (RightC p ths) w')) := fun w' hb => rcright_c p ths w' ((hp.below hb).more hb.size)
  obtain ⟨P, hP⟩ : ∃ P : Prop, P = FitP p ths m zs round := ⟨_, rfl⟩
  have HP : Hid (RightC p ths → m = p.n → 0 ≤ round → round ≤ 1099511627776 → FitZ zs round → P) := fun h0 h1 h2 h3 h4 => by rw [hP]; exact ⟨h0, h1, h2, h3, h4⟩
  rw [← hP]
  obtain ⟨R, hR⟩ : ∃ R : Prop, R = RightC p ths := ⟨_, rfl⟩
  rw [← hR] at hcall HP
  clear hP hR hp
  obtain ⟨k0, k1, k2, a0, a1, a2, A, n, c, per, ret, age, dead⟩ := p
  unfold CfgV.arr at hcall ⊢
  dsimp only at hcall HP hnc ⊢
  go_enter Try.func28, Try.ntmps28
  go_wp2_with fail
  refine (hcall.out _ ((Below.refl _ _).alloc (Nat.le_refl _) _)).mono ?_
  rintro e w1 ⟨b, rfl, hb, hb1⟩
  have L1 : Below w.heap.size w w1 := ((Below.refl _ _).alloc (Nat.le_refl _) _).trans (hb1.mono (by simp))
  have B1 : Mem.Blk w1 w.heap.size 47 #[.int .i64 k0, .int .i64 k1, .int .i64 k2, .int .i64 a0, .int .i64 a1, .int .i64 a2, .slice A n c, .int .i64 per, .int .i64 ret, .int .i64 age, .int .i64 dead] := Mem.Blk.new.belowS hb1
  have m6 : w1.cell? ⟨w.heap.size, 6, none⟩ = some (.slice A n c) := B1.cell 6
  have hor : b = false ∨ b = true ∧ (m ≠ n ∨ m = n ∧ (round < 0 ∨ 0 ≤ round ∧ (1099511627776 < round ∨ round ≤ 1099511627776))) := by cases b <;> simp <;> omega
  rcases hor with rfl | ⟨rfl, h1 | ⟨h1, h2 | ⟨h2, h3 | h3⟩⟩⟩
  · go_wp2_with fail
    go_ret
    exact ⟨false, rfl, fun h => (by cases h), L1⟩
  · have d1 : ((m : Int) != (n : Int)) = true := by simp; omega
    go_wp2_with fail
    go_ret
    exact ⟨false, rfl, fun h => (by cases h), L1⟩
  · have d1 : ((m : Int) != (n : Int)) = false := by simp; omega
    go_wp2_with fail
    go_ret
    exact ⟨false, rfl, fun h => (by cases h), L1⟩
  · have d1 : ((m : Int) != (n : Int)) = false := by simp; omega
    have d2 : decide (round < 0) = false := by simpa using h2
    have d3 : decide (round > 1099511627776) = true := by simpa using h3
    go_wp2_with fail
    go_ret
    exact ⟨false, rfl, fun h => (by cases h), L1⟩
  · have d1 : ((m : Int) != (n : Int)) = false := by simp; omega
    have d2 : decide (round < 0) = false := by simpa using h2
    have d3 : decide (round > 1099511627776) = false := by simpa using h3
    have HP2 : Hid (FitZ zs round → P) := fun hz => HP.out (hb rfl) h1 h2 h3 hz
    clear h1 h2 h3 hb hb1 B1 HP hcall
    go_wp2_with fail
    clear d1 d2 d3 m6
    go_loopw [7] (fun vi wr => ∃ i : Nat, i ≤ m ∧ vi = .int .i64 i ∧ Below w.heap.size w wr ∧ Hid (FitZ (zs.take i) round)) (fun i _ => m - (intOf i).toNat)
    case atStart => exact ⟨0, by omega, rfl, L1, by show FitZ _ _; simp [FitZ]⟩
    case round =>
      clear L1
      obtain ⟨i, hi, rfl, hbr, hall⟩ := hrel
      by_cases hlt : i < m
      · obtain ⟨ad, z, hlz, rfl, _, hze, hcz⟩ := Mem.Ints.at_ (hz.below hbr) hlt
        have hnext : Hid (-1 ≤ z → z ≤ round → FitZ (zs.take (i + 1)) round) := by
          intro h0 h1 y hy
          rw [Mem.take_snoc _ _ hlz] at hy
          rcases List.mem_append.1 hy with h2 | h2
          · exact hall.out y h2
          · have : y = zs[i] := by simpa using h2
            rw [this, hze]; exact ⟨h0, h1⟩
        clear hze
        have hor : z < -1 ∨ -1 ≤ z ∧ (round < z ∨ z ≤ round) := by omega
        rcases hor with h1 | ⟨h1, h2 | h2⟩
        · go_wp2_with fail
          go_ret
          exact ⟨false, rfl, fun h => (by cases h), hbr⟩
        · have d1 : decide (z < -1) = false := by simpa using h1
          have d2 : decide (z > round) = true := by simpa using h2
          go_wp2_with fail
          go_ret
          exact ⟨false, rfl, fun h => (by cases h), hbr⟩
        · have d1 : decide (z < -1) = false := by simpa using h1
          have d2 : decide (z > round) = false := by simpa using h2
          have HN := Lib.hid (hnext.out h1 h2)
          clear h1 h2
          go_wp2_with fail
          go_roundw
          case rel => exact ⟨i + 1, by omega, by go_num, hbr, HN.out⟩
          case measure => simp [intOf]; omega
      · obtain rfl : i = m := by omega
        have hall2 : Hid P := HP2.out (by have := hall.out; rw [List.take_of_length_le (by omega)] at this; exact this)
        go_wp2_with fail
        go_ret
        exact ⟨true, rfl, fun _ => hall2.out, hbr⟩
end Grc
end Go.Proofs.Ytjfbnobijlkicaa
