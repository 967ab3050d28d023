/- The walks of layer 2 (wide): the division by a hundred, shares. -/
import Derived.Test.YtjfbnobijlkicaaWideW
namespace Go.Proofs.Ytjfbnobijlkicaa
open Go.RowKit
namespace Wide
open Sat (num num_nonneg num_le num_id)
set_option maxRecDepth 100000 in
theorem len_c (w : World) : Calls Try.prog 88 #[.int .u64 100] w fun e w' => e = .returned (.int .i64 7) ∧ w = w' := by
  go_enter Try.func88, Try.ntmps88
  go_wp2
  go_ret
  exact ⟨ret_int (by decide +kernel), rfl⟩
theorem lz_c (w : World) : Calls Try.prog 83 #[.int .u64 100] w fun e w' => e = .returned (.int .i64 57) ∧ w = w' := by
  go_enter Try.func83, Try.ntmps83
  go_wp2_with fail
  refine (len_c _).mono ?_
  rintro e w' ⟨rfl, rfl⟩
  go_wp2
  go_ret
  exact ⟨rfl, rfl⟩
set_option maxRecDepth 100000 in
set_option maxHeartbeats 2000000 in
theorem div_c (h l : Int) (w : World) (h0 : 0 ≤ h) (h1 : h < 100) (l0 : 0 ≤ l) (l1 : l < 18446744073709551616) :
    Calls Try.prog 78 #[.int .u64 h, .int .u64 l, .int .u64 100] w fun e w' => e = .returned (.tuple #[.int .u64 ((h * 18446744073709551616 + l) / 100), .int .u64 ((h * 18446744073709551616 + l) % 100)]) ∧ Below w.heap.size w w' := by
  by_cases hz : h = 0
  · subst hz
    have e1 : Hid ((0 * 18446744073709551616 + l) / 100 = l / 100) := by show _ = _; omega
    have e2 : Hid ((0 * 18446744073709551616 + l) % 100 = l % 100) := by show _ = _; omega
    rw [e1.out, e2.out]
    go_enter Try.func78, Try.ntmps78
    go_wp2
    go_quiet (fail)
    go_wp2
    go_ret2
    exact ⟨rfl, Mem.below_drewN (Below.refl _ _) _⟩
  · obtain ⟨A, B, U, D, E, F, Q, R, G2, M1, N1, f1, f2, f3, f4, f5, f6, f7, f8, f9, f10, f11, q0, q1, m0, m1, u0, u1, r0, r1, e0, e1, g0, g1, k0, k1, n0, n1, f12, f13⟩ := div_facts h l (by omega) h1 l0 l1
    have hz' : (h == 0) = false := by simp [hz]
    have hle : ¬ 100 ≤ h := by omega
    have hb : bits .and .u64 14411518807585587200 4294967295 = 0 := by decide
    generalize (h * 18446744073709551616 + l) / 100 = HQ at *
    generalize (h * 18446744073709551616 + l) % 100 = HR at *
    have F12 := Lib.hid f12
    have F13 := Lib.hid f13
    have F9 := Lib.hid f9
    have F7 := Lib.hid f7
    have F10 := Lib.hid f10
    have F8 := Lib.hid f8
    have F11 := Lib.hid f11
    clear f9 f10 f11 f12 f13
    go_enter Try.func78, Try.ntmps78
    go_wp2_with (go_at_call 83; refine (lz_c _).mono ?_; rintro e w' ⟨rfl, rfl⟩)
    go_loop [15, 16] (fun v15 v16 => v15 = .int .u64 Q ∧ v16 = .int .u64 R) (fun _ _ => 0)
    case atStart => exact ⟨by rw [F7.out], by first | rfl | rw [F8.out]⟩
    case round =>
      obtain ⟨rfl, rfl⟩ := hrel
      clear f7 f8
      have f9 := F9.out
      go_wp2
      go_loop [16, 18] (fun v16 v18 => v16 = .int .u64 N1 ∧ v18 = .int .u64 M1) (fun _ _ => 0)
      case atStart => exact ⟨by first | rfl | rw [F10.out, F11.out], by rw [F10.out]⟩
      case round =>
        obtain ⟨rfl, rfl⟩ := hrel
        clear f9
        have f13 := F13.out
        go_wp2
        go_ret2
        exact ⟨by rw [← F12.out]; rfl, Below.refl _ _⟩
theorem share_bd (whole percent : Int) (hw : whole ≤ 9223372036854775807) : 0 ≤ share whole percent ∧ share whole percent ≤ num whole ∧ share whole percent ≤ 9223372036854775807 := by
  have h0 := num_nonneg whole
  have h1 := num_le whole hw
  have p0 := num_nonneg (if percent ≤ 100 then percent else 100)
  have p1 : num (if percent ≤ 100 then percent else 100) ≤ 100 := by unfold num; split <;> split <;> omega
  unfold share
  generalize num (if percent ≤ 100 then percent else 100) = p at *
  generalize num whole = q at *
  have hm := mul_bd h0 (Int.le_refl q) p0 p1
  generalize q * p = m at *
  omega
theorem share_c (a b : Int) (w : World) (ha : a ≤ 9223372036854775807) (hb : b ≤ 9223372036854775807) :
    Calls Try.prog 70 #[.int .i64 a, .int .i64 b] w fun e w' => e = .returned (.int .i64 (share a b)) ∧ Below w.heap.size w w' := by
  have a0 := num_nonneg a; have a1 := num_le a ha
  obtain ⟨m, hm⟩ : ∃ m, m = (if b ≤ 100 then b else 100) := ⟨_, rfl⟩
  have b0 := num_nonneg m
  have b1 : num m ≤ 100 := by rw [hm]; unfold num; split <;> split <;> omega
  have hm1 : m ≤ 100 := by rw [hm]; split <;> omega
  obtain ⟨hs0, hs1, hs2⟩ := share_bd a b ha
  have hsh : Hid (share a b = (num a * num m + 99) / 100) := by show _ = _; unfold share; rw [← hm]
  obtain ⟨q0, q1⟩ := mul_bd a0 a1 b0 b1
  obtain ⟨H, hH⟩ : ∃ H, num a * num m / 18446744073709551616 = H := ⟨_, rfl⟩
  obtain ⟨L, hL⟩ : ∃ H, num a * num m % 18446744073709551616 = H := ⟨_, rfl⟩
  have hHL : H * 18446744073709551616 + L = num a * num m := by omega
  have hh0 : 0 ≤ H ∧ H < 100 := by omega
  have hl0 : 0 ≤ L ∧ L < 18446744073709551616 := by omega
  have HH := Lib.hid hH
  have HL := Lib.hid hL
  have hd := div_c H L w hh0.1 hh0.2 hl0.1 hl0.2
  rw [hHL] at hd
  obtain ⟨QQ, hQQ⟩ : ∃ QQ, QQ = num a * num m / 100 := ⟨_, rfl⟩
  obtain ⟨RR, hRR⟩ : ∃ RR, RR = num a * num m % 100 := ⟨_, rfl⟩
  rw [← hQQ, ← hRR] at hd
  have Hd := Lib.hid hd
  have hqr : 0 ≤ QQ ∧ 0 ≤ RR ∧ RR < 100 ∧ QQ ≤ 9223372036854775807 ∧ (0 < RR → share a b = QQ + 1) ∧ (RR ≤ 0 → share a b = QQ) := by
    have h := hsh.out
    have k1 := num_le a ha
    clear hd Hd HH HL hH hL
    generalize num a * num m = P at *
    refine ⟨by omega, by omega, by omega, by omega, fun h' => by omega, fun h' => by omega⟩
  obtain ⟨g0, g1, g2, g3, g4, g5⟩ := hqr
  have G4 := Lib.hid g4
  have G5 := Lib.hid g5
  have hmin := Lib.hid hm
  clear hH hL hHL hsh hd hm hQQ hRR g4 g5
  by_cases hb100 : b ≤ 100
  · have e : m = b := by have := hmin.out; rw [if_pos hb100] at this; exact this
    subst e
    rcases Int.lt_or_le 0 RR with hr | hr
    · have hfin := Lib.hid (G4.out hr)
      have hq : QQ + 1 ≤ 9223372036854775807 := by rw [← hfin.out]; exact hs2
      clear G4 G5 hs0 hs1 hs2 q0 q1
      go_enter Try.func70, Try.ntmps70
      go_wp2_with (go_at_call 77; refine (word_c _ _ (by omega)).mono ?_; rintro e w' ⟨rfl, rfl⟩)
      refine (mul_v _ _ H L _ a0 (by omega) b0 (by omega) HH HL).mono ?_
      rintro e w' ⟨rfl, rfl⟩
      go_wp2_with fail
      refine Hd.out.mono ?_
      rintro e w' ⟨rfl, hb1⟩
      go_wp2
      go_ret
      exact ⟨ret_int hfin.out.symm, hb1⟩
    · have hfin := Lib.hid (G5.out hr)
      clear G4 G5 hs0 hs1 hs2 q0 q1
      go_enter Try.func70, Try.ntmps70
      go_wp2_with (go_at_call 77; refine (word_c _ _ (by omega)).mono ?_; rintro e w' ⟨rfl, rfl⟩)
      refine (mul_v _ _ H L _ a0 (by omega) b0 (by omega) HH HL).mono ?_
      rintro e w' ⟨rfl, rfl⟩
      go_wp2_with fail
      refine Hd.out.mono ?_
      rintro e w' ⟨rfl, hb1⟩
      go_wp2
      go_ret
      exact ⟨ret_int hfin.out.symm, hb1⟩
  · have e : m = 100 := by have := hmin.out; rw [if_neg hb100] at this; exact this
    subst e
    have hbl : 100 < b := by omega
    rcases Int.lt_or_le 0 RR with hr | hr
    · have hfin := Lib.hid (G4.out hr)
      have hq : QQ + 1 ≤ 9223372036854775807 := by rw [← hfin.out]; exact hs2
      clear G4 G5 hs0 hs1 hs2 q0 q1
      go_enter Try.func70, Try.ntmps70
      go_wp2_with (go_at_call 77; refine (word_c _ _ (by omega)).mono ?_; rintro e w' ⟨rfl, rfl⟩)
      refine (mul_v _ _ H L _ a0 (by omega) b0 (by omega) HH HL).mono ?_
      rintro e w' ⟨rfl, rfl⟩
      go_wp2_with fail
      refine Hd.out.mono ?_
      rintro e w' ⟨rfl, hb1⟩
      go_wp2
      go_ret
      exact ⟨ret_int hfin.out.symm, hb1⟩
    · have hfin := Lib.hid (G5.out hr)
      clear G4 G5 hs0 hs1 hs2 q0 q1
      go_enter Try.func70, Try.ntmps70
      go_wp2_with (go_at_call 77; refine (word_c _ _ (by omega)).mono ?_; rintro e w' ⟨rfl, rfl⟩)
      refine (mul_v _ _ H L _ a0 (by omega) b0 (by omega) HH HL).mono ?_
      rintro e w' ⟨rfl, rfl⟩
      go_wp2_with fail
      refine Hd.out.mono ?_
      rintro e w' ⟨rfl, hb1⟩
      go_wp2
      go_ret
      exact ⟨ret_int hfin.out.symm, hb1⟩
end Wide
end Go.Proofs.Ytjfbnobijlkicaa
