/- The walks of layer 2 (wide). -/
import Derived.Test.YtjfbnobijlkicaaRows
import Derived.WalkKit
import Derived.BigQuiet
import Derived.Deep.QuietTactic
import Derived.WalkLawsBesides
import Derived.WalkSpells
import Derived.Lib.Hide
import Derived.Test.YtjfbnobijlkicaaWideM
import Derived.Test.YtjfbnobijlkicaaMem
namespace Go.Proofs.Ytjfbnobijlkicaa
open Go.RowKit
namespace Wide
open Sat (num num_nonneg num_le num_id)
theorem ret_int {k : IntKind} {a b : Int} (h : a = b) : Ending.returned (.int k a) = .returned (.int k b) := by rw [h]
theorem ret_bool {a b : Bool} (h : a = b) : Ending.returned (.bool a) = .returned (.bool b) := by rw [h]
theorem word_c (a : Int) (w : World) (ha : a ≤ 9223372036854775807) : Calls Try.prog 77 #[.int .i64 a] w fun e w' => e = .returned (.int .u64 (num a)) ∧ w = w' := by
  by_cases h : a < 0
  all_goals
    go_enter Try.func77, Try.ntmps77
    go_wp2
    go_ret
    exact ⟨ret_int (by unfold num; split <;> omega), rfl⟩
theorem rnum_c (a : Int) (w : World) (ha : a ≤ 9223372036854775807) : Calls Try.prog 84 #[.int .i64 a] w fun e w' => e = .returned (.int .u64 (num a)) ∧ w = w' := by
  by_cases h : a < 0
  all_goals
    go_enter Try.func84, Try.ntmps84
    go_wp2
    go_ret
    exact ⟨ret_int (by unfold num; split <;> omega), rfl⟩
def Two (u v : Int) (w : World) (e : Ending) (w' : World) : Prop := e = .returned (.tuple #[.int .u64 u, .int .u64 v]) ∧ w = w'
theorem mul_c (x y : Int) (w : World) (hx0 : 0 ≤ x) (hx1 : x < 18446744073709551616) (hy0 : 0 ≤ y) (hy1 : y < 18446744073709551616) :
    Calls Try.prog 76 #[.int .u64 x, .int .u64 y] w (Two (x * y / 18446744073709551616) (x * y % 18446744073709551616) w) := by
  obtain ⟨X0, X1, Y0, Y1, W0, V1, W0h, Tt, W1, W2, V2, W1b, V3, S1, W1h, f1, f2, f3, f4, f5, f6, f7, f8, f9, f10, f11, f12, f13, f14, f15, f16, f17⟩ := mul_facts x y hx0 hx1 hy0 hy1
  obtain ⟨HI, hHI⟩ : ∃ HI, HI = x * y / 18446744073709551616 := ⟨_, rfl⟩
  obtain ⟨LO, hLO⟩ : ∃ LO, LO = x * y % 18446744073709551616 := ⟨_, rfl⟩
  rw [← hHI] at f16 ⊢
  rw [← hLO] at f17 ⊢
  clear hHI hLO hx0 hx1 hy0 hy1
  go_enter Try.func76, Try.ntmps76
  go_wp2
  go_ret2
  exact ⟨rfl, rfl⟩
theorem mul_v (x y H L : Int) (w : World) (hx0 : 0 ≤ x) (hx1 : x < 18446744073709551616) (hy0 : 0 ≤ y) (hy1 : y < 18446744073709551616) (hH : Hid (x * y / 18446744073709551616 = H)) (hL : Hid (x * y % 18446744073709551616 = L)) :
    Calls Try.prog 76 #[.int .u64 x, .int .u64 y] w (fun e w' => e = .returned (.tuple #[.int .u64 H, .int .u64 L]) ∧ w = w') := by
  refine (mul_c x y w hx0 hx1 hy0 hy1).mono fun e w' h => ?_
  rw [hH.out, hL.out] at h
  exact h
theorem nan_c (x : Int) (w : World) : Calls Try.prog 87 #[.int .u64 x] w fun e w' => e = .returned (.bool false) ∧ w = w' := by
  go_enter Try.func87, Try.ntmps87
  go_wp2
  go_ret
  exact ⟨rfl, rfl⟩
theorem cmp_c (x y : Int) (w : World) : Calls Try.prog 82 #[.int .u64 x, .int .u64 y] w fun e w' => e = .returned (.int .i64 (cmpP x y)) ∧ w = w' := by
  rcases Int.lt_trichotomy x y with h | h | h
  · have e : Hid (cmpP x y = -1) := by show _ = _; unfold cmpP; rw [if_pos h]
    go_enter Try.func82, Try.ntmps82
    go_wp2_with (go_at_call 87; refine (nan_c _ _).mono ?_; rintro e w' ⟨rfl, rfl⟩)
    go_ret
    exact ⟨ret_int e.out.symm, rfl⟩
  · subst h
    have e : Hid (cmpP x x = 0) := by show _ = _; unfold cmpP; rw [if_neg (by omega), if_neg (by omega)]
    have h1 : ¬ x < x := by omega
    go_enter Try.func82, Try.ntmps82
    go_wp2_with (go_at_call 87; refine (nan_c _ _).mono ?_; rintro e w' ⟨rfl, rfl⟩)
    go_ret
    exact ⟨ret_int e.out.symm, rfl⟩
  · have e : Hid (cmpP x y = 1) := by show _ = _; unfold cmpP; rw [if_neg (by omega), if_pos h]
    have h1 : ¬ x < y := by omega
    go_enter Try.func82, Try.ntmps82
    go_wp2_with (go_at_call 87; refine (nan_c _ _).mono ?_; rintro e w' ⟨rfl, rfl⟩)
    go_ret
    exact ⟨ret_int e.out.symm, rfl⟩
theorem or_c (A : Option Addr) (n c B : Nat) (zs : List Int) (w : World) (h : Mem.Ints w B .i64 A n zs) (hn : n ≤ 9223372036854775807) :
    Calls Try.prog 81 #[.slice A n c] w fun e w' => e = .returned (.int .i64 ((zs.find? (· != 0)).getD 0)) ∧ w = w' := by
  have hln := Lib.hid h.len
  go_enter Try.func81, Try.ntmps81
  go_wp2
  go_loop [8] (fun vi => ∃ k : Nat, k ≤ n ∧ vi = .int .i64 k ∧ Hid ((zs.take k).find? (· != 0) = none)) (fun i => n - (intOf i).toNat)
  case atStart => exact ⟨0, Nat.zero_le _, rfl, rfl⟩
  case round =>
    obtain ⟨k, hk, rfl, hz⟩ := hrel
    by_cases hlt : k < n
    · obtain ⟨ad, z, hl, rfl, _, he, hc⟩ := h.at_ hlt
      have HS : Hid ((zs.take (k + 1)).find? (· != 0) = if z != 0 then some z else none) := by
        show _ = _
        rw [Mem.take_snoc _ _ hl, List.find?_append, hz.out, he]
        cases hz0 : (z != 0) <;> simp [hz0]
      have HA : Hid (zs.find? (· != 0) = ((zs.take (k + 1)).find? (· != 0)).or ((zs.drop (k + 1)).find? (· != 0))) := by
        show _ = _
        rw [← List.find?_append, List.take_append_drop]
      clear he
      by_cases hz0 : z = 0
      · subst hz0
        go_wp2
        go_round
        case rel => exact ⟨k + 1, by omega, by go_num, by show _ = _; rw [HS.out]; rfl⟩
        case measure => simp [intOf]; omega
      · have hb : (z != 0) = true := by simp [hz0]
        clear hz0
        go_wp2
        go_ret
        exact ⟨ret_int (by rw [HA.out, HS.out, hb]; rfl), rfl⟩
    · obtain rfl : k = n := by omega
      have e : Hid (zs.find? (· != 0) = none) := by
        have := hz.out
        rw [List.take_of_length_le (by have := hln.out; omega)] at this
        exact this
      go_wp2
      go_ret
      exact ⟨ret_int (by rw [e.out]; rfl), rfl⟩
theorem or_two (u v : Int) : (([u, v].find? (· != 0)).getD 0) = if u ≠ 0 then u else v := by
  by_cases hu : u = 0
  · subst hu
    by_cases hv : v = 0
    · subst hv; rfl
    · have : (v != 0) = true := by simp [hv]
      simp [List.find?, this]
  · have : (u != 0) = true := by simp [hu]
    simp [List.find?, this, hu]
/-- the answer of a comparison -/
def CmpSaid (a b c d : Int) (W : World) (e : Ending) (w' : World) : Prop := e = .returned (.int .i64 (compare a b c d)) ∧ Below W.heap.size W w'
theorem compare_c (a b c d : Int) (w : World) (ha : a ≤ 9223372036854775807) (hb : b ≤ 9223372036854775807) (hc : c ≤ 9223372036854775807) (hd : d ≤ 9223372036854775807) :
    Calls Try.prog 75 #[.int .i64 a, .int .i64 b, .int .i64 c, .int .i64 d] w (CmpSaid a b c d w) := by
  have a0 := num_nonneg a; have a1 := num_le a ha
  have b0 := num_nonneg b; have b1 := num_le b hb
  have c0 := num_nonneg c; have c1 := num_le c hc
  have d0 := num_nonneg d; have d1 := num_le d hd
  have hlex := lex (Int.mul_nonneg a0 b0) (Int.mul_nonneg c0 d0)
  obtain ⟨H, hH⟩ : ∃ H, num a * num b / 18446744073709551616 = H := ⟨_, rfl⟩
  obtain ⟨L, hL⟩ : ∃ H, num a * num b % 18446744073709551616 = H := ⟨_, rfl⟩
  obtain ⟨H2, hH2⟩ : ∃ H, num c * num d / 18446744073709551616 = H := ⟨_, rfl⟩
  obtain ⟨L2, hL2⟩ : ∃ H, num c * num d % 18446744073709551616 = H := ⟨_, rfl⟩
  rw [hH, hL, hH2, hL2] at hlex
  have Hlex : Hid (compare a b c d = if cmpP H H2 ≠ 0 then cmpP H H2 else cmpP L L2) := hlex
  have hH := Lib.hid hH
  have hL := Lib.hid hL
  have hH2 := Lib.hid hH2
  have hL2 := Lib.hid hL2
  clear hlex
  go_enter Try.func75, Try.ntmps75
  go_wp2_with (go_at_call 77; refine (word_c _ _ (by omega)).mono ?_; rintro e w' ⟨rfl, rfl⟩)
  refine (mul_v _ _ H L _ a0 (by omega) b0 (by omega) hH hL).mono ?_
  rintro e w' ⟨rfl, rfl⟩
  go_wp2_with (go_at_call 77; refine (word_c _ _ (by omega)).mono ?_; rintro e w' ⟨rfl, rfl⟩)
  refine (mul_v _ _ H2 L2 _ c0 (by omega) d0 (by omega) hH2 hL2).mono ?_
  rintro e w' ⟨rfl, rfl⟩
  clear a0 a1 b0 b1 c0 c1 d0 d1 hH hL hH2 hL2
  go_wp2_with (go_at_call 82; refine (cmp_c _ _ _).mono ?_; rintro e w' ⟨rfl, rfl⟩)
  refine (or_c _ 2 2 (w.heap.size + 1) [cmpP H H2, cmpP L L2] _ ?lit (by decide)).mono ?_
  · exact Mem.new_sl (n := 2) rfl rfl rfl
  rw [or_two, ← Hlex.out]
  rintro e w' ⟨rfl, rfl⟩
  go_wp2
  go_ret
  exact ⟨rfl, (Below.refl _ _).alloc (Nat.le_refl _) _⟩
theorem product_c (a b : Int) (w : World) (ha : a ≤ 9223372036854775807) (hb : b ≤ 9223372036854775807) :
    Calls Try.prog 79 #[.int .i64 a, .int .i64 b] w (Two (num a * num b / 18446744073709551616) (num a * num b % 18446744073709551616) w) := by
  have a0 := num_nonneg a; have a1 := num_le a ha
  have b0 := num_nonneg b; have b1 := num_le b hb
  obtain ⟨X0, X1, Y0, Y1, P1, P2, Mm, L, Mr, Ms, Low, P3, Mq, Hh, H1, f1, f2, f3, f4, f5, f6, f7, f8, f9, f10, f11, f12, f13, f14, f15, h1, h2, h3, h4, h5⟩ := prod_facts (num a) (num b) a0 (by omega) b0 (by omega)
  rw [← h1]
  generalize num a * num b / 18446744073709551616 = HI at *
  have H2 := Lib.hid h2
  have H3 := Lib.hid h3
  clear h1 h2 h3
  rcases Int.lt_or_le Low L with hlt | hle
  · obtain rfl := H2.out hlt
    clear H2 H3
    go_enter Try.func79, Try.ntmps79
    go_wp2_with (go_at_call 84; refine (rnum_c _ _ (by omega)).mono ?_; rintro e w' ⟨rfl, rfl⟩)
    go_ret2
    exact ⟨rfl, rfl⟩
  · obtain rfl := H3.out hle
    clear H2 H3 f15
    go_enter Try.func79, Try.ntmps79
    go_wp2_with (go_at_call 84; refine (rnum_c _ _ (by omega)).mono ?_; rintro e w' ⟨rfl, rfl⟩)
    go_ret2
    exact ⟨rfl, rfl⟩
theorem rcompare_c (a b c d : Int) (w : World) (ha : a ≤ 9223372036854775807) (hb : b ≤ 9223372036854775807) (hc : c ≤ 9223372036854775807) (hd : d ≤ 9223372036854775807) :
    Calls Try.prog 72 #[.int .i64 a, .int .i64 b, .int .i64 c, .int .i64 d] w fun e w' => e = .returned (.int .i64 (compare a b c d)) ∧ w = w' := by
  have hlex := lex (Int.mul_nonneg (num_nonneg a) (num_nonneg b)) (Int.mul_nonneg (num_nonneg c) (num_nonneg d))
  have h1 := product_c a b w ha hb
  have h2 := product_c c d w hc hd
  obtain ⟨H, hH⟩ : ∃ H, H = num a * num b / 18446744073709551616 := ⟨_, rfl⟩
  obtain ⟨L, hL⟩ : ∃ H, H = num a * num b % 18446744073709551616 := ⟨_, rfl⟩
  obtain ⟨H2, hH2⟩ : ∃ H, H = num c * num d / 18446744073709551616 := ⟨_, rfl⟩
  obtain ⟨L2, hL2⟩ : ∃ H, H = num c * num d % 18446744073709551616 := ⟨_, rfl⟩
  rw [← hH, ← hL, ← hH2, ← hL2] at hlex
  rw [← hH, ← hL] at h1
  rw [← hH2, ← hL2] at h2
  have Hlex : Hid (compare a b c d = if cmpP H H2 ≠ 0 then cmpP H H2 else cmpP L L2) := hlex
  have K1 := Lib.hid h1
  have K2 := Lib.hid h2
  clear hlex hH hL hH2 hL2 h1 h2
  have fin : ∀ r : Int, (H < H2 ∧ r = -1 ∨ H2 < H ∧ r = 1 ∨ H = H2 ∧ (L < L2 ∧ r = -1 ∨ L2 < L ∧ r = 1 ∨ L = L2 ∧ r = 0)) → r = compare a b c d := by
    intro r hr
    rw [Hlex.out]
    unfold cmpP
    (repeat' split) <;> omega
  have Fin := Lib.hid fin
  clear fin Hlex
  go_enter Try.func72, Try.ntmps72
  go_wp2_with fail
  refine K1.out.mono ?_
  rintro e w' ⟨rfl, rfl⟩
  go_wp2_with fail
  refine K2.out.mono ?_
  rintro e w' ⟨rfl, rfl⟩
  clear K1 K2
  rcases Int.lt_trichotomy H H2 with h | h | h
  · go_wp2
    go_ret
    exact ⟨ret_int (Fin.out _ (.inl ⟨h, rfl⟩)), rfl⟩
  · subst h
    have hh : ¬ H < H := by omega
    rcases Int.lt_trichotomy L L2 with h2 | h2 | h2
    · go_wp2
      go_ret
      exact ⟨ret_int (Fin.out _ (.inr (.inr ⟨by trivial, .inl ⟨h2, rfl⟩⟩))), rfl⟩
    · subst h2
      have hh : ¬ L < L := by omega
      go_wp2
      go_ret
      exact ⟨ret_int (Fin.out _ (.inr (.inr ⟨by trivial, .inr (.inr ⟨by trivial, rfl⟩)⟩))), rfl⟩
    · have hn : ¬ L < L2 := by omega
      go_wp2
      go_ret
      exact ⟨ret_int (Fin.out _ (.inr (.inr ⟨by trivial, .inr (.inl ⟨h2, rfl⟩)⟩))), rfl⟩
  · have hn : ¬ H < H2 := by omega
    have he : (H == H2) = false := by simp; omega
    go_wp2
    go_ret
    exact ⟨ret_int (Fin.out _ (.inr (.inl ⟨h, rfl⟩))), rfl⟩
theorem below_c (a b c : Int) (w : World) (ha : a ≤ 9223372036854775807) (hb : b ≤ 9223372036854775807) (hc : c ≤ 9223372036854775807) :
    Calls Try.prog 69 #[.int .i64 a, .int .i64 b, .int .i64 c] w fun e w' => e = .returned (.bool (below a b c)) ∧ Below w.heap.size w w' := by
  go_enter Try.func69, Try.ntmps69
  go_wp2_with fail
  refine (compare_c a 100 b c w ha (by decide) hb hc).mono ?_
  rintro e w' ⟨rfl, hb⟩
  go_wp2
  go_ret
  exact ⟨rfl, hb⟩
end Wide
end Go.Proofs.Ytjfbnobijlkicaa
