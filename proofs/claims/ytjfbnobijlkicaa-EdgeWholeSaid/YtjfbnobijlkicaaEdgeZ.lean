/- The plain law of layer 3 (edge): whole numbers as float64s, with a part of one, below 0. No Go in sight. -/
import Derived.Test.YtjfbnobijlkicaaEdgeF
namespace Go.Proofs.Ytjfbnobijlkicaa
open Go.RowKit
namespace Fl
theorem whole_form {n : Nat} (h0 : 0 < n) (h : n < 9007199254740992) : ∃ q : Nat, q ≤ 52 ∧ 4503599627370496 ≤ n * 2 ^ q ∧ n * 2 ^ q < 9007199254740992 ∧ whole n = ru (n * 2 ^ q) (-(q : Int)) := by
  obtain ⟨q, hq, a, b⟩ := norm h0 h
  refine ⟨q, hq, a, b, ?_⟩
  have := near_down false n q (-(q : Int)) a b (by omega) (by omega)
  rw [show -(q : Int) + q = 0 by omega] at this
  exact this
theorem of_int {n : Nat} : floatOfInt .f64 (n : Int) = whole n := by
  unfold floatOfInt whole FloatKind.encode FloatKind.nearest FloatKind.encode
  congr 1
theorem read_whole {n : Nat} (h : n < 9007199254740992) : ∃ x : Nat, x ≤ 1074 ∧ FloatKind.f64.format.read (whole n) = .number false (n * 2 ^ x) (-(x : Int)) := by
  rcases Nat.eq_zero_or_pos n with rfl | h0
  · obtain ⟨x, hx⟩ : ∃ x : Nat, x = 1074 := ⟨_, rfl⟩
    refine ⟨x, by omega, ?_⟩
    rw [whole_zero, read_zero, Nat.zero_mul, hx]
    rfl
  · obtain ⟨q, hq, a, b, e⟩ := whole_form h0 h
    refine ⟨q, by omega, ?_⟩
    rw [e]
    exact read_ru false _ _ a b (by omega) (by omega)
theorem ru_pos {m : Nat} {p : Int} (h1 : 4503599627370496 ≤ m) : 0 < ru m p := by unfold ru; omega
/-- of a rung above 0: its kind; what is read -/
theorem rd_ru {m : Nat} {p : Int} (h1 : 4503599627370496 ≤ m) (h2 : m < 9007199254740992) (h4 : p ≤ 900) (h : fl (ru m p) < 9223372036854775808) : kd (ru m p) ≠ 1 ∧ rdv (ru m p) = fl (ru m p) ∧ ru m p < 18446744073709551616 := by
  have hl := ru_lt h2 h4
  have hp := ru_pos (p := p) h1
  have hr : rg (ru m p) = ru m p := by unfold rg; omega
  have hs : sg (ru m p) = false := by unfold sg; exact decide_eq_false (by omega)
  have hk : kd (ru m p) = 6 := by
    unfold kd
    rw [hr, hs, if_neg (by omega), if_neg (by omega), if_neg (by omega)]
    rfl
  have hm : ¬ 4890909195324358656 ≤ ru m p := by
    intro hc
    have h1 := fl_mono hc
    have h2 : fl 4890909195324358656 = 9223372036854775808 := by
      rw [fl_high (by decide)]
    omega
  refine ⟨by omega, ?_, by omega⟩
  unfold rdv
  rw [hk, if_neg (by omega), hr, if_neg hm]
theorem kd_zero : kd 0 = 5 := by decide
theorem rdv_zero : rdv 0 = 0 := by unfold rdv; rw [kd_zero]; rfl
theorem rd_whole {n : Nat} (h : n < 9007199254740992) : kd (whole n) ≠ 1 ∧ rdv (whole n) = n ∧ whole n < 18446744073709551616 := by
  rcases Nat.eq_zero_or_pos n with rfl | h0
  · rw [whole_zero, kd_zero, rdv_zero]; exact ⟨by omega, rfl, by omega⟩
  · obtain ⟨q, hq, a, b, e⟩ := whole_form h0 h
    have hf : fl (ru (n * 2 ^ q) (-(q : Int))) = n := by
      rw [fl_ru a b (by omega)]
      split
      · rw [show (- -(q : Int)).toNat = q by omega, Nat.mul_div_cancel _ (Nat.two_pow_pos q)]
      · obtain rfl : q = 0 := by omega
        simp
    have := rd_ru a b (p := -(q : Int)) (by omega) (by rw [hf]; omega)
    rw [e]
    rw [hf] at this
    exact this
/-- below 0 -/
theorem rd_neg {r : Nat} (h : r ≤ 9218868437227405312) : kd (wd true r) ≠ 1 ∧ rdv (wd true r) = 0 ∧ wd true r < 18446744073709551616 := by
  have hr := wd_rg (s := true) h
  have hs := wd_sg (s := true) h
  have hk : kd (wd true r) ≠ 1 ∧ kd (wd true r) ≤ 5 := by
    unfold kd
    rw [hr, hs, if_neg (by omega)]
    simp only [if_true]
    (repeat' split) <;> omega
  refine ⟨hk.1, ?_, wd_lt h⟩
  unfold rdv
  rw [if_pos hk.2]
theorem near_neg (m : Nat) (p : Int) (hm : 0 < m) : ∃ r, r ≤ 9218868437227405312 ∧ FloatKind.f64.format.nearest true m p = wd true r := by
  unfold Ieee.Format.nearest
  rw [if_neg (by omega), word_eq, inf]
  exact ⟨_, Nat.min_le_right _ _, rfl⟩
theorem read_half : FloatKind.f64.format.read 4602678819172646912 = .number false 4503599627370496 (-53) := by decide
theorem sub_half {x m : Nat} {i : Int} (hx : FloatKind.f64.format.read x = .number true m i) : ∃ r, r ≤ 9218868437227405312 ∧ floatBits .sub .f64 x 4602678819172646912 = some (wd true r) := by
  have key : ∃ t p, 0 < t ∧ Ieee.Datum.sum (.number true m i) (.number true 4503599627370496 (-53)) = some (.number true t p) := by
    unfold Ieee.Datum.sum
    dsimp only
    rw [signed_eq, signed_eq]
    have hp := Nat.two_pow_pos ((-53 : Int) - min i (-53)).toNat
    generalize 2 ^ ((-53 : Int) - min i (-53)).toNat = c at *
    generalize 2 ^ (i - min i (-53)).toNat = d at *
    have hc : 0 < 4503599627370496 * c := by omega
    generalize m * d = y at *
    generalize 4503599627370496 * c = z at *
    have ht : (if true = true then (-1 : Int) else 1) * ((y : Nat) : Int) + (if true = true then (-1 : Int) else 1) * ((z : Nat) : Int) = -((y + z : Nat) : Int) := by simp; omega
    rw [ht, if_neg (by omega)]
    refine ⟨_, _, ?_, by rw [decide_eq_true (by omega)]⟩
    omega
  obtain ⟨t, p, ht, e⟩ := key
  obtain ⟨r, hr, e2⟩ := near_neg t p ht
  refine ⟨r, hr, ?_⟩
  show Ieee.Format.sub _ _ _ = _
  unfold Ieee.Format.sub
  rw [hx, read_half]
  show ((Ieee.Datum.sum (.number true m i) (.number true 4503599627370496 (-53))).map FloatKind.f64.format.write) = _
  rw [e, ← e2]
  rfl
theorem read_ng_whole {n : Nat} (h : n < 9007199254740992) : ∃ m i, FloatKind.f64.format.read (ng (whole n)) = .number true m i := by
  rcases Nat.eq_zero_or_pos n with rfl | h0
  · exact ⟨0, -1074, by rw [whole_zero]; decide⟩
  · obtain ⟨q, hq, a, b, e⟩ := whole_form h0 h
    have hl := ru_lt (p := -(q : Int)) b (by omega)
    refine ⟨n * 2 ^ q, -(q : Int), ?_⟩
    rw [e, ng_val (by omega), if_neg (by omega)]
    have : ru (n * 2 ^ q) (-(q : Int)) + 9223372036854775808 = wd true (ru (n * 2 ^ q) (-(q : Int))) := by unfold wd; simp; omega
    rw [this]
    exact read_ru true _ _ a b (by omega) (by omega)
/-- a whole number's 65536th part -/
theorem read_part : FloatKind.f64.format.read 4679240012837945344 = .number false 4503599627370496 (-36) := by decide
theorem log_zero : Nat.log2 0 = 0 := by decide
theorem div_part {n : Nat} (h : n < 65536) : ∃ q y : Nat, y ≤ 1058 ∧ floatBits .quo .f64 (whole n) 4679240012837945344 = some q ∧ FloatKind.f64.format.read q = .number false (n * 2 ^ y) (-16 - (y : Int)) := by
  rcases Nat.eq_zero_or_pos n with rfl | h0
  · obtain ⟨y, hy⟩ : ∃ y : Nat, y = 1058 := ⟨_, rfl⟩
    refine ⟨0, y, by omega, ?_, ?_⟩
    · show Ieee.Format.div _ _ _ = _
      unfold Ieee.Format.div
      rw [whole_zero, read_zero, read_part]
      unfold Ieee.Datum.quotient
      dsimp only
      rw [if_neg (by decide), Nat.zero_shiftLeft]
      simp only [Nat.zero_div, Nat.zero_mod, Nat.mul_zero]
      rfl
    · rw [read_zero, Nat.zero_mul, hy]; rfl
  · obtain ⟨q, hq, a, b, e⟩ := whole_form h0 (by omega)
    refine ⟨wd false (ru (n * 2 ^ q) (-16 - (q : Int))), q, by omega, ?_, read_ru false _ _ a b (by omega) (by omega)⟩
    show Ieee.Format.div _ _ _ = _
    unfold Ieee.Format.div
    have hr : FloatKind.f64.format.read (whole n) = .number false (n * 2 ^ q) (-(q : Int)) := by rw [e]; exact read_ru false _ _ a b (by omega) (by omega)
    rw [hr, read_part, frac]
    generalize n * 2 ^ q = M at *
    have hl : M.log2 = 52 := l2 a b
    have hl2 : Nat.log2 4503599627370496 = 52 := l2 (by decide) (by decide)
    unfold Ieee.Datum.quotient
    dsimp only
    rw [if_neg (by decide), hl, hl2, Nat.shiftLeft_eq]
    have hd : M * 2 ^ (52 + 2 + 52 - 52) / 4503599627370496 = M * 4 := by
      rw [show (2 : Nat) ^ (52 + 2 + 52 - 52) = 4 * 4503599627370496 by decide, ← Nat.mul_assoc, Nat.mul_div_cancel _ (by decide)]
    have hm : M * 2 ^ (52 + 2 + 52 - 52) % 4503599627370496 = 0 := by
      rw [show (2 : Nat) ^ (52 + 2 + 52 - 52) = 4 * 4503599627370496 by decide, ← Nat.mul_assoc, Nat.mul_mod_left]
    rw [hd, hm]
    have h8 : 2 * (M * 4) + ((0 : Nat) != 0).toNat = M * 2 ^ 3 := by
      have : ((0 : Nat) != 0).toNat = 0 := by decide
      rw [this]; omega
    rw [h8]
    have := near_up false M 3 (-16 - (q : Int)) a b (by omega) (by omega)
    rw [← this]
    show some (FloatKind.f64.format.nearest (false ^^ false) _ _) = _
    congr 2
    omega
/-- a whole number and a part of one -/
theorem add_part {m n : Nat} (hm : m < 68719476736) (hn : n < 65536) {x q y : Nat} (hx : x ≤ 1074) (hy : y ≤ 1058) (h1 : FloatKind.f64.format.read (whole m) = .number false (m * 2 ^ x) (-(x : Int))) (h2 : FloatKind.f64.format.read q = .number false (n * 2 ^ y) (-16 - (y : Int))) :
    ∃ s, floatBits .add .f64 (whole m) q = some s ∧ kd s ≠ 1 ∧ rdv s = m ∧ s < 18446744073709551616 := by
  obtain ⟨B, hB⟩ : ∃ B : Nat, B = max x (y + 16) := ⟨_, rfl⟩
  have hsum : Ieee.Datum.sum (.number false (m * 2 ^ x) (-(x : Int))) (.number false (n * 2 ^ y) (-16 - (y : Int))) = some (.number false ((m * 65536 + n) * 2 ^ (B - 16)) (-(B : Int))) := by
    unfold Ieee.Datum.sum
    dsimp only
    have hb : min (-(x : Int)) (-16 - (y : Int)) = -(B : Int) := by omega
    rw [hb, signed_eq, signed_eq]
    rw [show (-(x : Int) - -(B : Int)).toNat = B - x by omega, show (-16 - (y : Int) - -(B : Int)).toNat = B - 16 - y by omega]
    have e1 : m * 2 ^ x * 2 ^ (B - x) = m * 65536 * 2 ^ (B - 16) := by
      rw [Nat.mul_assoc, ← Nat.pow_add, show x + (B - x) = 16 + (B - 16) by omega, Nat.pow_add, ← Nat.mul_assoc]
    have e2 : n * 2 ^ y * 2 ^ (B - 16 - y) = n * 2 ^ (B - 16) := by
      rw [Nat.mul_assoc, ← Nat.pow_add, show y + (B - 16 - y) = B - 16 by omega]
    rw [e1, e2, Nat.add_mul]
    generalize m * 65536 * 2 ^ (B - 16) = u
    generalize n * 2 ^ (B - 16) = v
    have ht : (if false = true then (-1 : Int) else 1) * ((u : Nat) : Int) + (if false = true then (-1 : Int) else 1) * ((v : Nat) : Int) = ((u + v : Nat) : Int) := by simp
    rw [ht]
    congr 2
    by_cases hz : ((u + v : Nat) : Int) = 0
    · rw [if_pos hz]; rfl
    · rw [if_neg hz]; exact decide_eq_false (by omega)
  have hadd : floatBits .add .f64 (whole m) q = some (FloatKind.f64.format.nearest false ((m * 65536 + n) * 2 ^ (B - 16)) (-(B : Int))) := by
    show Ieee.Format.add _ _ _ = _
    unfold Ieee.Format.add
    rw [h1, h2, hsum]
    rfl
  refine ⟨_, hadd, ?_⟩
  clear hadd hsum h1 h2
  obtain ⟨T, hT⟩ : ∃ T, T = m * 65536 + n := ⟨_, rfl⟩
  rw [← hT]
  rcases Nat.eq_zero_or_pos T with h0 | h0
  · have : FloatKind.f64.format.nearest false (T * 2 ^ (B - 16)) (-(B : Int)) = 0 := by
      rw [h0, Nat.zero_mul]
      unfold Ieee.Format.nearest
      rw [if_pos rfl]
      rfl
    rw [this, kd_zero, rdv_zero]
    exact ⟨by omega, by omega, by omega⟩
  · obtain ⟨k, hk, a, b⟩ := norm h0 (by omega)
    have hnear : FloatKind.f64.format.nearest false (T * 2 ^ (B - 16)) (-(B : Int)) = ru (T * 2 ^ k) (-16 - (k : Int)) := by
      by_cases hc : k ≤ B - 16
      · have := near_up false (T * 2 ^ k) (B - 16 - k) (-16 - (k : Int)) a b (by omega) (by omega)
        rw [Nat.mul_assoc, ← Nat.pow_add, show k + (B - 16 - k) = B - 16 by omega, show -16 - (k : Int) - ((B - 16 - k : Nat) : Int) = -(B : Int) by omega] at this
        exact this
      · have e : T * 2 ^ (B - 16) * 2 ^ (k - (B - 16)) = T * 2 ^ k := by
          rw [Nat.mul_assoc, ← Nat.pow_add, show B - 16 + (k - (B - 16)) = k by omega]
        have := near_down false (T * 2 ^ (B - 16)) (k - (B - 16)) (-16 - (k : Int)) (by rw [e]; exact a) (by rw [e]; exact b) (by omega) (by omega)
        rw [e, show -16 - (k : Int) + ((k - (B - 16) : Nat) : Int) = -(B : Int) by omega] at this
        exact this
    have hf : fl (ru (T * 2 ^ k) (-16 - (k : Int))) = m := by
      rw [fl_ru a b (by omega), if_pos (by omega), show (-(-16 - (k : Int))).toNat = k + 16 by omega, Nat.pow_add, ← Nat.div_div_eq_div_mul, Nat.mul_div_cancel _ (Nat.two_pow_pos k)]
      omega
    have := rd_ru a b (p := -16 - (k : Int)) (by omega) (by rw [hf]; omega)
    rw [hf] at this
    rw [hnear]
    exact this
end Fl
end Go.Proofs.Ytjfbnobijlkicaa
