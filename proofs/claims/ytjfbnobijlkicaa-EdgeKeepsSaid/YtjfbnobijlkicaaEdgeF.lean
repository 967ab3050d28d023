/- The plain law of layer 3 (edge): what is read of a float64; whole numbers stand exactly. No Go in sight. -/
import Derived.Test.YtjfbnobijlkicaaEdgeM
namespace Go.Proofs.Ytjfbnobijlkicaa
open Go.RowKit
namespace Fl
theorem l2 {n k : Nat} (h1 : 2 ^ k ≤ n) (h2 : n < 2 ^ (k + 1)) : n.log2 = k := by
  have hp := Nat.two_pow_pos k
  have h0 : n ≠ 0 := by omega
  have a := (Nat.log2_lt h0).2 h2
  have b := (Nat.le_log2 h0).2 h1
  omega
theorem cut_none (way : Ieee.Toward) (s : Bool) (n : Nat) : way.cut s n 0 = n := by
  unfold Ieee.Toward.cut
  simp only [Nat.zero_min, Nat.shiftLeft_zero, Nat.div_one, Nat.mod_one]
  cases way <;> cases s <;> simp
theorem cut_exact (way : Ieee.Toward) (s : Bool) (m c : Nat) (hm : 0 < m) : way.cut s (m * 2 ^ c) c = m := by
  unfold Ieee.Toward.cut
  have hp := Nat.two_pow_pos c
  have h0 : m * 2 ^ c ≠ 0 := Nat.mul_ne_zero (by omega) (by omega)
  have hl : c ≤ (m * 2 ^ c).log2 := (Nat.le_log2 h0).2 (Nat.le_mul_of_pos_left _ hm)
  rw [Nat.min_eq_left (by omega)]
  simp only [Nat.one_shiftLeft, Nat.mul_div_cancel _ hp, Nat.mul_mod_left, Nat.mul_zero]
  cases way
  · have h1 : decide (2 ^ c < 0) = false := decide_eq_false (by omega)
    have h2 : (2 ^ c == 0) = false := by rw [beq_eq_false_iff_ne]; omega
    simp only [h1, h2, Bool.false_and, Bool.or_false]; rfl
  all_goals cases s <;> simp
theorem div_min (n d : Nat) : n / 2 ^ min d (n.log2 + 2) = n / 2 ^ d := by
  by_cases h : d ≤ n.log2 + 2
  · rw [Nat.min_eq_left h]
  · rw [Nat.min_eq_right (by omega)]
    have h1 : n < 2 ^ (n.log2 + 1) := Nat.lt_log2_self
    have h2 : 2 ^ (n.log2 + 1) ≤ 2 ^ (n.log2 + 2) := Nat.pow_le_pow_right (by omega) (by omega)
    have h3 : 2 ^ (n.log2 + 2) ≤ 2 ^ d := Nat.pow_le_pow_right (by omega) (by omega)
    rw [Nat.div_eq_of_lt (by omega), Nat.div_eq_of_lt (by omega)]
theorem cut_down (n d : Nat) : Ieee.Toward.down.cut false n d = n / 2 ^ d := by
  unfold Ieee.Toward.cut
  simp only [Nat.one_shiftLeft, Bool.false_and, Bool.toNat_false, Nat.add_zero]
  exact div_min n d
theorem cut_zero (n d : Nat) : Ieee.Toward.zero.cut false n d = n / 2 ^ d := by
  unfold Ieee.Toward.cut
  simp only [Nat.one_shiftLeft, Bool.toNat_false, Nat.add_zero]
  exact div_min n d
theorem frac : FloatKind.f64.format.fractionBits = 52 := rfl
theorem bin : FloatKind.f64.format.binade = 4503599627370496 := by decide
theorem inf : FloatKind.f64.format.infRung = 9218868437227405312 := by decide
theorem least : FloatKind.f64.format.leastPlace = -1074 := by decide
theorem sign : FloatKind.f64.format.signWeight = 9223372036854775808 := by decide
/-- the word of a sign and a rung -/
def wd (s : Bool) (r : Nat) : Nat := if s then 9223372036854775808 + r else r
theorem word_eq (s : Bool) (r : Nat) : FloatKind.f64.format.word s r = wd s r := by unfold Ieee.Format.word wd; rw [sign]
theorem wd_lt {s : Bool} {r : Nat} (h : r ≤ 9218868437227405312) : wd s r < 18446744073709551616 := by unfold wd; split <;> omega
theorem wd_rg {s : Bool} {r : Nat} (h : r ≤ 9218868437227405312) : rg (wd s r) = r := by unfold wd rg; split <;> omega
theorem wd_sg {s : Bool} {r : Nat} (h : r ≤ 9218868437227405312) : sg (wd s r) = s := by
  unfold wd sg
  cases s
  · simp only [Bool.false_eq_true, if_false]; exact decide_eq_false (by omega)
  · simp only [if_true]; exact decide_eq_true (by omega)
/-- the rung of a significand of 53 digits at a place -/
def ru (m : Nat) (p : Int) : Nat := (p + 1074).toNat * 4503599627370496 + m
theorem near_up (s : Bool) (m c : Nat) (p : Int) (h1 : 4503599627370496 ≤ m) (h2 : m < 9007199254740992) (h3 : -1074 ≤ p) (h4 : p ≤ 900) : FloatKind.f64.format.nearest s (m * 2 ^ c) (p - c) = wd s (ru m p) := by
  have hp := Nat.two_pow_pos c
  unfold Ieee.Format.nearest
  rw [if_neg (Nat.mul_ne_zero (by omega) (by omega)), word_eq, frac, bin, inf, least]
  have hl : (m * 2 ^ c).log2 = 52 + c := by
    apply l2
    · rw [Nat.pow_add]; exact Nat.mul_le_mul_right _ h1
    · rw [show 52 + c + 1 = 53 + c by omega, Nat.pow_add]; exact Nat.mul_lt_mul_of_pos_right h2 hp
  rw [hl]
  have e1 : max (p - (c : Int) + ((52 + c : Nat) : Int) - ((52 : Nat) : Int)) (-1074) = p := by omega
  rw [e1, show (p - (c : Int) - p).toNat = 0 by omega, show (p - (p - (c : Int))).toNat = c by omega, Nat.shiftLeft_zero, cut_exact _ _ _ _ (by omega)]
  congr 1
  unfold ru
  rw [show (p - -1074).toNat = (p + 1074).toNat by omega]
  omega
theorem near_down (s : Bool) (n c : Nat) (p : Int) (h1 : 4503599627370496 ≤ n * 2 ^ c) (h2 : n * 2 ^ c < 9007199254740992) (h3 : -1074 ≤ p) (h4 : p ≤ 900) : FloatKind.f64.format.nearest s n (p + c) = wd s (ru (n * 2 ^ c) p) := by
  have hp := Nat.two_pow_pos c
  have h0 : n ≠ 0 := by rintro rfl; omega
  have hc : c ≤ 52 := by
    by_cases hc : c ≤ 52
    · exact hc
    · exfalso
      have : 2 ^ 53 ≤ 2 ^ c := Nat.pow_le_pow_right (by omega) (by omega)
      have : 1 * 2 ^ c ≤ n * 2 ^ c := Nat.mul_le_mul_right _ (by omega)
      omega
  unfold Ieee.Format.nearest
  rw [if_neg h0, word_eq, frac, bin, inf, least]
  have hl : n.log2 = 52 - c := by
    apply l2
    · apply Nat.le_of_mul_le_mul_right _ hp
      rw [← Nat.pow_add, Nat.sub_add_cancel hc]; exact h1
    · apply Nat.lt_of_mul_lt_mul_right (a := 2 ^ c)
      rw [← Nat.pow_add, show 52 - c + 1 + c = 53 by omega]; exact h2
  rw [hl]
  have e1 : max (p + (c : Int) + ((52 - c : Nat) : Int) - ((52 : Nat) : Int)) (-1074) = p := by omega
  rw [e1, show (p + (c : Int) - p).toNat = c by omega, show (p - (p + (c : Int))).toNat = 0 by omega, cut_none, Nat.shiftLeft_eq]
  congr 1
  unfold ru
  rw [show (p - -1074).toNat = (p + 1074).toNat by omega]
  omega
theorem ru_lt {m : Nat} {p : Int} (h2 : m < 9007199254740992) (h4 : p ≤ 900) : ru m p < 9218868437227405312 := by unfold ru; omega
theorem read_ru (s : Bool) (m : Nat) (p : Int) (h1 : 4503599627370496 ≤ m) (h2 : m < 9007199254740992) (h3 : -1074 ≤ p) (h4 : p ≤ 900) : FloatKind.f64.format.read (wd s (ru m p)) = .number s m p := by
  have hr := ru_lt h2 h4
  rw [read_num (wd_lt (Nat.le_of_lt hr)) (by rw [wd_rg (Nat.le_of_lt hr)]; exact hr), wd_rg (Nat.le_of_lt hr), wd_sg (Nat.le_of_lt hr)]
  unfold mag pl
  have hb : ¬ ru m p < 4503599627370496 := by unfold ru; omega
  rw [if_neg hb, if_neg hb]
  congr 1
  · unfold ru; omega
  · unfold ru; omega
/-- 53 digits of a lesser number -/
theorem norm {n : Nat} (h0 : 0 < n) (h : n < 9007199254740992) : ∃ q, q ≤ 52 ∧ 4503599627370496 ≤ n * 2 ^ q ∧ n * 2 ^ q < 9007199254740992 := by
  have hn : n ≠ 0 := by omega
  have hl : n.log2 < 53 := (Nat.log2_lt hn).2 h
  refine ⟨52 - n.log2, by omega, ?_, ?_⟩
  · have := Nat.log2_self_le hn
    calc 4503599627370496 = 2 ^ n.log2 * 2 ^ (52 - n.log2) := by rw [← Nat.pow_add, show n.log2 + (52 - n.log2) = 52 by omega]
      _ ≤ n * 2 ^ (52 - n.log2) := Nat.mul_le_mul_right _ this
  · have : n < 2 ^ (n.log2 + 1) := Nat.lt_log2_self
    calc n * 2 ^ (52 - n.log2) < 2 ^ (n.log2 + 1) * 2 ^ (52 - n.log2) := Nat.mul_lt_mul_of_pos_right this (Nat.two_pow_pos _)
      _ = 9007199254740992 := by rw [← Nat.pow_add, show n.log2 + 1 + (52 - n.log2) = 53 by omega]
/-- what is read of a rung -/
def fl (r : Nat) : Nat := (4503599627370496 + r % 4503599627370496) * 2 ^ (r / 4503599627370496) / 2 ^ 1075
theorem fl_succ (r : Nat) : fl r ≤ fl (r + 1) := by
  unfold fl
  apply Nat.div_le_div_right
  by_cases h2 : r % 4503599627370496 = 4503599627370495
  · have e1 : (r + 1) % 4503599627370496 = 0 := by omega
    have e2 : (r + 1) / 4503599627370496 = r / 4503599627370496 + 1 := by omega
    rw [e1, e2, h2, Nat.pow_succ]
    generalize 2 ^ (r / 4503599627370496) = p at *
    omega
  · have e1 : (r + 1) % 4503599627370496 = r % 4503599627370496 + 1 := by omega
    have e2 : (r + 1) / 4503599627370496 = r / 4503599627370496 := by omega
    rw [e1, e2]
    exact Nat.mul_le_mul_right _ (by omega)
theorem fl_mono {r s : Nat} (h : r ≤ s) : fl r ≤ fl s := by
  induction s with
  | zero => rw [Nat.le_zero.1 h]; exact Nat.le_refl _
  | succ s ih =>
    rcases Nat.eq_or_lt_of_le h with rfl | h
    · exact Nat.le_refl _
    · exact Nat.le_trans (ih (by omega)) (fl_succ s)
theorem pw (c e M : Nat) (h : e ≤ c) : M * 2 ^ e / 2 ^ c = M / 2 ^ (c - e) := by
  have : (2 : Nat) ^ c = 2 ^ (c - e) * 2 ^ e := by rw [← Nat.pow_add, Nat.sub_add_cancel h]
  rw [this, Nat.mul_div_mul_right _ _ (Nat.two_pow_pos e)]
theorem pw2 (c e M : Nat) (h : c ≤ e) : M * 2 ^ e / 2 ^ c = M * 2 ^ (e - c) := by
  have : (2 : Nat) ^ e = 2 ^ (e - c) * 2 ^ c := by rw [← Nat.pow_add, Nat.sub_add_cancel h]
  rw [this, ← Nat.mul_assoc, Nat.mul_div_cancel _ (Nat.two_pow_pos _)]
theorem fl_low {r : Nat} (h : r / 4503599627370496 ≤ 1075) : fl r = (4503599627370496 + r % 4503599627370496) / 2 ^ (1075 - r / 4503599627370496) := pw 1075 _ _ h
theorem fl_high {r : Nat} (h : 1075 ≤ r / 4503599627370496) : fl r = (4503599627370496 + r % 4503599627370496) * 2 ^ (r / 4503599627370496 - 1075) := pw2 1075 _ _ h
theorem fl_nil {r : Nat} (h : r / 4503599627370496 < 1023) : fl r = 0 := by
  rw [fl_low (by omega)]
  apply Nat.div_eq_of_lt
  have : (2 : Nat) ^ 53 ≤ 2 ^ (1075 - r / 4503599627370496) := Nat.pow_le_pow_right (by omega) (by omega)
  exact Nat.lt_of_lt_of_le (show _ < (2 : Nat) ^ 53 by omega) this
theorem fl_lt {r : Nat} (h : r < 4890909195324358656) : fl r < 9223372036854775808 := by
  by_cases h1 : 1075 ≤ r / 4503599627370496
  · rw [fl_high h1]
    have : (2 : Nat) ^ (r / 4503599627370496 - 1075) ≤ 2 ^ 10 := Nat.pow_le_pow_right (by omega) (by omega)
    calc _ ≤ (4503599627370496 + r % 4503599627370496) * 2 ^ 10 := Nat.mul_le_mul_left _ this
      _ < 9223372036854775808 := by omega
  · rw [fl_low (by omega)]
    exact Nat.lt_of_le_of_lt (Nat.div_le_self _ _) (by omega)
/-- of a rung at a place: what is read -/
theorem fl_ru {m : Nat} {p : Int} (h1 : 4503599627370496 ≤ m) (h2 : m < 9007199254740992) (h3 : -1074 ≤ p) : fl (ru m p) = if p < 0 then m / 2 ^ (-p).toNat else m * 2 ^ p.toNat := by
  have e1 : ru m p / 4503599627370496 = (p + 1075).toNat := by unfold ru; omega
  have e2 : 4503599627370496 + ru m p % 4503599627370496 = m := by unfold ru; omega
  split
  · rw [fl_low (by omega), e1, e2, show 1075 - (p + 1075).toNat = (-p).toNat by omega]
  · rw [fl_high (by omega), e1, e2, show (p + 1075).toNat - 1075 = p.toNat by omega]
theorem int_ru (way : Ieee.Toward) (hw : way = .down ∨ way = .zero) {m : Nat} {p : Int} (h1 : 4503599627370496 ≤ m) (h2 : m < 9007199254740992) (h3 : -1074 ≤ p) : Ieee.Datum.integral way (.number false m p) = .number false (fl (ru m p)) 0 := by
  unfold Ieee.Datum.integral
  dsimp only
  congr 1
  rw [fl_ru h1 h2 h3]
  split
  · rw [show p.toNat = 0 by omega, Nat.shiftLeft_zero]
    rcases hw with rfl | rfl
    · exact cut_down _ _
    · exact cut_zero _ _
  · rw [show (-p).toNat = 0 by omega, cut_none, Nat.shiftLeft_eq]
theorem int_zero (way : Ieee.Toward) (s : Bool) (p : Int) (hp : p ≤ 0) : Ieee.Datum.integral way (.number s 0 p) = .number s 0 0 := by
  unfold Ieee.Datum.integral
  dsimp only
  congr 1
  rw [show p.toNat = 0 by omega, Nat.shiftLeft_zero]
  unfold Ieee.Toward.cut
  cases way <;> cases s <;> simp
/-- the word of a whole number that stands exactly -/
def whole (n : Nat) : Nat := FloatKind.f64.encode (.number false n 0)
structure Ex (n : Nat) : Prop where
  z : n = 0 ∨ ∃ m p, 4503599627370496 ≤ m ∧ m < 9007199254740992 ∧ -1074 ≤ p ∧ p ≤ 900 ∧ whole n = ru m p ∧ fl (ru m p) = n
theorem ex_small {n : Nat} (h : n < 9007199254740992) : Ex n := by
  refine ⟨?_⟩
  rcases Nat.eq_zero_or_pos n with h0 | h0
  · exact .inl h0
  · right
    obtain ⟨q, hq, a, b⟩ := norm h0 h
    refine ⟨n * 2 ^ q, -(q : Int), a, b, by omega, by omega, ?_, ?_⟩
    · have := near_down false n q (-(q : Int)) a b (by omega) (by omega)
      rw [show -(q : Int) + q = 0 by omega] at this
      exact this
    · rw [fl_ru a b (by omega)]
      split
      · rw [show (- -(q : Int)).toNat = q by omega, Nat.mul_div_cancel _ (Nat.two_pow_pos q)]
      · obtain rfl : q = 0 := by omega
        simp
theorem ex_big {m p : Nat} (h1 : 4503599627370496 ≤ m) (h2 : m < 9007199254740992) (h4 : p ≤ 900) : Ex (m * 2 ^ p) := by
  refine ⟨.inr ⟨m, p, h1, h2, by omega, by omega, ?_, ?_⟩⟩
  · have := near_up false m p (p : Int) h1 h2 (by omega) (by omega)
    rw [show (p : Int) - p = 0 by omega] at this
    exact this
  · rw [fl_ru h1 h2 (by omega), if_neg (by omega)]
    rfl
theorem whole_zero : whole 0 = 0 := by decide
theorem read_zero : FloatKind.f64.format.read 0 = .number false 0 (-1074) := by decide
theorem ex_fl {r : Nat} (h : r < 4890909195324358656) : Ex (fl r) := by
  by_cases h1 : 1075 ≤ r / 4503599627370496
  · rw [fl_high h1]
    exact ex_big (by omega) (by omega) (by omega)
  · rw [fl_low (by omega)]
    exact ex_small (Nat.lt_of_le_of_lt (Nat.div_le_self _ _) (by omega))
/-- back again -/
theorem back {n : Nat} (h : Ex n) (hn : n < 9223372036854775808) : floatToIntVal .f64 (whole n) .i64 = some (n : Int) := by
  have hmin : IntKind.i64.min = -9223372036854775808 := by decide
  have hmax : IntKind.i64.max = 9223372036854775807 := by decide
  have key : (FloatKind.f64.decode (whole n)).toInt .zero = some (n : Int) := by
    unfold Ieee.Datum.toInt
    rcases h.z with rfl | ⟨m, p, a, b, c, d, e, f⟩
    · rw [whole_zero]
      rw [show FloatKind.f64.decode 0 = .number false 0 (-1074) from read_zero, int_zero _ _ _ (by omega)]
      rfl
    · have hr : FloatKind.f64.decode (whole n) = .number false m p := by
        rw [e]; exact read_ru false m p a b c d
      rw [hr, int_ru _ (.inr rfl) a b c, f]
      dsimp only
      unfold Ieee.signed
      rw [Nat.shiftLeft_zero]
      rfl
  unfold floatToIntVal
  rw [key, hmin, hmax]
  dsimp only
  rw [if_pos (by omega)]
/-- the floor of a number above 0 -/
theorem floor_pos {b : Nat} (hb : b < 9218868437227405312) : FloatKind.f64.encode ((FloatKind.f64.decode b).integral .down) = whole (fl b) := by
  have hr : rg b = b := by unfold rg; omega
  have hs : sg b = false := by unfold sg; exact decide_eq_false (by omega)
  have e : FloatKind.f64.decode b = .number false (mag b) (-1074 + (pl b : Nat)) := by
    have := read_num (b := b) (by omega) (by rw [hr]; exact hb)
    rw [hr, hs] at this
    exact this
  rw [e]
  unfold whole
  congr 1
  unfold mag pl
  by_cases h : b < 4503599627370496
  · rw [if_pos h, if_pos h]
    unfold Ieee.Datum.integral
    dsimp only
    congr 1
    rw [fl_nil (by omega), show ((-1074 + ((0 : Nat) : Int)).toNat) = 0 by omega, Nat.shiftLeft_zero, cut_down]
    apply Nat.div_eq_of_lt
    have : (2 : Nat) ^ 52 ≤ 2 ^ (-(-1074 + ((0 : Nat) : Int))).toNat := Nat.pow_le_pow_right (by omega) (by omega)
    omega
  · rw [if_neg h, if_neg h, int_ru _ (.inl rfl) (by omega) (by omega) (by omega)]
    congr 2
    unfold ru
    omega
/-- what is read of a number -/
def rdv (b : Nat) : Int := if kd b ≤ 5 then 0 else if 4890909195324358656 ≤ rg b then 9223372036854775807 else fl (rg b)
theorem rdv_nonneg (b : Nat) : 0 ≤ rdv b := by unfold rdv; (repeat' split) <;> omega
theorem rdv_le (b : Nat) : rdv b ≤ 9223372036854775807 := by
  unfold rdv
  split
  · omega
  · split
    · omega
    · have := @fl_lt (rg b) (by omega)
      omega
/-- where a number stands, those that are none above all; the noughts apart -/
def rk (b : Nat) : Int := if kd b = 1 then 9223372036854775807 else if sg b then -(rg b : Int) - 1 else rg b
def cmpv (a b : Nat) : Int := if rk a < rk b then -1 else if rk b < rk a then 1 else 0
theorem cmpv_neg (a b : Nat) : cmpv b a = -cmpv a b := by unfold cmpv; (repeat' split) <;> omega
theorem cmpv_le {a b : Nat} : cmpv a b ≤ 0 ↔ rk a ≤ rk b := by unfold cmpv; (repeat' split) <;> omega
theorem cmpv_gt {a b : Nat} : 0 < cmpv a b ↔ rk b < rk a := by unfold cmpv; (repeat' split) <;> omega
theorem rd_mono {a b : Nat} (na : kd a ≠ 1) (nb : kd b ≠ 1) (h : rk a ≤ rk b) : rdv a ≤ rdv b := by
  have ha := kdp_cases (sg a) (rg a)
  have hb := kdp_cases (sg b) (rg b)
  rw [← kd_p] at ha hb
  have hm := @fl_mono (rg a) (rg b)
  unfold rk at h
  rw [if_neg na, if_neg nb] at h
  by_cases h5 : kd a ≤ 5
  · have := rdv_nonneg b
    unfold rdv; rw [if_pos h5]; exact this
  · have sa : sg a = false := by
      revert h5; unfold kd
      intro h5
      generalize sg a = x at *
      cases x
      · rfl
      · exfalso; revert h5; simp only [if_true]; (repeat' split) <;> omega
    rw [sa] at h
    simp only [Bool.false_eq_true, if_false] at h
    have sb : sg b = false := by
      generalize sg b = x at *
      cases x
      · rfl
      · simp only [if_true] at h; omega
    rw [sb] at h
    simp only [Bool.false_eq_true, if_false] at h
    have k5 : ¬ kd b ≤ 5 := by
      rw [sa] at ha; rw [sb] at hb
      unfold srp at ha hb
      simp only [Bool.false_eq_true, if_false] at ha hb
      omega
    have hl := rdv_le a
    unfold rdv at hl ⊢
    rw [if_neg h5] at hl
    rw [if_neg h5, if_neg k5]
    by_cases h1 : 4890909195324358656 ≤ rg a
    · rw [if_pos h1, if_pos (by omega)]; omega
    · rw [if_neg h1] at hl ⊢
      split
      · exact hl
      · have := hm (by omega)
        omega
end Fl
end Go.Proofs.Ytjfbnobijlkicaa
