/- The plain law of layer 2 (wide): products of two words, shares. No Go in sight. -/
import Derived.Test.YtjfbnobijlkicaaSatL
import Derived.Laws.Entries
namespace Go.Proofs.Ytjfbnobijlkicaa
namespace Wide
open Sat (num num_nonneg num_le num_id)
def cmpP (p q : Int) : Int := if p < q then -1 else if q < p then 1 else 0
def compare (a b c d : Int) : Int := cmpP (num a * num b) (num c * num d)
theorem cmpP_bd (p q : Int) : -1 ≤ cmpP p q ∧ cmpP p q ≤ 1 := by unfold cmpP; (repeat' split) <;> omega
theorem compare_bd (a b c d : Int) : -1 ≤ compare a b c d ∧ compare a b c d ≤ 1 := cmpP_bd _ _
theorem wrap_u64 (z : Int) : IntKind.u64.wrap z = z % 18446744073709551616 := by
  simp only [IntKind.wrap, IntKind.bits, IntKind.signed]
  simp only [Bool.false_eq_true, if_false, Bool.false_and]
  omega
theorem and_low (x : Int) (h0 : 0 ≤ x) (h1 : x < 18446744073709551616) : bits .and .u64 x 4294967295 = x % 4294967296 := by
  obtain ⟨n, rfl⟩ := Int.eq_ofNat_of_zero_le h0
  show IntKind.u64.wrap ((BitVec.ofInt 64 (n : Int) &&& BitVec.ofInt 64 4294967295).toNat : Int) = _
  have e : (BitVec.ofInt 64 (n : Int) &&& BitVec.ofInt 64 4294967295).toNat = n % 4294967296 := by
    rw [BitVec.toNat_and, BitVec.toNat_ofInt, BitVec.toNat_ofInt]
    have e1 : ((n : Int) % (((2 ^ 64 : Nat)) : Int)).toNat = n := by
      have : (((2 ^ 64 : Nat)) : Int) = 18446744073709551616 := by decide
      rw [this]; omega
    have e2 : ((4294967295 : Int) % (((2 ^ 64 : Nat)) : Int)).toNat = 2 ^ 32 - 1 := by decide
    rw [e1, e2, Nat.and_two_pow_sub_one_eq_mod]
  rw [e, wrap_u64]
  omega
theorem or_parts (a b : Int) (ha : 0 ≤ a) (ha1 : a < 128) (hb : 0 ≤ b) (hb1 : b < 144115188075855872) : bits .or .u64 (a * 144115188075855872) b = a * 144115188075855872 + b := by
  obtain ⟨n, rfl⟩ := Int.eq_ofNat_of_zero_le ha
  obtain ⟨m, rfl⟩ := Int.eq_ofNat_of_zero_le hb
  show IntKind.u64.wrap ((BitVec.ofInt 64 ((n : Int) * 144115188075855872) ||| BitVec.ofInt 64 (m : Int)).toNat : Int) = _
  have e : (BitVec.ofInt 64 ((n : Int) * 144115188075855872) ||| BitVec.ofInt 64 (m : Int)).toNat = n * 144115188075855872 + m := by
    rw [BitVec.toNat_or, BitVec.toNat_ofInt, BitVec.toNat_ofInt]
    have q : (((2 ^ 64 : Nat)) : Int) = 18446744073709551616 := by decide
    have e1 : ((n : Int) * 144115188075855872 % (((2 ^ 64 : Nat)) : Int)).toNat = 2 ^ 57 * n := by rw [q]; omega
    have e2 : ((m : Int) % (((2 ^ 64 : Nat)) : Int)).toNat = m := by rw [q]; omega
    rw [e1, e2, ← Nat.two_pow_add_eq_or_of_lt (by omega)]
    omega
  rw [e, wrap_u64]
  omega
theorem mul_bd {a b m n : Int} (ha : 0 ≤ a) (ham : a ≤ m) (hb : 0 ≤ b) (hbn : b ≤ n) : 0 ≤ a * b ∧ a * b ≤ m * n :=
  ⟨Int.mul_nonneg ha hb, Int.mul_le_mul ham hbn hb (by omega)⟩
theorem mul_facts (x y : Int) (hx0 : 0 ≤ x) (hx1 : x < 18446744073709551616) (hy0 : 0 ≤ y) (hy1 : y < 18446744073709551616) :
    ∃ X0 X1 Y0 Y1 W0 V1 W0h Tt W1 W2 V2 W1b V3 S1 W1h : Int,
      bits .and .u64 x 4294967295 = X0 ∧ x / (4294967296 : Int) = X1 ∧ bits .and .u64 y 4294967295 = Y0 ∧ y / (4294967296 : Int) = Y1 ∧
      IntKind.u64.wrap (X0 * Y0) = W0 ∧ IntKind.u64.wrap (X1 * Y0) = V1 ∧ W0 / (4294967296 : Int) = W0h ∧ IntKind.u64.wrap (V1 + W0h) = Tt ∧
      bits .and .u64 Tt 4294967295 = W1 ∧ Tt / (4294967296 : Int) = W2 ∧ IntKind.u64.wrap (X0 * Y1) = V2 ∧ IntKind.u64.wrap (W1 + V2) = W1b ∧
      IntKind.u64.wrap (X1 * Y1) = V3 ∧ IntKind.u64.wrap (V3 + W2) = S1 ∧ W1b / (4294967296 : Int) = W1h ∧
      IntKind.u64.wrap (S1 + W1h) = x * y / 18446744073709551616 ∧ IntKind.u64.wrap (x * y) = x * y % 18446744073709551616 := by
  refine ⟨_, _, _, _, _, _, _, _, _, _, _, _, _, _, _, rfl, rfl, rfl, rfl, rfl, rfl, rfl, rfl, rfl, rfl, rfl, rfl, rfl, rfl, rfl, ?_, wrap_u64 _⟩
  rw [and_low x hx0 hx1, and_low y hy0 hy1]
  have ex : x = x / 4294967296 * 4294967296 + x % 4294967296 := by omega
  have ey : y = y / 4294967296 * 4294967296 + y % 4294967296 := by omega
  obtain ⟨a0, a1⟩ : 0 ≤ x / 4294967296 ∧ x / 4294967296 ≤ 4294967295 := by omega
  obtain ⟨b0, b1⟩ : 0 ≤ x % 4294967296 ∧ x % 4294967296 ≤ 4294967295 := by omega
  obtain ⟨c0, c1⟩ : 0 ≤ y / 4294967296 ∧ y / 4294967296 ≤ 4294967295 := by omega
  obtain ⟨d0, d1⟩ : 0 ≤ y % 4294967296 ∧ y % 4294967296 ≤ 4294967295 := by omega
  generalize x / 4294967296 = p at *
  generalize x % 4294967296 = q at *
  generalize y / 4294967296 = r at *
  generalize y % 4294967296 = s at *
  have exy : x * y = p * r * 18446744073709551616 + (p * s + q * r) * 4294967296 + q * s := by
    rw [ex, ey]
    simp only [Int.mul_add, Int.add_mul]
    have h1 : p * 4294967296 * (r * 4294967296) = p * r * 18446744073709551616 := by
      have e : (18446744073709551616 : Int) = 4294967296 * 4294967296 := by decide
      rw [e]; ac_rfl
    have h2 : p * 4294967296 * s = p * s * 4294967296 := by ac_rfl
    have h3 : q * (r * 4294967296) = q * r * 4294967296 := by ac_rfl
    rw [h1, h2, h3]; omega
  have m1 := mul_bd b0 b1 d0 d1
  have m2 := mul_bd a0 a1 d0 d1
  have m3 := mul_bd b0 b1 c0 c1
  have m4 := mul_bd a0 a1 c0 c1
  rw [exy]
  generalize q * s = qs at *
  generalize p * s = ps at *
  generalize q * r = qr at *
  generalize p * r = pr at *
  clear exy ex ey
  simp only [wrap_u64]
  rw [and_low _ (by omega) (by omega)]
  omega
theorem prod_facts (x y : Int) (hx0 : 0 ≤ x) (hx1 : x < 9223372036854775808) (hy0 : 0 ≤ y) (hy1 : y < 9223372036854775808) :
    ∃ X0 X1 Y0 Y1 P1 P2 Mm L Mr Ms Low P3 Mq Hh H1 : Int,
      x / (4294967296 : Int) = X1 ∧ x % (4294967296 : Int) = X0 ∧ y / (4294967296 : Int) = Y1 ∧ y % (4294967296 : Int) = Y0 ∧
      IntKind.u64.wrap (X1 * Y0) = P1 ∧ IntKind.u64.wrap (X0 * Y1) = P2 ∧ IntKind.u64.wrap (P1 + P2) = Mm ∧ IntKind.u64.wrap (X0 * Y0) = L ∧ Mm % (4294967296 : Int) = Mr ∧
      IntKind.u64.wrap (Mr * 4294967296) = Ms ∧ IntKind.u64.wrap (L + Ms) = Low ∧ IntKind.u64.wrap (X1 * Y1) = P3 ∧ Mm / (4294967296 : Int) = Mq ∧ IntKind.u64.wrap (P3 + Mq) = Hh ∧ IntKind.u64.wrap (Hh + 1) = H1 ∧
      Low = x * y % 18446744073709551616 ∧ (Low < L → H1 = x * y / 18446744073709551616) ∧ (L ≤ Low → Hh = x * y / 18446744073709551616) ∧ 0 ≤ Mm ∧ Mm ≤ 18446744073709551615 := by
  refine ⟨_, _, _, _, _, _, _, _, _, _, _, _, _, _, _, rfl, rfl, rfl, rfl, rfl, rfl, rfl, rfl, rfl, rfl, rfl, rfl, rfl, rfl, rfl, ?_⟩
  have ex : x = x / 4294967296 * 4294967296 + x % 4294967296 := by omega
  have ey : y = y / 4294967296 * 4294967296 + y % 4294967296 := by omega
  obtain ⟨a0, a1⟩ : 0 ≤ x / 4294967296 ∧ x / 4294967296 ≤ 2147483647 := by omega
  obtain ⟨b0, b1⟩ : 0 ≤ x % 4294967296 ∧ x % 4294967296 ≤ 4294967295 := by omega
  obtain ⟨c0, c1⟩ : 0 ≤ y / 4294967296 ∧ y / 4294967296 ≤ 2147483647 := by omega
  obtain ⟨d0, d1⟩ : 0 ≤ y % 4294967296 ∧ y % 4294967296 ≤ 4294967295 := by omega
  generalize x / 4294967296 = p at *
  generalize x % 4294967296 = q at *
  generalize y / 4294967296 = r at *
  generalize y % 4294967296 = s at *
  have exy : x * y = p * r * 18446744073709551616 + (p * s + q * r) * 4294967296 + q * s := by
    rw [ex, ey]
    simp only [Int.mul_add, Int.add_mul]
    have h1 : p * 4294967296 * (r * 4294967296) = p * r * 18446744073709551616 := by
      have e : (18446744073709551616 : Int) = 4294967296 * 4294967296 := by decide
      rw [e]; ac_rfl
    have h2 : p * 4294967296 * s = p * s * 4294967296 := by ac_rfl
    have h3 : q * (r * 4294967296) = q * r * 4294967296 := by ac_rfl
    rw [h1, h2, h3]; omega
  have m1 := mul_bd b0 b1 d0 d1
  have m2 := mul_bd a0 a1 d0 d1
  have m3 := mul_bd b0 b1 c0 c1
  have m4 := mul_bd a0 a1 c0 c1
  rw [exy]
  generalize q * s = qs at *
  generalize p * s = ps at *
  generalize q * r = qr at *
  generalize p * r = pr at *
  clear exy ex ey
  simp only [wrap_u64]
  refine ⟨by omega, fun h => by omega, fun h => by omega, by omega, by omega⟩
theorem lex {p q : Int} (hp : 0 ≤ p) (hq : 0 ≤ q) :
    cmpP p q = if cmpP (p / 18446744073709551616) (q / 18446744073709551616) ≠ 0 then cmpP (p / 18446744073709551616) (q / 18446744073709551616) else cmpP (p % 18446744073709551616) (q % 18446744073709551616) := by
  unfold cmpP; (repeat' split) <;> omega
/-- the least part that isn't below -/
def share (whole percent : Int) : Int := (num whole * num (if percent ≤ 100 then percent else 100) + 99) / 100
theorem div_facts (h l : Int) (h0 : 0 < h) (h1 : h < 100) (l0 : 0 ≤ l) (l1 : l < 18446744073709551616) :
    ∃ A B U D E F Q R G2 M1 N1 : Int, IntKind.u64.wrap (h * 144115188075855872) = A ∧ l / (128 : Int) = B ∧ bits .or .u64 A B = U ∧ IntKind.u64.wrap (l * 144115188075855872) = D ∧
      D / (4294967296 : Int) = E ∧ bits .and .u64 D 4294967295 = F ∧ U / (3355443200 : Int) = Q ∧ U - Q * 3355443200 = R ∧
      IntKind.u64.wrap (IntKind.u64.wrap (IntKind.u64.wrap (U * 4294967296) + E) - IntKind.u64.wrap (Q * 14411518807585587200)) = G2 ∧
      G2 / (3355443200 : Int) = M1 ∧ G2 - M1 * 3355443200 = N1 ∧ 0 ≤ Q ∧ Q < 4294967296 ∧ 0 ≤ M1 ∧ M1 < 4294967296 ∧
      0 ≤ U ∧ U < 14411518807585587200 ∧ 0 ≤ R ∧ R < 3355443200 ∧ 0 ≤ E ∧ E < 4294967296 ∧ 0 ≤ F ∧ F < 4294967296 ∧ 0 ≤ G2 ∧ G2 < 14411518807585587200 ∧ 0 ≤ N1 ∧ N1 < 3355443200 ∧
      Q * 4294967296 + M1 = (h * 18446744073709551616 + l) / 100 ∧
      IntKind.u64.wrap (IntKind.u64.wrap (IntKind.u64.wrap (G2 * 4294967296) + F) - IntKind.u64.wrap (M1 * 14411518807585587200)) / (144115188075855872 : Int) = (h * 18446744073709551616 + l) % 100 := by
  refine ⟨_, _, _, _, _, _, _, _, _, _, _, rfl, rfl, rfl, rfl, rfl, rfl, rfl, rfl, rfl, rfl, rfl, ?_⟩
  have e1 : IntKind.u64.wrap (h * 144115188075855872) = h * 144115188075855872 := by rw [wrap_u64]; omega
  rw [e1, or_parts h (l / 128) (by omega) (by omega) (by omega) (by omega)]
  simp only [wrap_u64]
  rw [and_low _ (by omega) (by omega)]
  obtain ⟨U, hU⟩ : ∃ U, U = h * 144115188075855872 + l / 128 := ⟨_, rfl⟩
  obtain ⟨D, hD⟩ : ∃ D, D = l * 144115188075855872 % 18446744073709551616 := ⟨_, rfl⟩
  rw [← hU, ← hD]
  have hUl : 0 ≤ U ∧ U < 14411518807585587200 := by omega
  have hDl : 0 ≤ D ∧ D < 18446744073709551616 := by omega
  have hN : (h * 18446744073709551616 + l) * 144115188075855872 = U * 18446744073709551616 + D := by omega
  obtain ⟨Q, hQ⟩ : ∃ Q, Q = U / 3355443200 := ⟨_, rfl⟩
  rw [← hQ]
  have hG : (((U * 4294967296 % 18446744073709551616 + D / 4294967296) % 18446744073709551616 - Q * 14411518807585587200 % 18446744073709551616) % 18446744073709551616) = (U - Q * 3355443200) * 4294967296 + D / 4294967296 := by omega
  rw [hG]
  obtain ⟨G, hG'⟩ : ∃ G, G = (U - Q * 3355443200) * 4294967296 + D / 4294967296 := ⟨_, rfl⟩
  rw [← hG']
  have hGl : 0 ≤ G ∧ G < 14411518807585587200 := by omega
  obtain ⟨M, hM⟩ : ∃ M, M = G / 3355443200 := ⟨_, rfl⟩
  rw [← hM]
  have hR : (((G * 4294967296 % 18446744073709551616 + D % 4294967296) % 18446744073709551616 - M * 14411518807585587200 % 18446744073709551616) % 18446744073709551616) = (G - M * 3355443200) * 4294967296 + D % 4294967296 := by omega
  rw [hR]
  obtain ⟨Nn, hNn⟩ : ∃ Nn, Nn = h * 18446744073709551616 + l := ⟨_, rfl⟩
  rw [← hNn] at hN ⊢
  clear hNn hU hD hG hR
  have hfin : Nn * 144115188075855872 = (Q * 4294967296 + M) * 14411518807585587200 + ((G - M * 3355443200) * 4294967296 + D % 4294967296) := by omega
  refine ⟨by omega, by omega, by omega, by omega, by omega, by omega, by omega, by omega, by omega, by omega, by omega, by omega, by omega, by omega, by omega, by omega, by omega, by omega⟩
end Wide
end Go.Proofs.Ytjfbnobijlkicaa
