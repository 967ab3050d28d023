/- SumTurned: the walk. -/
import Derived.Test.YtmgippcbfeemnaaOwnB
namespace Go.Proofs.Ytmgippcbfeemnaa
open Go.RowKit Bs
namespace Crc
theorem bits_get (l : List Byte) (i : Nat) : (bitsOf l).getD i false = (l.getD (i / 8) 0#8).getLsbD (i % 8) := by
  induction l generalizing i with
  | nil => simp [bitsOf]
  | cons b l ih =>
    have e : bitsOf (b :: l) = bits8 b ++ bitsOf l := rfl
    rw [e]
    rcases Nat.lt_or_ge i 8 with h | h
    · have h0 : i / 8 = 0 := by omega
      have h1 : i % 8 = i := by omega
      rw [h0, h1, List.getD_eq_getElem?_getD, List.getElem?_append_left (by rw [bits8_len]; exact h), ← List.getD_eq_getElem?_getD, bits8_get]; rfl
    · have h0 : i / 8 = (i - 8) / 8 + 1 := by omega
      have h1 : i % 8 = (i - 8) % 8 := by omega
      rw [h0, h1, List.getD_eq_getElem?_getD, List.getElem?_append_right (by rw [bits8_len]; exact h), bits8_len, ← List.getD_eq_getElem?_getD, ih]; rfl
/-- a run of bits turned, the first j of them -/
def fl (xs : List Byte) (k : Nat) (t : W) : Nat → List Byte
  | 0 => xs
  | j + 1 => if t.getLsbD j then (fl xs k t j).set ((k + j) / 8) ((fl xs k t j).getD ((k + j) / 8) 0#8 ^^^ (1#8 <<< ((k + j) % 8))) else fl xs k t j
theorem fl_len (xs : List Byte) (k : Nat) (t : W) (j : Nat) : (fl xs k t j).length = xs.length := by
  induction j with
  | zero => rfl
  | succ j ih => unfold fl; split <;> simp [ih]
theorem one_bit (m r : Nat) (hm : m < 8) (hr : r < 8) : (1#8 <<< m).getLsbD r = decide (r = m) := by
  rw [BitVec.getLsbD_shiftLeft]
  by_cases h : r = m
  · subst h; simp [hr]
  · rcases Nat.lt_or_ge r m with h2 | h2
    · simp [h2, h]
    · have : r - m ≠ 0 := by omega
      simp [h, hr, this]
theorem fl_bits (xs : List Byte) (k : Nat) (t : W) (j : Nat) (hj : k + j ≤ 8 * xs.length) (i : Nat) :
    (bitsOf (fl xs k t j)).getD i false = ((bitsOf xs).getD i false ^^ (decide (k ≤ i) && decide (i < k + j) && t.getLsbD (i - k))) := by
  induction j with
  | zero =>
    have : (decide (k ≤ i) && decide (i < k + 0)) = false := by simp
    rw [this]; simp [fl]
  | succ j ih =>
    have ih' := ih (by omega)
    unfold fl
    by_cases ht : t.getLsbD j = true
    · rw [if_pos ht, bits_get]
      have hlt : (k + j) / 8 < (fl xs k t j).length := by rw [fl_len]; omega
      rw [bits_get] at ih'
      by_cases hq : i / 8 = (k + j) / 8
      · rw [hq] at ih' ⊢
        have e : ((fl xs k t j).set ((k + j) / 8) ((fl xs k t j).getD ((k + j) / 8) 0#8 ^^^ (1#8 <<< ((k + j) % 8)))).getD ((k + j) / 8) 0#8 = (fl xs k t j).getD ((k + j) / 8) 0#8 ^^^ (1#8 <<< ((k + j) % 8)) := by
          simp [List.getD_eq_getElem?_getD, List.getElem?_set, hlt]
        rw [e, BitVec.getLsbD_xor, ih', one_bit _ _ (by omega) (by omega)]
        by_cases hi : i = k + j
        · subst hi
          have h1 : decide (k + j < k + j) = false := by simp
          have h2 : decide (k + j < k + (j + 1)) = true := by simp
          have h3 : decide (k ≤ k + j) = true := by simp
          rw [h1, h2, h3, Nat.add_sub_cancel_left, ht]
          simp
        · have hm : ¬ i % 8 = (k + j) % 8 := by omega
          have h1 : decide (i < k + (j + 1)) = decide (i < k + j) := by
            rw [decide_eq_decide]; omega
          rw [h1]
          simp [hm]
      · have e : ((fl xs k t j).set ((k + j) / 8) ((fl xs k t j).getD ((k + j) / 8) 0#8 ^^^ (1#8 <<< ((k + j) % 8)))).getD (i / 8) 0#8 = (fl xs k t j).getD (i / 8) 0#8 := by
          simp only [List.getD_eq_getElem?_getD]
          rw [List.getElem?_set_ne (Ne.symm hq)]
        have hi : i ≠ k + j := by rintro rfl; exact hq rfl
        have h1 : decide (i < k + (j + 1)) = decide (i < k + j) := by
          rw [decide_eq_decide]; omega
        rw [e, ih', h1]
    · rw [if_neg ht, ih']
      by_cases hi : i = k + j
      · subst hi
        have h4 : t.getLsbD (k + j - k) = false := by rw [Nat.add_sub_cancel_left]; simpa using ht
        rw [h4]; simp
      · have h1 : decide (i < k + (j + 1)) = decide (i < k + j) := by
          rw [decide_eq_decide]; omega
        rw [h1]
theorem fl_no (l : List Byte) (k : Nat) (t : W) (ht : t ≠ 0#32) (hk : k + 32 ≤ 8 * (put l).length) : cutOK (fl (put l) k t 32) = false := by
  cases h : cutOK (fl (put l) k t 32) with
  | false => rfl
  | true =>
    exfalso
    unfold cutOK at h
    simp only [Bool.and_eq_true, decide_eq_true_eq] at h
    refine turned (put l) (fl (put l) k t 32) k t ht ⟨l, rfl⟩ (fl_len _ _ _ _).symm hk (fun i _ => ?_) ⟨_, h.2.symm⟩
    rw [fl_bits _ _ _ _ hk]
    congr 1
    by_cases h1 : k ≤ i
    · by_cases h2 : i < k + 32
      · simp [h1, h2]
      · rw [BitVec.getLsbD_of_ge t (i - k) (by omega)]; simp
    · simp [h1]
theorem bit_at (t : W) (j : Nat) : (bits .and .u32 (n32 t / (2 : Int) ^ j) 1 == 1) = t.getLsbD j := by
  have h1 := shr32 t j
  have e : (((2 ^ j : Nat) : Nat) : Int) = (2 : Int) ^ j := by rw [Int.natCast_pow]; rfl
  rw [e] at h1
  rw [h1, and1, lsb, BitVec.getLsbD_ushiftRight, Nat.add_zero]
theorem pow_bit (r : Nat) (h : r < 8) : IntKind.u8.wrap ((2 : Int) ^ r) = n8 (1#8 <<< r) := by
  have : r = 0 ∨ r = 1 ∨ r = 2 ∨ r = 3 ∨ r = 4 ∨ r = 5 ∨ r = 6 ∨ r = 7 := by omega
  rcases this with rfl | rfl | rfl | rfl | rfl | rfl | rfl | rfl <;> rfl
end Crc
namespace sumTurned
open Crc
set_option maxRecDepth 100000 in
set_option maxHeartbeats 4000000 in
theorem core (A : Option Addr) (n c : Nat) (at_ : Int) (t : W) (bs : List Byte) (w : World) (h : Bs w w.heap.size A n bs) (hn : n ≤ 1000) (ha : 0 ≤ at_ ∧ at_ ≤ 65535) (ht : t ≠ 0#32) :
    Calls Try.prog 4 #[.slice A n c, .int .u16 at_, .int .u32 (n32 t)] w fun e w' => e = .returned (.bool true) ∧ Below w.heap.size w w' := by
  have hln := h.len
  have hpl : (put bs).length = n + 4 := by simp [put, le4, hln]
  have hcokH := Lib.hid (cutOK_long (bs := put bs) (m := n) hpl)
  have htk : Hid ((put bs).take n = bs) := by show _ = _; unfold put; rw [← hln]; exact List.take_left
  have Hcok : Hid (cutOK (put bs) = true) := by show _ = _; rw [hcokH.out, htk.out]; simp
  obtain ⟨k, hk, hk0, hk1⟩ : ∃ k : Nat, at_ % (8 * ((n : Int) + 4) - 31) = k ∧ 0 ≤ (k : Int) ∧ k + 32 ≤ 8 * (n + 4) := by
    have h1 := Int.emod_nonneg at_ (show 8 * ((n : Int) + 4) - 31 ≠ 0 by omega)
    have h2 := Int.emod_lt_of_pos at_ (show 0 < 8 * ((n : Int) + 4) - 31 by omega)
    exact ⟨(at_ % (8 * ((n : Int) + 4) - 31)).toNat, by omega, by omega, by omega⟩
  have Hno := Lib.hid (fl_no bs k t ht (by rw [hpl]; exact hk1))
  have htn : (n32 t == 0) = false := by
    have := n32_eq t 0#32
    simp only [ht, decide_false] at this
    exact this
  obtain ⟨t0, t1⟩ := n32_bd t
  obtain ⟨ha0, ha1⟩ := ha
  have Hpl := Lib.hid hpl
  have Hln := Lib.hid hln
  clear hln hpl hcokH ht
  go_enter Try.func4, Try.ntmps4
  go_wp2_with fail
  refine (awake_c _).mono ?_
  rintro e w1 ⟨rfl, hb1⟩
  have z1 := hb1.size
  go_wp2_with fail
  refine (put_c A n c bs _ ((h.below hb1).more z1) (by omega)).mono ?_
  rintro e w3 ⟨A3, c3, rfl, O3, hb3⟩
  have L3 : Below w.heap.size w w3 := hb1.trans (hb3.mono z1)
  have z3 := L3.size
  clear hb3 hb1
  go_wp2_with fail
  refine (cut_yes A3 (n + 4) c3 (put bs) _ O3.bs (by omega) O3.le.1 O3.le.2 Hcok.out).mono ?_
  rintro e w4 ⟨A4, c4, rfl, O4', hb4⟩
  have O4 : Own w4 w3.heap.size A4 n c4 bs := by have := O4'; rw [show n + 4 - 4 = n from by omega, htk.out] at this; exact this
  have L4 : Below w.heap.size w w4 := L3.trans (hb4.mono z3)
  have z4 := L4.size
  have X4 : Own w4 w1.heap.size A3 (n + 4) c3 (put bs) := own_below O3 hb4 (Nat.le_refl _)
  clear O4' hb4 O3 L3
  go_wp2_with fail
  refine (same_c A4 A n c4 n c _ _ bs bs _ O4.bs (h.below L4)).mono ?_
  rw [decide_eq_true rfl]
  rintro e w' ⟨rfl, rfl⟩
  clear O4
  go_wp2_with fail
  go_loopw [11] (fun vi wr => ∃ j : Nat, j ≤ 32 ∧ vi = .int .i64 j ∧ Below w.heap.size w wr ∧ Own wr w1.heap.size A3 (n + 4) c3 (fl (put bs) k t j)) (fun i _ => 32 - (intOf i).toNat)
  case atStart => exact ⟨0, by omega, rfl, L4, X4⟩
  case round =>
    clear L4 X4
    obtain ⟨j, hj, rfl, hbr, X5⟩ := hrel
    by_cases hlt : j < 32
    · have hbt := bit_at t j
      cases htj : t.getLsbD j with
      | true =>
        rw [htj] at hbt
        obtain ⟨p, hp, hpl⟩ : ∃ p, p = (k + j) / 8 ∧ p < n + 4 := ⟨_, rfl, by omega⟩
        obtain ⟨r, hr, hrl⟩ : ∃ r, r = (k + j) % 8 ∧ r < 8 := ⟨_, rfl, by omega⟩
        obtain ⟨g, b, hl, rfl, hg1, hg2, hbe, hcell, hfz, hset⟩ := X5.at_ hpl
        have Hset := Lib.hid (hset (b ^^^ (1#8 <<< r)))
        have Hfl : Hid (fl (put bs) k t (j + 1) = (fl (put bs) k t j).set p (b ^^^ (1#8 <<< r))) := by
          show _ = _
          rw [fl, if_pos htj, ← hp, ← hr]
          congr 2
          rw [← hbe]; simp [List.getD_eq_getElem?_getD, hl]
        have e1 : ((k : Int) + j) / 8 = p := by omega
        have e2 : ((k : Int) + j) % 8 = r := by omega
        have e3 := pow_bit r hrl
        have f1 := xor8 b (1#8 <<< r)
        clear hset htj hp hr hbe hl
        generalize n8 (b ^^^ (1#8 <<< r)) = Y at *
        generalize n8 (1#8 <<< r) = V at *
        generalize n8 b = X at *
        go_wp2
        go_roundw
        case rel => exact ⟨j + 1, by omega, by go_num, hbr.setCell (by simp; omega) _, by rw [Hfl.out]; exact Hset.out⟩
        case measure => simp [intOf]; omega
      | false =>
        rw [htj] at hbt
        have Hfl : Hid (fl (put bs) k t (j + 1) = fl (put bs) k t j) := by
          show _ = _
          rw [fl, if_neg (by rw [htj]; simp)]
        clear htj
        go_wp2
        go_roundw
        case rel => exact ⟨j + 1, by omega, by go_num, hbr, by rw [Hfl.out]; exact X5⟩
        case measure => simp [intOf]; omega
    · obtain rfl : j = 32 := by omega
      go_wp2_with fail
      refine (cut_no A3 (n + 4) c3 (fl (put bs) k t 32) _ X5.bs (by omega) X5.le.1 X5.le.2 Hno.out).mono ?_
      rintro e w5 ⟨A5, c5, rfl, _, hb5⟩
      go_wp2
      go_ret
      exact ⟨rfl, hbr.trans (hb5.mono hbr.size)⟩
theorem walk (v1 v2 v3 : Value) (w : World) (h1 : Frame.Arg Try.prog w 22 v1) (h2 : Frame.Arg Try.prog w 30 v2) (h3 : Frame.Arg Try.prog w 24 v3) :
    Calls Try.prog 4 #[v1, v2, v3] w fun e w' => e = .returned (.bool true) ∧ Below w.heap.size w w' := by
  obtain ⟨A, n, c, a, rfl, hc, hm, hr⟩ := arg_bs h1 Try.underlying22 Try.underlying5 (by kernel_rfl)
  obtain ⟨at_, rfl, hat⟩ := h2.int Try.underlying30
  obtain ⟨ti, rfl, hti⟩ := h3.int Try.underlying24
  have hat := Frame.bd_u16 hat
  obtain ⟨t0, t1⟩ := Frame.bd_u32 hti
  clear hti
  by_cases hs : n ≤ 1000
  · by_cases h0 : ti = 0
    · subst h0
      go_enter Try.func4, Try.ntmps4
      go_wp2_with fail
      refine (awake_c _).mono ?_
      rintro e w1 ⟨rfl, hb1⟩
      go_wp2_with fail
      refine (awake_c _).mono ?_
      rintro e w2 ⟨rfl, hb2⟩
      go_wp2
      go_ret
      exact ⟨rfl, hb1.trans (hb2.mono hb1.size)⟩
    · have e : ti = n32 (BitVec.ofNat 32 ti.toNat) := by unfold n32; rw [BitVec.toNat_ofNat, Nat.mod_eq_of_lt (by omega)]; omega
      rw [e]
      refine core A n c at_ _ a w hr hs hat (fun h => h0 ?_)
      rw [e, h]; rfl
  · have h : 1000 < n := by omega
    clear hs
    unfold maxLen at hm
    go_enter Try.func4, Try.ntmps4
    go_wp2_with fail
    refine (awake_c _).mono ?_
    rintro e w1 ⟨rfl, hb1⟩
    go_wp2_with fail
    refine (awake_c _).mono ?_
    rintro e w2 ⟨rfl, hb2⟩
    go_wp2
    go_ret
    exact ⟨rfl, hb1.trans (hb2.mono hb1.size)⟩
end sumTurned
end Go.Proofs.Ytmgippcbfeemnaa
