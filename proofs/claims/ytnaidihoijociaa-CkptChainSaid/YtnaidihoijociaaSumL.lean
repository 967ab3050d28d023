/- The plain law of layer 8 (sum): the CRC as a shift register over bits. No Go in sight. -/
import Derived.Calls
namespace Go.Proofs.Ytnaidihoijociaa
namespace Crc
abbrev W := BitVec 32
abbrev Byte := BitVec 8
def poly : W := 0xedb88320#32
def ones : W := BitVec.allOnes 32
/-- one step of the register -/
def T (w : W) : W := (w >>> 1) ^^^ (if w.getLsbD 0 then poly else 0#32)
def Tn : Nat → W → W
  | 0, w => w
  | n + 1, w => Tn n (T w)
theorem T_xor (a b : W) : T (a ^^^ b) = T a ^^^ T b := by
  unfold T
  rw [BitVec.getLsbD_xor, BitVec.ushiftRight_xor_distrib]
  have h : (if (a.getLsbD 0 ^^ b.getLsbD 0) = true then poly else 0#32) = (if a.getLsbD 0 = true then poly else 0#32) ^^^ (if b.getLsbD 0 = true then poly else 0#32) := by
    cases a.getLsbD 0 <;> cases b.getLsbD 0 <;> simp
  rw [h]
  ac_rfl
theorem T_zero : T 0#32 = 0#32 := by decide
theorem Tn_xor (n : Nat) (a b : W) : Tn n (a ^^^ b) = Tn n a ^^^ Tn n b := by
  induction n generalizing a b with
  | zero => rfl
  | succ n ih => simp only [Tn]; rw [T_xor, ih]
theorem Tn_zero (n : Nat) : Tn n 0#32 = 0#32 := by
  induction n with
  | zero => rfl
  | succ n ih => simp only [Tn]; rw [T_zero, ih]
theorem Tn_add (m n : Nat) (w : W) : Tn (m + n) w = Tn n (Tn m w) := by
  induction m generalizing w with
  | zero => simp [Tn]
  | succ m ih => rw [Nat.succ_add]; simp only [Tn]; exact ih _
theorem T_ne (w : W) (h : T w = 0#32) : w = 0#32 := by
  have h31 : (T w).getLsbD 31 = false := by rw [h]; simp
  have h0 : w.getLsbD 0 = false := by
    unfold T at h31
    rw [BitVec.getLsbD_xor, BitVec.getLsbD_ushiftRight] at h31
    cases hw : w.getLsbD 0
    · rfl
    · rw [hw] at h31; simp [poly] at h31
  unfold T at h
  rw [h0] at h
  simp only [Bool.false_eq_true, if_false, BitVec.xor_zero] at h
  ext i hi
  rw [BitVec.getElem_eq_testBit_toNat, ← BitVec.getLsbD]
  rcases i with _ | i
  · simpa using h0
  · have := congrArg (fun x : W => x.getLsbD i) h
    simp only [BitVec.getLsbD_ushiftRight] at this
    rw [Nat.add_comm 1 i] at this
    simpa using this
theorem Tn_ne (n : Nat) (w : W) (h : Tn n w = 0#32) : w = 0#32 := by
  induction n generalizing w with
  | zero => exact h
  | succ n ih => exact T_ne _ (ih _ h)
/-- bits, the lowest first, fed into the register -/
def feed (w : W) (l : List Bool) : W := l.foldl (fun w b => T (w ^^^ (if b then 1#32 else 0#32))) w
def num : List Bool → W
  | [] => 0#32
  | b :: l => (if b then 1#32 else 0#32) ^^^ (num l <<< 1)
theorem num_bit (l : List Bool) (i : Nat) : (num l).getLsbD i = (decide (i < 32) && l.getD i false) := by
  induction l generalizing i with
  | nil => simp [num]
  | cons b l ih =>
    simp only [num, BitVec.getLsbD_xor, BitVec.getLsbD_shiftLeft, ih]
    rcases i with _ | i
    · cases b <;> simp
    · have : (if b = true then 1#32 else 0#32).getLsbD (i + 1) = false := by cases b <;> simp
      rw [this]
      rcases Nat.lt_or_ge (i + 1) 32 with h | h
      · simp [h, show i < 32 by omega]
      · simp [show ¬ i + 1 < 32 by omega]
theorem T_shl (x : W) (h : x.getLsbD 31 = false) : T (x <<< 1) = x := by
  unfold T
  have h0 : (x <<< 1).getLsbD 0 = false := by simp
  rw [h0]
  simp only [Bool.false_eq_true, if_false, BitVec.xor_zero]
  ext i hi
  rw [BitVec.getElem_eq_testBit_toNat, ← BitVec.getLsbD, BitVec.getLsbD_ushiftRight, BitVec.getLsbD_shiftLeft]
  rcases Nat.lt_or_ge (1 + i) 32 with h1 | h1
  · have e : 1 + i - 1 = i := by omega
    rw [e, BitVec.getElem_eq_testBit_toNat, ← BitVec.getLsbD]
    simp [h1]
  · have e : i = 31 := by omega
    subst e
    rw [BitVec.getElem_eq_testBit_toNat, ← BitVec.getLsbD, h]; simp
theorem feed_num (l : List Bool) (w : W) (h : l.length ≤ 32) : feed w l = Tn l.length (w ^^^ num l) := by
  induction l generalizing w with
  | nil => simp [feed, Tn, num]
  | cons b l ih =>
    simp only [List.length_cons] at h
    have e : feed w (b :: l) = feed (T (w ^^^ (if b then 1#32 else 0#32))) l := rfl
    rw [e, ih _ (by omega), List.length_cons, Tn]
    congr 1
    rw [num, ← BitVec.xor_assoc, T_xor (w ^^^ _), T_shl]
    rw [num_bit]
    simp [List.getElem?_eq_none (show l.length ≤ 31 by omega)]
theorem feed_append (w : W) (l m : List Bool) : feed w (l ++ m) = feed (feed w l) m := by unfold feed; rw [List.foldl_append]
theorem feed_zeros (w : W) (n : Nat) : feed w (List.replicate n false) = Tn n w := by
  induction n generalizing w with
  | zero => rfl
  | succ n ih => 
    have e : feed w (List.replicate (n + 1) false) = feed (T (w ^^^ 0#32)) (List.replicate n false) := rfl
    rw [e, ih, BitVec.xor_zero]; rfl
theorem feed_xor (a b : W) (l m : List Bool) (h : l.length = m.length) : feed (a ^^^ b) (List.zipWith (· ^^ ·) l m) = feed a l ^^^ feed b m := by
  induction l generalizing a b m with
  | nil => 
    have : m = [] := List.eq_nil_of_length_eq_zero (by simpa using h.symm)
    subst this; rfl
  | cons x l ih =>
    rcases m with _ | ⟨y, m⟩
    · simp at h
    · simp only [List.length_cons, Nat.add_right_cancel_iff] at h
      have e : feed (a ^^^ b) (List.zipWith (· ^^ ·) (x :: l) (y :: m)) = feed (T ((a ^^^ b) ^^^ (if (x ^^ y) = true then 1#32 else 0#32))) (List.zipWith (· ^^ ·) l m) := rfl
      have e2 : (if (x ^^ y) = true then 1#32 else 0#32) = (if x = true then 1#32 else 0#32) ^^^ (if y = true then 1#32 else (0#32 : W)) := by cases x <;> cases y <;> rfl
      have e3 : (a ^^^ b) ^^^ ((if x = true then 1#32 else 0#32) ^^^ (if y = true then 1#32 else (0#32 : W))) = (a ^^^ (if x = true then 1#32 else 0#32)) ^^^ (b ^^^ (if y = true then 1#32 else (0#32 : W))) := by ac_rfl
      rw [e, e2, e3, T_xor, ih _ _ _ h]
      rfl
/-- a byte's bits, bytes' bits -/
def bits8 (b : Byte) : List Bool := (List.range 8).map b.getLsbD
def bitsOf (l : List Byte) : List Bool := l.flatMap bits8
theorem bits8_len (b : Byte) : (bits8 b).length = 8 := by simp [bits8]
theorem bitsOf_len (l : List Byte) : (bitsOf l).length = 8 * l.length := by
  induction l with
  | nil => rfl
  | cons b l ih => simp only [bitsOf, List.flatMap_cons, List.length_append, bits8_len, List.length_cons] at *; omega
theorem bits8_get (b : Byte) (i : Nat) : (bits8 b).getD i false = b.getLsbD i := by
  rcases Nat.lt_or_ge i 8 with h | h
  · simp [bits8, List.getD_eq_getElem?_getD, h]
  · simp [bits8, List.getD_eq_getElem?_getD, h]
theorem num_bits8 (b : Byte) : num (bits8 b) = b.setWidth 32 := by
  ext i hi
  rw [BitVec.getElem_eq_testBit_toNat, ← BitVec.getLsbD, num_bit, bits8_get, BitVec.getElem_setWidth]
  simp [hi]
/-- a byte fed -/
def stepB (w : W) (b : Byte) : W := Tn 8 (w ^^^ b.setWidth 32)
def crc (w : W) (l : List Byte) : W := l.foldl stepB w
def of (l : List Byte) : W := crc ones l ^^^ ones
theorem feed_bits8 (w : W) (b : Byte) : feed w (bits8 b) = stepB w b := by
  rw [feed_num _ _ (by simp [bits8_len]), bits8_len, num_bits8]; rfl
theorem crc_feed (w : W) (l : List Byte) : crc w l = feed w (bitsOf l) := by
  induction l generalizing w with
  | nil => rfl
  | cons b l ih =>
    have e : crc w (b :: l) = crc (stepB w b) l := rfl
    have e2 : bitsOf (b :: l) = bits8 b ++ bitsOf l := rfl
    rw [e, ih, e2, feed_append, feed_bits8]
theorem crc_append (w : W) (l m : List Byte) : crc w (l ++ m) = crc (crc w l) m := by unfold crc; rw [List.foldl_append]
def le4 (s : W) : List Byte := [s.setWidth 8, (s >>> 8).setWidth 8, (s >>> 16).setWidth 8, (s >>> 24).setWidth 8]
def put (l : List Byte) : List Byte := l ++ le4 (of l)
theorem num_le4 (s : W) : num (bitsOf (le4 s)) = s := by
  ext i hi
  rw [BitVec.getElem_eq_testBit_toNat, ← BitVec.getLsbD, num_bit, BitVec.getElem_eq_testBit_toNat, ← BitVec.getLsbD]
  simp only [hi, decide_true, Bool.true_and]
  have h : i = 0 ∨ i = 1 ∨ i = 2 ∨ i = 3 ∨ i = 4 ∨ i = 5 ∨ i = 6 ∨ i = 7 ∨ i = 8 ∨ i = 9 ∨ i = 10 ∨ i = 11 ∨ i = 12 ∨ i = 13 ∨ i = 14 ∨ i = 15 ∨ i = 16 ∨ i = 17 ∨ i = 18 ∨ i = 19 ∨ i = 20 ∨ i = 21 ∨ i = 22 ∨ i = 23 ∨ i = 24 ∨ i = 25 ∨ i = 26 ∨ i = 27 ∨ i = 28 ∨ i = 29 ∨ i = 30 ∨ i = 31 := by omega
  rcases h with rfl | rfl | rfl | rfl | rfl | rfl | rfl | rfl | rfl | rfl | rfl | rfl | rfl | rfl | rfl | rfl | rfl | rfl | rfl | rfl | rfl | rfl | rfl | rfl | rfl | rfl | rfl | rfl | rfl | rfl | rfl | rfl <;> simp [bitsOf, le4, bits8, List.range, List.range.loop]
theorem crc_le4 (w s : W) : crc w (le4 s) = Tn 32 (w ^^^ s) := by
  rw [crc_feed, feed_num _ _ (by rw [bitsOf_len]; simp [le4]), num_le4, bitsOf_len]; rfl
theorem crc_put (l : List Byte) : crc ones (put l) = Tn 32 ones := by
  unfold put
  rw [crc_append, crc_le4]
  unfold of
  rw [← BitVec.xor_assoc, BitVec.xor_self, BitVec.zero_xor]
/-- a run of 32 bits turned -/
theorem turned (x y : List Byte) (k : Nat) (t : W) (ht : t ≠ 0#32) (hx : ∃ l, x = put l) (hl : x.length = y.length) (hk : k + 32 ≤ 8 * x.length)
    (hy : ∀ i, i < 8 * x.length → (bitsOf y).getD i false = ((bitsOf x).getD i false ^^ (decide (k ≤ i) && t.getLsbD (i - k)))) : ¬ ∃ m, y = put m := by
  rintro ⟨m, hm⟩
  obtain ⟨l, hl'⟩ := hx
  have h1 : crc ones x = Tn 32 ones := by rw [hl']; exact crc_put _
  have h2 : crc ones y = Tn 32 ones := by rw [hm]; exact crc_put _
  let e : List Bool := List.replicate k false ++ ((List.range 32).map t.getLsbD ++ List.replicate (8 * x.length - (k + 32)) false)
  have he : bitsOf y = List.zipWith (· ^^ ·) (bitsOf x) e := by
    apply List.ext_getElem?
    intro i
    rcases Nat.lt_or_ge i (8 * x.length) with hi | hi
    · have hiy : i < (bitsOf y).length := by rw [bitsOf_len]; omega
      have hix : i < (bitsOf x).length := by rw [bitsOf_len]; omega
      have hel : i < e.length := by simp [e]; omega
      rw [List.getElem?_zipWith, List.getElem?_eq_getElem hix, List.getElem?_eq_getElem hel, List.getElem?_eq_getElem hiy]
      have := hy i hi
      simp only [List.getD_eq_getElem?_getD, List.getElem?_eq_getElem hiy, List.getElem?_eq_getElem hix, Option.getD_some] at this
      rw [this]
      have hee : e[i] = (decide (k ≤ i) && t.getLsbD (i - k)) := by
        simp only [e, List.getElem_append]
        split
        · rename_i h; simp at h; simp; omega
        · rename_i h
          simp at h
          split
          · rename_i h3; simp [h]
          · rename_i h3
            simp at h3
            simp [BitVec.getLsbD_of_ge t (i - k) (by omega)]
      rw [hee]
    · rw [List.getElem?_eq_none (by rw [bitsOf_len]; omega), List.getElem?_eq_none]
      rw [List.length_zipWith, bitsOf_len]; omega
  have h3 := feed_xor ones 0#32 (bitsOf x) e (by rw [bitsOf_len]; simp [e]; omega)
  rw [BitVec.xor_zero, ← he, ← crc_feed, ← crc_feed, h1, h2] at h3
  have h4 : feed 0#32 e = 0#32 := by
    have : Tn 32 ones ^^^ Tn 32 ones = Tn 32 ones ^^^ (Tn 32 ones ^^^ feed 0#32 e) := by rw [← h3]
    rw [BitVec.xor_self, ← BitVec.xor_assoc, BitVec.xor_self, BitVec.zero_xor] at this
    exact this.symm
  have h5 : feed 0#32 e = Tn (8 * x.length - (k + 32)) (Tn 32 t) := by
    simp only [e]
    rw [feed_append, feed_append, feed_zeros, feed_zeros, Tn_zero, feed_num _ _ (by simp), BitVec.zero_xor]
    have : num ((List.range 32).map t.getLsbD) = t := by
      ext i hi
      rw [BitVec.getElem_eq_testBit_toNat, ← BitVec.getLsbD, num_bit, BitVec.getElem_eq_testBit_toNat, ← BitVec.getLsbD]
      simp [hi]
    rw [this]; simp
  rw [h5] at h4
  exact ht (Tn_ne _ _ (Tn_ne _ _ h4))
/-- what three make -/
theorem crc_xor (a b : W) (l m : List Byte) (h : l.length = m.length) : crc (a ^^^ b) (List.zipWith (· ^^^ ·) l m) = crc a l ^^^ crc b m := by
  induction l generalizing a b m with
  | nil =>
    have : m = [] := List.eq_nil_of_length_eq_zero (by simpa using h.symm)
    subst this; rfl
  | cons x l ih =>
    rcases m with _ | ⟨y, m⟩
    · simp at h
    · simp only [List.length_cons, Nat.add_right_cancel_iff] at h
      have e : crc (a ^^^ b) (List.zipWith (· ^^^ ·) (x :: l) (y :: m)) = crc (stepB (a ^^^ b) (x ^^^ y)) (List.zipWith (· ^^^ ·) l m) := rfl
      have e2 : stepB (a ^^^ b) (x ^^^ y) = stepB a x ^^^ stepB b y := by
        unfold stepB
        rw [← Tn_xor, BitVec.setWidth_xor]
        congr 1
        ac_rfl
      rw [e, e2, ih _ _ _ h]
      rfl
theorem linear (l m n : List Byte) (h : l.length = m.length) (h' : l.length = n.length) :
    of (List.zipWith (· ^^^ ·) (List.zipWith (· ^^^ ·) l m) n) = of l ^^^ of m ^^^ of n := by
  unfold of
  have e : ones = (ones ^^^ ones) ^^^ ones := by decide
  have h1 : crc ones (List.zipWith (· ^^^ ·) (List.zipWith (· ^^^ ·) l m) n) = crc ones l ^^^ crc ones m ^^^ crc ones n := by
    conv => lhs; rw [e]
    rw [crc_xor _ _ _ _ (by simp; omega), crc_xor _ _ _ _ h]
  rw [h1]
  have e2 : (crc ones l ^^^ ones) ^^^ (crc ones m ^^^ ones) ^^^ (crc ones n ^^^ ones) = (crc ones l ^^^ crc ones m ^^^ crc ones n) ^^^ ((ones ^^^ ones) ^^^ ones) := by ac_rfl
  rw [e2, ← e]
/-- by a table of four bits -/
def nib (w : W) : W := Tn 4 (w &&& 15#32) ^^^ (w >>> 4)
theorem nib_eq (w : W) : nib w = Tn 4 w := by
  unfold nib
  have e : w = (w &&& 15#32) ^^^ ((w >>> 4) <<< 4) := by
    ext i hi
    simp only [BitVec.getElem_xor, BitVec.getElem_and, BitVec.getElem_shiftLeft]
    have h15 : ∀ i, (h : i < 32) → (15#32 : W)[i] = decide (i < 4) := by decide
    rw [h15 i hi]
    rcases Nat.lt_or_ge i 4 with h | h
    · simp [h]
    · have h4 : ¬ i < 4 := by omega
      simp [h4, BitVec.getElem_ushiftRight, h, BitVec.getLsbD_eq_getElem hi]
  have s : ∀ x : W, x <<< 4 = (((x <<< 1) <<< 1) <<< 1) <<< 1 := by
    intro x; simp only [← BitVec.shiftLeft_add]
  have hb : ∀ i, 28 ≤ i → (w >>> 4).getLsbD i = false := by
    intro i hi
    rw [BitVec.getLsbD_ushiftRight]
    exact BitVec.getLsbD_of_ge _ _ (by omega)
  have h4 : Tn 4 ((w >>> 4) <<< 4) = w >>> 4 := by
    rw [s]
    simp only [Tn]
    rw [T_shl, T_shl, T_shl, T_shl]
    · exact hb _ (by omega)
    · rw [BitVec.getLsbD_shiftLeft, hb _ (by omega)]; simp
    · rw [BitVec.getLsbD_shiftLeft, BitVec.getLsbD_shiftLeft, hb _ (by omega)]; simp
    · rw [BitVec.getLsbD_shiftLeft, BitVec.getLsbD_shiftLeft, BitVec.getLsbD_shiftLeft, hb _ (by omega)]; simp
  have h5 : Tn 4 w = Tn 4 ((w &&& 15#32) ^^^ ((w >>> 4) <<< 4)) := by rw [← e]
  rw [h5, Tn_xor, h4]
theorem stepB_nib (w : W) (b : Byte) : stepB w b = nib (nib (w ^^^ b.setWidth 32)) := by
  rw [nib_eq, nib_eq, stepB, ← Tn_add]
end Crc
end Go.Proofs.Ytnaidihoijociaa
