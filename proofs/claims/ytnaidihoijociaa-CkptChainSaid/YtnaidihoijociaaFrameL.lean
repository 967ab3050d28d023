/- The plain law of layer 9 (frame): frames as lists of bytes. No Go in sight. -/
import Derived.Test.YtnaidihoijociaaFrameW
namespace Go.Proofs.Ytnaidihoijociaa
open Bs
namespace Crc
def magic : List Byte := [66#8, 76#8, 71#8, 49#8]
def w32 (n : Int) : W := BitVec.ofNat 32 n.toNat
/-- what is summed -/
def inner (v : Int) (body : List Byte) : List Byte := magic ++ (le4 (w32 v) ++ (le4 (w32 body.length) ++ body))
def frame (v : Int) (body : List Byte) : List Byte := put (inner v body)
theorem put_len (l : List Byte) : (put l).length = l.length + 4 := by simp [put, le4]
theorem put_front (l : List Byte) : (put l).take l.length = l := by unfold put; exact List.take_left
theorem put_inj {a b : List Byte} (h : put a = put b) : a = b := by
  have hl : a.length = b.length := by have := congrArg List.length h; rw [put_len, put_len] at this; omega
  rw [← put_front a, h, hl, put_front]
theorem inner_len (v : Int) (body : List Byte) : (inner v body).length = body.length + 12 := by simp [inner, magic, le4]
theorem frame_len (v : Int) (body : List Byte) : (frame v body).length = body.length + 16 := by unfold frame; rw [put_len, inner_len]
theorem n8_set (x : W) (k : Nat) : n8 ((x >>> k).setWidth 8) = n32 x / (2 ^ k : Nat) % 256 := by
  rw [shr32]
  unfold n8 n32
  rw [BitVec.toNat_setWidth]
  omega
theorem n8_set0 (x : W) : n8 (x.setWidth 8) = n32 x % 256 := by
  unfold n8 n32
  rw [BitVec.toNat_setWidth]
  omega
theorem numLE_le4 (x : W) : numLE (le4 x) = n32 x := by
  have h0 := n8_set0 x
  have h1 := n8_set x 8
  have h2 := n8_set x 16
  have h3 := n8_set x 24
  have hb := n32_bd x
  unfold numLE le4
  simp only [List.getD_cons_zero, List.getD_cons_succ]
  rw [h0, h1, h2, h3]
  have e1 : ((2 ^ 8 : Nat) : Int) = 256 := by decide
  have e2 : ((2 ^ 16 : Nat) : Int) = 65536 := by decide
  have e3 : ((2 ^ 24 : Nat) : Int) = 16777216 := by decide
  rw [e1, e2, e3]
  omega
theorem n32_w32 {n : Int} (h0 : 0 ≤ n) (h1 : n ≤ 4294967295) : n32 (w32 n) = n := by unfold n32 w32; rw [BitVec.toNat_ofNat, Nat.mod_eq_of_lt (by omega)]; omega
theorem numLE_bd (l : List Byte) : 0 ≤ numLE l ∧ numLE l ≤ 4294967295 := by
  have h0 := n8_bd (l.getD 0 0#8)
  have h1 := n8_bd (l.getD 1 0#8)
  have h2 := n8_bd (l.getD 2 0#8)
  have h3 := n8_bd (l.getD 3 0#8)
  unfold numLE; omega
theorem le4_inj {a b : W} (h : le4 a = le4 b) : a = b := by
  have := congrArg numLE h
  rw [numLE_le4, numLE_le4] at this
  exact n32_inj this
theorem le4_numLE (l : List Byte) (h : l.length = 4) : le4 (w32 (numLE l)) = l := by
  match l, h with
  | [a, b, c, d], _ =>
    obtain ⟨q0, q1⟩ := numLE_bd [a, b, c, d]
    have e : n32 (w32 (numLE [a, b, c, d])) = n8 a + 256 * n8 b + 65536 * n8 c + 16777216 * n8 d := n32_w32 q0 q1
    have ha := n8_bd a
    have hb := n8_bd b
    have hc := n8_bd c
    have hd := n8_bd d
    generalize w32 (numLE [a, b, c, d]) = x at *
    have h0 := n8_set0 x
    have h1 := n8_set x 8
    have h2 := n8_set x 16
    have h3 := n8_set x 24
    have e1 : ((2 ^ 8 : Nat) : Int) = 256 := by decide
    have e2 : ((2 ^ 16 : Nat) : Int) = 65536 := by decide
    have e3 : ((2 ^ 24 : Nat) : Int) = 16777216 := by decide
    rw [e1] at h1; rw [e2] at h2; rw [e3] at h3
    rw [e] at h0 h1 h2 h3
    have r0 : x.setWidth 8 = a := n8_inj (by rw [h0]; omega)
    have r1 : (x >>> 8).setWidth 8 = b := n8_inj (by rw [h1]; omega)
    have r2 : (x >>> 16).setWidth 8 = c := n8_inj (by rw [h2]; omega)
    have r3 : (x >>> 24).setWidth 8 = d := n8_inj (by rw [h3]; omega)
    unfold le4
    rw [r0, r1, r2, r3]
/-- what stands ahead of the sum -/
def coreOf (b : List Byte) : List Byte := b.take (b.length - 4)
def verOf (b : List Byte) : Int := numLE (((coreOf b).drop 4).take 4)
def lenOf (b : List Byte) : Int := numLE (((coreOf b).drop 8).take 4)
def bodyOf (b : List Byte) : List Byte := (coreOf b).drop 12
/-- is it a frame -/
def isFrame (b : List Byte) : Bool := cutOK b && decide (16 ≤ b.length) && decide ((coreOf b).take 4 = magic) && decide (lenOf b = (b.length : Int) - 16) && decide (b.length ≤ 1048592)
theorem coreOf_len (b : List Byte) (h : 4 ≤ b.length) : (coreOf b).length = b.length - 4 := by unfold coreOf; simp
theorem split12 (x : List Byte) (h : 12 ≤ x.length) : x = x.take 4 ++ ((x.drop 4).take 4 ++ ((x.drop 8).take 4 ++ x.drop 12)) := by
  have e1 : x.drop 12 = (x.drop 8).drop 4 := by rw [List.drop_drop]
  have e2 : x.drop 8 = (x.drop 4).drop 4 := by rw [List.drop_drop]
  rw [e1, List.take_append_drop, e2, List.take_append_drop, List.take_append_drop]
theorem coreOf_frame (v : Int) (body : List Byte) : coreOf (frame v body) = inner v body := by
  unfold coreOf
  rw [frame_len]
  have := put_front (inner v body)
  rw [inner_len] at this
  exact this
theorem inner_parts (v : Int) (body : List Byte) : (inner v body).take 4 = magic ∧ ((inner v body).drop 4).take 4 = le4 (w32 v) ∧ ((inner v body).drop 8).take 4 = le4 (w32 body.length) ∧ (inner v body).drop 12 = body := by
  unfold inner magic le4
  refine ⟨rfl, rfl, rfl, rfl⟩
/-- a frame is one -/
theorem frame_is (v : Int) (body : List Byte) (h0 : 0 ≤ v) (h1 : v ≤ 4294967295) (hb : body.length ≤ 1048576) :
    isFrame (frame v body) = true ∧ verOf (frame v body) = v ∧ bodyOf (frame v body) = body := by
  obtain ⟨p1, p2, p3, p4⟩ := inner_parts v body
  have hl := frame_len v body
  refine ⟨?_, ?_, ?_⟩
  · unfold isFrame lenOf
    rw [coreOf_frame, p1, p3, hl, numLE_le4, n32_w32 (by omega) (by omega)]
    have hc : cutOK (frame v body) = true := by
      rw [cutOK_long (m := body.length + 12) (by rw [hl])]
      have := put_front (inner v body)
      rw [inner_len] at this
      unfold frame
      rw [this]; simp
    rw [hc]
    simp
    omega
  · unfold verOf; rw [coreOf_frame, p2, numLE_le4, n32_w32 h0 h1]
  · unfold bodyOf; rw [coreOf_frame, p4]
theorem frame_inj {v v' : Int} {a b : List Byte} (h0 : 0 ≤ v) (h1 : v ≤ 4294967295) (h0' : 0 ≤ v') (h1' : v' ≤ 4294967295) (h : frame v a = frame v' b) : v = v' ∧ a = b := by
  have e := put_inj h
  obtain ⟨_, p2, _, p4⟩ := inner_parts v a
  obtain ⟨_, q2, _, q4⟩ := inner_parts v' b
  rw [e] at p2 p4
  have k := le4_inj (p2.symm.trans q2)
  have := congrArg n32 k
  rw [n32_w32 h0 h1, n32_w32 h0' h1'] at this
  exact ⟨this, p4.symm.trans q4⟩
/-- what is one is put as it stood -/
theorem is_frame {b : List Byte} (h : isFrame b = true) : 16 ≤ b.length ∧ b.length ≤ 1048592 ∧ (bodyOf b).length = b.length - 16 ∧ frame (verOf b) (bodyOf b) = b := by
  unfold isFrame at h
  simp only [Bool.and_eq_true, decide_eq_true_eq] at h
  obtain ⟨⟨⟨⟨h1, h2⟩, h3⟩, h4⟩, h5⟩ := h
  have hcl := coreOf_len b (by omega)
  have hbl : (bodyOf b).length = b.length - 16 := by unfold bodyOf; simp [hcl]; omega
  refine ⟨h2, h5, hbl, ?_⟩
  have hsp := split12 (coreOf b) (by omega)
  have e1 : le4 (w32 (verOf b)) = ((coreOf b).drop 4).take 4 := le4_numLE _ (by simp [hcl]; omega)
  have e2 : le4 (w32 ((bodyOf b).length : Nat)) = ((coreOf b).drop 8).take 4 := by
    have : ((bodyOf b).length : Int) = lenOf b := by rw [h4, hbl]; omega
    rw [this]; exact le4_numLE _ (by simp [hcl]; omega)
  unfold frame inner
  rw [e1, e2, ← h3]
  have : bodyOf b = (coreOf b).drop 12 := rfl
  rw [this, ← hsp]
  unfold cutOK at h1
  simp only [Bool.and_eq_true, decide_eq_true_eq] at h1
  exact h1.2
/-- the reference's way to ask -/
theorem isFrame_iff (b : List Byte) (v : Int) (h16 : 16 ≤ b.length) (hv : v = numLE ((b.drop 4).take 4)) : isFrame b = (decide (b.length ≤ 1048592) && decide (frame v ((b.take (b.length - 4)).drop 12) = b)) := by
  have hvv : v = verOf b := by
    rw [hv]; unfold verOf coreOf
    congr 1
    rw [List.drop_take, List.take_take]
    congr 1
    omega
  subst hvv
  have hbb : (b.take (b.length - 4)).drop 12 = bodyOf b := rfl
  rw [hbb]
  cases h : isFrame b with
  | true =>
    obtain ⟨_, k1, _, k2⟩ := is_frame h
    simp [k1, k2]
  | false =>
    symm
    simp only [Bool.and_eq_false_iff, decide_eq_false_iff_not]
    by_cases hl : b.length ≤ 1048592
    · refine .inr fun e => ?_
      have hbl : (bodyOf b).length ≤ 1048576 := by unfold bodyOf; simp [coreOf_len b (by omega)]; omega
      obtain ⟨q0, q1⟩ := numLE_bd (((coreOf b).drop 4).take 4)
      have := (frame_is (verOf b) (bodyOf b) q0 q1 hbl).1
      rw [e, h] at this
      cases this
    · exact .inl hl
end Crc
end Go.Proofs.Ytnaidihoijociaa
