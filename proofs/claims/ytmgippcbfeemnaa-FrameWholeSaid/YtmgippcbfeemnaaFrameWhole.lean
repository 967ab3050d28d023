/- FrameWhole: the walk. -/
import Derived.Test.YtmgippcbfeemnaaFrameTwo
import Derived.Test.YtmgippcbfeemnaaSumTurned
namespace Go.Proofs.Ytmgippcbfeemnaa
open Go.RowKit Bs
namespace Crc
theorem whole_cut {v : Int} {body : List Byte} {k : Nat} (h0 : 0 ≤ v) (h1 : v ≤ 4294967295) (hb : body.length ≤ 1000) (hk : k < body.length + 16) : isFrame ((frame v body).take k) = false := by
  rcases Nat.lt_or_ge k 16 with h | h
  · cases hf : isFrame ((frame v body).take k) with
    | false => rfl
    | true =>
      have := (is_frame hf).1
      simp at this; omega
  · refine not_frame (frame_is v body h0 h1 (by omega)).1 ?_ ?_
    · rw [List.take_take, Nat.min_eq_left (by omega)]
    · rw [List.length_take, frame_len]; omega
theorem whole_more {v : Int} {body more : List Byte} (h0 : 0 ≤ v) (h1 : v ≤ 4294967295) (hb : body.length ≤ 1000) (hm : more ≠ []) : isFrame (frame v body ++ more) = false := by
  refine not_frame (frame_is v body h0 h1 (by omega)).1 ?_ ?_
  · rw [List.take_append_of_le_length (by rw [frame_len]; omega)]
  · have := List.length_pos_iff.2 hm
    rw [List.length_append, frame_len]; omega
theorem whole_turned {v : Int} {body : List Byte} {k : Nat} {t : W} (ht : t ≠ 0#32) (hk : k + 32 ≤ 8 * (body.length + 16)) : isFrame (fl (frame v body) k t 32) = false := by
  have := fl_no (inner v body) k t ht (by rw [put_len, inner_len]; omega)
  unfold isFrame
  have e : fl (frame v body) k t 32 = fl (put (inner v body)) k t 32 := rfl
  rw [e, this]; simp
end Crc
namespace frameWhole
open Crc
set_option maxRecDepth 100000 in
set_option maxHeartbeats 4000000 in
theorem core (v : Int) (A : Option Addr) (n c : Nat) (at_ : Int) (t : W) (m : Byte) (bs : List Byte) (w : World) (h : Bs w w.heap.size A n bs) (hn : n ≤ 1000) (ha : 0 ≤ at_ ∧ at_ ≤ 65535) (h0 : 0 ≤ v) (h1 : v ≤ 4294967295) :
    Calls Try.prog 9 #[.int .u32 v, .slice A n c, .int .u16 at_, .int .u32 (n32 t), .int .u8 (n8 m)] w fun e w' => e = .returned (.bool true) ∧ Below w.heap.size w w' := by
  have hln := h.len
  obtain ⟨q1, q2, q3⟩ := frame_is v bs h0 h1 (by omega)
  have Hq1 := Lib.hid q1
  have Hq2 := Lib.hid q2
  have Hq3 := Lib.hid q3
  have Hln := Lib.hid hln
  have e16 : n + 16 - 16 = n := by omega
  obtain ⟨j, hj, hj0, hj1⟩ : ∃ j : Nat, at_ % ((n : Int) + 16) = j ∧ 0 ≤ (j : Int) ∧ j < n + 16 := by
    have h1 := Int.emod_nonneg at_ (show (n : Int) + 16 ≠ 0 by omega)
    have h2 := Int.emod_lt_of_pos at_ (show 0 < (n : Int) + 16 by omega)
    exact ⟨(at_ % ((n : Int) + 16)).toNat, by omega, by omega, by omega⟩
  obtain ⟨k, hk, hk0, hk1⟩ : ∃ k : Nat, at_ % (8 * ((n : Int) + 16) - 31) = k ∧ 0 ≤ (k : Int) ∧ k + 32 ≤ 8 * (n + 16) := by
    have h1 := Int.emod_nonneg at_ (show 8 * ((n : Int) + 16) - 31 ≠ 0 by omega)
    have h2 := Int.emod_lt_of_pos at_ (show 0 < 8 * ((n : Int) + 16) - 31 by omega)
    exact ⟨(at_ % (8 * ((n : Int) + 16) - 31)).toNat, by omega, by omega, by omega⟩
  have Hcut := Lib.hid (whole_cut (v := v) (body := bs) (k := j) h0 h1 (by omega) (by omega))
  have Hmore := Lib.hid (whole_more (v := v) (body := bs) (more := [m]) h0 h1 (by omega) (by simp))
  have Hno' := Lib.hid (fun ht : t ≠ 0#32 => whole_turned (v := v) (body := bs) (k := k) ht (by rw [hln]; exact hk1))
  have htn := n32_eq t 0#32
  have htz : n32 0#32 = 0 := rfl
  rw [htz] at htn
  have Htn := Lib.hid htn
  obtain ⟨t0, t1⟩ := n32_bd t
  obtain ⟨m0, m1⟩ := n8_bd m
  obtain ⟨ha0, ha1⟩ := ha
  have hj1' : (j : Int) ≤ (n : Int) + 16 := by omega
  clear hln q1 q2 q3 htn htz
  go_enter Try.func9, Try.ntmps9
  go_wp2_with fail
  refine (fawake_c _).mono ?_
  rintro e w1 ⟨rfl, hb1⟩
  have z1 := hb1.size
  go_wp2_with fail
  refine (fput_c v A n c bs _ h0 h1 (by omega) ((h.below hb1).more z1)).mono ?_
  rintro e w3 ⟨A3, c3, e3, O3', hb3⟩
  rw [Hln.out] at e3 O3'
  have O3 : Crc.Own w3 w1.heap.size A3 (n + 16) c3 (frame v bs) := O3'
  subst e3
  have L3 : Below w.heap.size w w3 := hb1.trans (hb3.mono z1)
  have z3 := L3.size
  have z3' := hb3.size
  clear hb3 hb1 O3'
  go_wp2_with fail
  refine (fget_yes A3 (n + 16) c3 (frame v bs) _ O3.bs (by omega) O3.le.1 O3.le.2 Hq1.out).mono ?_
  rintro e w4 ⟨A4, c4, e4, B4, _, hb4⟩
  rw [e16, Hq2.out] at e4
  rw [e16, Hq3.out] at B4
  subst e4
  have L4 : Below w.heap.size w w4 := L3.trans (hb4.mono z3)
  have z4 := L4.size
  have X4 : Crc.Own w4 w1.heap.size A3 (n + 16) c3 (frame v bs) := own_below O3 hb4 (Nat.le_refl _)
  have z34 := hb4.size
  clear hb4 O3 L3
  go_wp2_with fail
  refine (same_c A4 A n c4 n c _ _ bs bs _ B4 (h.below L4)).mono ?_
  rw [decide_eq_true rfl]
  rintro e w' ⟨rfl, rfl⟩
  clear B4
  have hle := X4.le
  unfold maxLen at hle
  have hle1 : (n : Int) + 16 ≤ (c3 : Int) := by omega
  have hjc : (j : Int) ≤ (c3 : Int) := by omega
  obtain ⟨g, _, _, rfl, _⟩ := X4.at_ (k := 0) (by omega)
  have B5 : Bs w4 w4.heap.size (some ⟨g, 0, none⟩) j ((frame v bs).take j) := by
    have := X4.bs
    rw [show n + 16 = j + (n + 16 - j) from by omega] at this
    exact Bs.front this
  go_wp2_with fail
  refine (fget_no (some ⟨g, 0, none⟩) j c3 ((frame v bs).take j) _ B5 (by omega) (by omega) X4.le.2 Hcut.out).mono ?_
  rintro e w5 ⟨rfl, hb5⟩
  have L5 : Below w.heap.size w w5 := L4.trans (hb5.mono z4)
  have X5 : Crc.Own w5 w1.heap.size (some ⟨g, 0, none⟩) (n + 16) c3 (frame v bs) := own_below X4 hb5 (Nat.le_refl _)
  have z5 := hb5.size
  clear hb5 B5 X4 L4
  have hown0 := Mem.own_lit (w := w5) (base := w5.heap.size) (n := 0) (size := 1) (e := 5) (cs := #[]) (xs := []) rfl (by omega) (by simp) rfl rfl
  go_wp2_with (at_builtin; first
        | (refine Mem.wpList_app rfl rfl elb (base := w5.heap.size) hown0 rfl rfl (Mem.Sl.alloc X5.bs (Nat.le_refl _) _) (one_bs _) (N := n + 16) (ys := (frame v bs).map bv) (by omega) (by simp) (by unfold maxLen; omega) (by omega) (by simp) ?_; intro A6 c6 w6 O6 hg6 hat6
           have L6 : Below w5.heap.size w5 w6 := ((Below.refl _ _).alloc (Nat.le_refl _) _).grown hg6 (by simp) (fun k hk => (hown0.lt k hk).1)
           clear hown0 hg6 hat6)
        | (refine Mem.wpList_app rfl rfl elb (base := w5.heap.size) (O6.alloc _) rfl rfl (Mem.new_sl (n := 1) (xs := [.int .u8 (n8 m)]) rfl rfl rfl) (by simp [Value.oneCell']) (N := n + 17) (ys := (frame v bs ++ [m]).map bv) (by omega) (by simp [bv_n8]) (by unfold maxLen; omega) (by omega) (by have := L6.size; simp; omega) ?_; intro A7 c7 w7 O7 hg7 hat7
           have L7 : Below w5.heap.size w5 w7 := (L6.alloc L6.size _).grown hg7 (by have := L6.size; simp; omega) (fun k hk => (World.ownsRow.lt O6 k hk).1)
           have M7 : Crc.Own w7 w5.heap.size A7 (n + 17) c7 (frame v bs ++ [m]) := O7
           clear hg7 hat7 O7 L6 O6))
  refine (fget_no A7 (n + 17) c7 (frame v bs ++ [m]) _ M7.bs (by omega) M7.le.1 M7.le.2 Hmore.out).mono ?_
  rintro e w8 ⟨rfl, hb8⟩
  have L8' : Below w5.heap.size w5 w8 := L7.trans (hb8.mono L7.size)
  have L7' : Below w.heap.size w w8 := L5.trans (L8'.mono (by omega))
  have X7 : Crc.Own w8 w1.heap.size (some ⟨g, 0, none⟩) (n + 16) c3 (frame v bs) := own_below X5 L8' (Nat.le_refl _)
  clear L7 M7 hb8 X5 L8' L5
  rename Below w.heap.size w w8 => L7
  have htb := Htn.out
  by_cases htt : t = 0#32
  · have hz : (n32 t == 0) = true := by rw [htb]; simp [htt]
    clear htt htb
    go_wp2
    go_ret
    exact ⟨rfl, L7⟩
  · have hz : (n32 t == 0) = false := by rw [htb]; simp [htt]
    have Hno := Lib.hid (Hno'.out htt)
    clear htt htb
    go_wp2_with fail
    go_loopw [24] (fun vi wr => ∃ j : Nat, j ≤ 32 ∧ vi = .int .i64 j ∧ Below w.heap.size w wr ∧ Crc.Own wr w1.heap.size (some ⟨g, 0, none⟩) (n + 16) c3 (fl (frame v bs) k t j)) (fun i _ => 32 - (intOf i).toNat)
    case atStart => exact ⟨0, by omega, rfl, L7, X7⟩
    case round =>
      clear L7 X7
      obtain ⟨j, hj, rfl, hbr, X5⟩ := hrel
      by_cases hlt : j < 32
      · have hbt := bit_at t j
        cases htj : t.getLsbD j with
        | true =>
          rw [htj] at hbt
          obtain ⟨p, hp, hpl⟩ : ∃ p, p = (k + j) / 8 ∧ p < n + 16 := ⟨_, rfl, by omega⟩
          obtain ⟨r, hr, hrl⟩ : ∃ r, r = (k + j) % 8 ∧ r < 8 := ⟨_, rfl, by omega⟩
          obtain ⟨g', b, hl, hgg, hg1, hg2, hbe, hcell, hfz, hset⟩ := X5.at_ hpl
          obtain rfl : g = g' := by simpa using hgg
          clear hgg
          have Hset := Lib.hid (hset (b ^^^ (1#8 <<< r)))
          have Hfl : Hid (fl (frame v bs) k t (j + 1) = (fl (frame v bs) k t j).set p (b ^^^ (1#8 <<< r))) := by
            show _ = _
            rw [fl, if_pos htj, ← hp, ← hr]
            congr 2
            rw [← hbe]; simp [List.getD_eq_getElem?_getD, hl]
          have e1 : ((k : Int) + j) / 8 = p := by omega
          have e2 : ((k : Int) + j) % 8 = r := by omega
          have e3 := pow_bit r hrl
          have f1 := xor8 b (1#8 <<< r)
          clear hset htj hp hr hbe hl
          generalize n8 (b ^^^ (1#8 <<< r)) = Y at *
          generalize n8 (1#8 <<< r) = V at *
          generalize n8 b = X at *
          go_wp2
          go_roundw
          case rel => exact ⟨j + 1, by omega, by go_num, hbr.setCell (by simp; omega) _, by rw [Hfl.out]; exact Hset.out⟩
          case measure => simp [intOf]; omega
        | false =>
          rw [htj] at hbt
          have Hfl : Hid (fl (frame v bs) k t (j + 1) = fl (frame v bs) k t j) := by
            show _ = _
            rw [fl, if_neg (by rw [htj]; simp)]
          clear htj
          go_wp2
          go_roundw
          case rel => exact ⟨j + 1, by omega, by go_num, hbr, by rw [Hfl.out]; exact X5⟩
          case measure => simp [intOf]; omega
      · obtain rfl : j = 32 := by omega
        go_wp2_with fail
        refine (fget_no (some ⟨g, 0, none⟩) (n + 16) c3 (fl (frame v bs) k t 32) _ X5.bs (by omega) X5.le.1 X5.le.2 Hno.out).mono ?_
        rintro e w5 ⟨rfl, hb5⟩
        go_wp2
        go_ret
        exact ⟨rfl, hbr.trans (hb5.mono hbr.size)⟩
theorem walk (v1 v2 v3 v4 v5 : Value) (w : World) (h1 : Frame.Arg Try.prog w 24 v1) (h2 : Frame.Arg Try.prog w 22 v2) (h3 : Frame.Arg Try.prog w 30 v3) (h4 : Frame.Arg Try.prog w 24 v4) (h5 : Frame.Arg Try.prog w 5 v5) :
    Calls Try.prog 9 #[v1, v2, v3, v4, v5] w fun e w' => e = .returned (.bool true) ∧ Below w.heap.size w w' := by
  obtain ⟨v, rfl, hv⟩ := h1.int Try.underlying24
  obtain ⟨A, n, c, a, rfl, hc, hm, hr⟩ := arg_bs h2 Try.underlying22 Try.underlying5 (by kernel_rfl)
  obtain ⟨at_, rfl, hat⟩ := h3.int Try.underlying30
  obtain ⟨ti, rfl, hti⟩ := h4.int Try.underlying24
  obtain ⟨mi, rfl, hmi⟩ := h5.int Try.underlying5
  obtain ⟨b0, b1⟩ := Frame.bd_u32 hv
  have hat := Frame.bd_u16 hat
  obtain ⟨t0, t1⟩ := Frame.bd_u32 hti
  obtain ⟨m0, m1⟩ := Frame.bd_u8 hmi
  clear hti hmi hv
  by_cases hs : n ≤ 1000
  · have e : ti = n32 (BitVec.ofNat 32 ti.toNat) := by unfold n32; rw [BitVec.toNat_ofNat, Nat.mod_eq_of_lt (by omega)]; omega
    have e' : mi = n8 (BitVec.ofNat 8 mi.toNat) := by unfold n8; rw [BitVec.toNat_ofNat, Nat.mod_eq_of_lt (by omega)]; omega
    rw [e, e']
    exact core v A n c at_ _ _ a w hr hs hat b0 b1
  · have h : 1000 < n := by omega
    clear hs
    unfold maxLen at hm
    go_enter Try.func9, Try.ntmps9
    go_wp2_with fail
    refine (fawake_c _).mono ?_
    rintro e w1 ⟨rfl, hb1⟩
    go_wp2_with fail
    refine (fawake_c _).mono ?_
    rintro e w2 ⟨rfl, hb2⟩
    go_wp2
    go_ret
    exact ⟨rfl, hb1.trans (hb2.mono hb1.size)⟩
end frameWhole
end Go.Proofs.Ytmgippcbfeemnaa
