/- The walks of the reference of layer 8 (sum). -/
import Derived.Test.YtnaidihoijociaaSumW
namespace Go.Proofs.Ytnaidihoijociaa
open Go.RowKit Bs
namespace Crc
theorem lsb2 (w : W) : (n32 w % (2 : Int) == 1) = w.getLsbD 0 := by
  unfold n32
  rw [BitVec.getLsbD]
  by_cases h : w.toNat % 2 = 1
  · have : ((w.toNat : Int) % 2) = 1 := by omega
    simp [h, this]
  · have h0 : w.toNat % 2 = 0 := by omega
    have : ((w.toNat : Int) % 2) = 0 := by omega
    simp [h0, this]
set_option maxRecDepth 100000 in
set_option maxHeartbeats 1000000 in
theorem rof_c (A : Option Addr) (n c B : Nat) (bs : List Byte) (w : World) (h : Bs w B A n bs) (hn : n ≤ 9223372036854775807) :
    Calls Try.prog 63 #[.slice A n c] w fun e w' => e = .returned (.int .u32 (n32 (of bs))) ∧ w = w' := by
  have hln := Lib.hid h.len
  go_enter Try.func63, Try.ntmps63
  go_wp2
  go_loop [3, 4] (fun v3 v4 => ∃ k : Nat, k ≤ n ∧ v4 = .int .i64 k ∧ v3 = .int .u32 (n32 (crc ones (bs.take k)))) (fun _ i => n - (intOf i).toNat)
  case atStart => exact ⟨0, by omega, rfl, rfl⟩
  case round =>
    obtain ⟨k, hk, rfl, rfl⟩ := hrel
    by_cases hlt : k < n
    · obtain ⟨ad, b, hl, rfl, _, hbe, hcb⟩ := h.at_ hlt
      have HS : Hid (crc ones (bs.take (k + 1)) = Tn 8 (crc ones (bs.take k) ^^^ b.setWidth 32)) := by
        show crc _ _ = _
        rw [Mem.take_snoc _ _ hl, hbe, crc_append]; rfl
      clear hbe
      generalize crc ones (bs.take k) = st at *
      obtain ⟨b0, b1⟩ := n8_bd b
      obtain ⟨s0, s1⟩ := n32_bd st
      have f1 : bits .xor .u32 (n32 st) (n8 b) = n32 (st ^^^ b.setWidth 32) := by rw [← set32]; exact xor32 _ _
      generalize st ^^^ b.setWidth 32 = x1 at *
      go_wp2
      go_loop [3, 5] (fun v3 v5 => ∃ j : Nat, j ≤ 8 ∧ v5 = .int .i64 j ∧ v3 = .int .u32 (n32 (Tn j x1))) (fun _ i => 8 - (intOf i).toNat)
      case atStart => exact ⟨0, by omega, rfl, rfl⟩
      case round =>
        obtain ⟨j, hj, rfl, rfl⟩ := hrel
        by_cases hjt : j < 8
        · have HT := Lib.hid (Tn_snoc j x1)
          generalize Tn j x1 = y at *
          obtain ⟨hy1, hy2⟩ := n32_bd y
          have g1 := shr1 y
          have g2 := xorp (y >>> 1)
          have hl2 := lsb2 y
          generalize n32 y = Y at *
          obtain ⟨Y1, hY1⟩ : ∃ Y1, n32 (y >>> 1) = Y1 := ⟨_, rfl⟩
          obtain ⟨Y2, hY2⟩ : ∃ Y2, n32 ((y >>> 1) ^^^ 3988292384#32) = Y2 := ⟨_, rfl⟩
          rw [hY1] at g1 g2
          rw [hY2] at g2
          have H1 := Lib.hid hY1
          have H2 := Lib.hid hY2
          clear hY1 hY2
          cases hy0 : y.getLsbD 0 with
          | true =>
            have HT2 := Lib.hid (T_odd hy0)
            rw [hy0] at hl2
            clear hy0
            go_wp2
            go_round
            case rel => exact ⟨j + 1, by omega, by go_num, by rw [HT.out, HT2.out, H2.out]⟩
            case measure => simp [intOf]; omega
          | false =>
            have HT2 := Lib.hid (T_even hy0)
            rw [hy0] at hl2
            clear hy0
            go_wp2
            go_round
            case rel => exact ⟨j + 1, by omega, by go_num, by rw [HT.out, HT2.out, H1.out, ← g1]⟩
            case measure => simp [intOf]; omega
        · obtain rfl : j = 8 := by omega
          rw [← HS.out]
          go_wp2
          go_round
          case rel => exact ⟨k + 1, by omega, by go_num, rfl⟩
          case measure => simp [intOf]; omega
    · obtain rfl : k = n := by omega
      have f1 := xor1s (crc ones bs)
      have e : bs.take k = bs := List.take_of_length_le (by have := hln.out; omega)
      rw [e]
      have f2 : Hid (crc ones bs ^^^ ones = of bs) := rfl
      rw [f2.out] at f1
      clear e
      go_wp2
      go_ret
      exact ⟨rfl, rfl⟩
/-- a word's bytes, the first i -/
def lebytes (s : W) : Nat → List Byte
  | 0 => []
  | i + 1 => lebytes s i ++ [(s >>> (8 * i)).setWidth 8]
theorem lebytes4 (s : W) : lebytes s 4 = le4 s := by simp [lebytes, le4]
theorem b0m (x : W) : n32 x % (256 : Int) = n8 (x.setWidth 8) := by
  unfold n32 n8
  rw [BitVec.toNat_setWidth]
  omega
theorem shr8 (x : W) : n32 x / (256 : Int) = n32 (x >>> 8) := shr32 x 8
set_option maxRecDepth 100000 in
theorem rput_c (A : Option Addr) (n c : Nat) (bs : List Byte) (w : World) (h : Bs w w.heap.size A n bs) (hn : n ≤ 140737488355324) :
    Calls Try.prog 51 #[.slice A n c] w (OwnSaid (n + 4) (put bs) w) := by
  have hln := Lib.hid h.len
  go_enter Try.func51, Try.ntmps51
  go_wp2_with fail
  refine (rof_c A n c _ bs _ h (by omega)).mono ?_
  rintro e w1 ⟨rfl, rfl⟩
  go_wp2_with (at_builtin; refine Mem.wpList_app rfl rfl elb (base := w.heap.size) (Mem.own_lit (by simp) (by omega) (by simp) rfl rfl) rfl rfl (Mem.Sl.alloc h (Nat.le_refl _) _) (one_bs _) (N := n) (ys := bs.map bv) (by omega) (by simp) (by unfold maxLen; omega) (by omega) (by simp) ?_; intro A2 c2 w2 hown2 hg2 hat2)
  have hb2 : Below w.heap.size w w2 := ((Below.refl _ _).alloc (Nat.le_refl _) _).grown hg2 (by simp) (by intro k hk; simp [Value.ownBlock] at hk; omega)
  clear hg2 hat2
  have HP : Hid (bs ++ le4 (of bs) = put bs) := rfl
  generalize of bs = s at *
  go_loopw [3, 4, 5] (fun v3 v4 v5 wr => ∃ i : Nat, i ≤ 4 ∧ v5 = .int .i64 i ∧ v3 = .int .u32 (n32 (s >>> (8 * i))) ∧ Below w.heap.size w wr ∧ ∃ A' c', v4 = .slice A' (n + i) c' ∧ Own wr w.heap.size A' (n + i) c' (bs ++ lebytes s i)) (fun _ _ i _ => 4 - (intOf i).toNat)
  case atStart => exact ⟨0, by omega, rfl, by simp, hb2, A2, c2, rfl, by simpa [lebytes] using hown2⟩
  case round =>
    clear hb2 hown2
    obtain ⟨i, hi, rfl, rfl, hbr, A', c', rfl, hown⟩ := hrel
    by_cases hlt : i < 4
    · have k1 := b0m (s >>> (8 * i))
      have k2 := shr8 (s >>> (8 * i))
      have hsh : Hid (s >>> (8 * i) >>> 8 = s >>> (8 * (i + 1))) := by
        show _ = _
        rw [← BitVec.shiftRight_add]; congr 1
      rw [hsh.out] at k2
      have Hk2 := Lib.hid k2
      clear k2
      have hput : Hid ((bs ++ lebytes s i).map bv ++ [.int .u8 (n8 ((s >>> (8 * i)).setWidth 8))] = (bs ++ lebytes s (i + 1)).map bv) := by
        show _ = _
        simp [lebytes, bv_n8]
      obtain ⟨y0, y1⟩ := n8_bd ((s >>> (8 * i)).setWidth 8)
      obtain ⟨z0, z1⟩ := n32_bd (s >>> (8 * i))
      generalize n8 ((s >>> (8 * i)).setWidth 8) = Y at *
      generalize n32 (s >>> (8 * i)) = X at *
      go_wp2_with (at_builtin; refine Mem.wpList_app rfl rfl elb (base := w.heap.size) (hown.alloc _) rfl rfl (Mem.new_sl (n := 1) (xs := [.int .u8 Y]) rfl rfl rfl) (by simp [Value.oneCell']) (N := n + (i + 1)) (ys := (bs ++ lebytes s (i + 1)).map bv) (by omega) hput.out (by unfold maxLen; omega) (by omega) (by have := hbr.size; simp; omega) ?_; intro A3 c3 w3 hown3 hg3 hat3)
      go_roundw
      case rel => exact ⟨i + 1, by omega, by go_num, by rw [← Hk2.out], (hbr.alloc hbr.size _).grown hg3 (by have := hbr.size; simp; omega) (fun k hk => (hown.lt k hk).1), A3, c3, rfl, hown3⟩
      case measure => simp [intOf]; omega
    · obtain rfl : i = 4 := by omega
      have e : bs ++ lebytes s 4 = put bs := by rw [lebytes4]; exact HP.out
      rw [e] at hown
      clear e
      go_wp2
      go_ret
      exact ⟨A', c', rfl, hown, hbr⟩
end Crc
end Go.Proofs.Ytnaidihoijociaa
