/- SumKeeps: the walk. -/
import Derived.Test.YtmgippcbfeemnaaOwnB
namespace Go.Proofs.Ytmgippcbfeemnaa.sumKeeps
open Go.RowKit Bs Crc
theorem x255 (b : Byte) : bits .xor .u8 (n8 b) 255 = n8 (b ^^^ 255#8) := xor8 b 255#8
set_option maxRecDepth 100000 in
set_option maxHeartbeats 2000000 in
theorem core (A : Option Addr) (n c : Nat) (bs : List Byte) (w : World) (h : Bs w w.heap.size A n bs) (hn : n ≤ 1000) :
    Calls Try.prog 6 #[.slice A n c] w fun e w' => e = .returned (.bool true) ∧ Below w.heap.size w w' := by
  have hln := h.len
  have hcokH := Lib.hid (cutOK_long (bs := put bs) (m := n) (by simp [put, le4, hln]))
  have htk : Hid ((put bs).take n = bs) := by show _ = _; unfold put; rw [← hln]; exact List.take_left
  have Hcok : Hid (cutOK (put bs) = true) := by show _ = _; rw [hcokH.out, htk.out]; simp
  clear hln hcokH
  go_enter Try.func6, Try.ntmps6
  go_wp2_with fail
  refine (awake_c _).mono ?_
  rintro e w1 ⟨rfl, hb1⟩
  have z1 := hb1.size
  have hown0 := Mem.own_lit (w := w1) (base := w.heap.size) (n := 0) (size := 1) (e := 5) (cs := #[]) (xs := []) rfl (by omega) (by simp) rfl rfl
  go_wp2_with (at_builtin; refine Mem.wpList_app rfl rfl elb (base := w.heap.size) hown0 rfl rfl (Mem.Sl.alloc (h.below hb1) z1 _) (one_bs _) (N := n) (ys := bs.map bv) (by omega) (by simp) (by unfold maxLen; omega) (by omega) (by simp; omega) ?_; intro A2 c2 w2 O2 hg2 hat2)
  have L2 : Below w.heap.size w w2 := (hb1.alloc z1 _).grown hg2 (by simp; omega) (fun k hk => (hown0.lt k hk).1)
  have z2 := L2.size
  clear hown0 hg2 hat2 hb1 z1
  refine (put_c A n c bs _ ((h.below L2).more z2) (by omega)).mono ?_
  rintro e w3 ⟨A3, c3, rfl, O3, hb3⟩
  have L3 : Below w.heap.size w w3 := L2.trans (hb3.mono z2)
  have z3 := L3.size
  have z23 := hb3.size
  have P3 : Own w3 w.heap.size A2 n c2 bs := own_below O2 hb3 (Nat.le_refl _)
  have l2 := Own.lt O2
  have L2l := Lib.hid l2
  clear l2 O2 hb3 L2
  go_wp2_with fail
  refine (cut_yes A3 (n + 4) c3 (put bs) _ O3.bs (by omega) O3.le.1 O3.le.2 Hcok.out).mono ?_
  rintro e w4 ⟨A4, c4, rfl, O4', hb4⟩
  have O4 : Own w4 w3.heap.size A4 n c4 bs := by have := O4'; rw [show n + 4 - 4 = n from by omega, htk.out] at this; exact this
  have L4 : Below w.heap.size w w4 := L3.trans (hb4.mono z3)
  have z4 := L4.size
  have z34 := hb4.size
  have P4 : Own w4 w.heap.size A2 n c2 bs := own_below P3 hb4 (Nat.le_refl _)
  have X4 : Own w4 w2.heap.size A3 (n + 4) c3 (put bs) := own_below O3 hb4 (Nat.le_refl _)
  have L3l : Hid (∀ g, A3 = some ⟨g, 0, none⟩ → w2.heap.size ≤ g ∧ g < w3.heap.size) := Own.lt O3
  clear O4' hb4 P3 O3 L3
  go_wp2_with fail
  go_loopw [7] (fun vi wr => ∃ k : Nat, k ≤ n ∧ vi = .int .i64 k ∧ Below w.heap.size w wr ∧ w4.heap.size ≤ wr.heap.size ∧ (∃ ys, Own wr w3.heap.size A4 n c4 ys) ∧ Own wr w.heap.size A2 n c2 bs ∧ Own wr w2.heap.size A3 (n + 4) c3 (put bs)) (fun i _ => n - (intOf i).toNat)
  case atStart => exact ⟨0, by omega, rfl, L4, Nat.le_refl _, ⟨_, O4⟩, P4, X4⟩
  case round =>
    clear L4 O4 P4 X4
    obtain ⟨k, hk, rfl, hbr, hzr, ⟨ys, O5⟩, P5, X5⟩ := hrel
    by_cases hlt : k < n
    · obtain ⟨g, b, hl, rfl, hg1, hg2, _, hcell, hfz, hset⟩ := O5.at_ hlt
      have f1 := x255 b
      have Hset := Lib.hid (hset (b ^^^ 255#8))
      clear hset
      generalize n8 b = X at *
      generalize n8 (b ^^^ 255#8) = Y at *
      go_wp2
      go_roundw
      case rel => exact ⟨k + 1, by omega, by go_num, hbr.setCell (by simp; omega) _, by simpa using hzr, ⟨_, Hset.out⟩, P5.far (fun g' hg' => by have := (L2l.out g' hg').2; simp; omega) _, X5.far (fun g' hg' => by have := (L3l.out g' hg').2; simp; omega) _⟩
      case measure => simp [intOf]; omega
    · obtain rfl : k = n := by omega
      clear O5
      have zr := hbr.size
      go_wp2_with fail
      refine (rput_c A2 k c2 bs _ P5.bs (by omega)).mono ?_
      rintro e w5 ⟨A5, c5, rfl, O5, hb5⟩
      have L5 : Below w.heap.size w w5 := hbr.trans (hb5.mono zr)
      have z5 := hb5.size
      have P6 : Own w5 w.heap.size A2 k c2 bs := own_below P5 hb5 (Nat.le_refl _)
      have X6 : Own w5 w2.heap.size A3 (k + 4) c3 (put bs) := own_below X5 hb5 (Nat.le_refl _)
      clear hb5 hbr P5 X5
      go_wp2_with fail
      refine (same_c A3 A5 (k + 4) c3 (k + 4) c5 _ _ (put bs) (put bs) _ X6.bs O5.bs).mono ?_
      rw [decide_eq_true rfl]
      rintro e w' ⟨rfl, rfl⟩
      clear O5
      go_wp2_with fail
      go_loopw [9] (fun vi wr => ∃ j : Nat, j ≤ k + 4 ∧ vi = .int .i64 j ∧ Below w.heap.size w wr ∧ Own wr w.heap.size A2 k c2 bs ∧ ∃ ys, Own wr w2.heap.size A3 (k + 4) c3 ys) (fun i _ => k + 4 - (intOf i).toNat)
      case atStart => exact ⟨0, by omega, rfl, L5, P6, _, X6⟩
      case round =>
        clear L5 P6 X6
        obtain ⟨j, hj, rfl, hbr, P7, ys, X7⟩ := hrel
        by_cases hjt : j < k + 4
        · obtain ⟨g, b, hl, rfl, hg1, hg2, _, hcell, hfz, hset⟩ := X7.at_ hjt
          have f1 := x255 b
          have Hset := Lib.hid (hset (b ^^^ 255#8))
          clear hset
          generalize n8 b = X at *
          generalize n8 (b ^^^ 255#8) = Y at *
          go_wp2
          go_roundw
          case rel => exact ⟨j + 1, by omega, by go_num, hbr.setCell (by simp; omega) _, P7.far (fun g' hg' => by have := (L2l.out g' hg').2; simp; omega) _, _, Hset.out⟩
          case measure => simp [intOf]; omega
        · obtain rfl : j = k + 4 := by omega
          go_wp2_with fail
          refine (same_c A A2 k c k c2 _ _ bs bs _ (h.below hbr) P7.bs).mono ?_
          rw [decide_eq_true rfl]
          rintro e w' ⟨rfl, rfl⟩
          go_wp2
          go_ret
          exact ⟨rfl, hbr⟩
theorem walk (v1 : Value) (w : World) (h1 : Frame.Arg Try.prog w 22 v1) :
    Calls Try.prog 6 #[v1] w fun e w' => e = .returned (.bool true) ∧ Below w.heap.size w w' := by
  obtain ⟨A, n, c, a, rfl, hc, hm, hr⟩ := arg_bs h1 Try.underlying22 Try.underlying5 (by kernel_rfl)
  by_cases hs : n ≤ 1000
  · exact core A n c a w hr hs
  · unfold maxLen at hm
    have hs' : 1000 < n := by omega
    clear hs
    go_enter Try.func6, Try.ntmps6
    go_wp2_with fail
    refine (awake_c _).mono ?_
    rintro e w1 ⟨rfl, hb1⟩
    go_wp2_with fail
    refine (awake_c _).mono ?_
    rintro e w2 ⟨rfl, hb2⟩
    go_wp2
    go_ret
    exact ⟨rfl, hb1.trans (hb2.mono hb1.size)⟩
end Go.Proofs.Ytmgippcbfeemnaa.sumKeeps
