/- FrameKeeps: the walk. -/
import Derived.Test.YtmgippcbfeemnaaFrameR
namespace Go.Proofs.Ytmgippcbfeemnaa.frameKeeps
open Go.RowKit Bs Crc
theorem x255 (b : Byte) : bits .xor .u8 (n8 b) 255 = n8 (b ^^^ 255#8) := xor8 b 255#8
/-- what is read: nothing, or a slice of a block of the call's own, twelve bytes in -/
def Got (w : World) (B : Nat) (A : Option Addr) (n : Nat) : Prop := 0 < n → ∃ g cc ys, A = some ⟨g, 12, none⟩ ∧ Crc.Own w B (some ⟨g, 0, none⟩) (n + 12) cc ys
set_option maxRecDepth 100000 in
set_option maxHeartbeats 2000000 in
theorem core (v : Int) (A : Option Addr) (n c : Nat) (bs : List Byte) (w : World) (h : Bs w w.heap.size A n bs) (hn : n ≤ 1000) (h0 : 0 ≤ v) (h1 : v ≤ 4294967295) :
    Calls Try.prog 11 #[.int .u32 v, .slice A n c] w fun e w' => e = .returned (.bool true) ∧ Below w.heap.size w w' := by
  have hln := h.len
  obtain ⟨q1, q2, q3⟩ := frame_is v bs h0 h1 (by omega)
  have Hq1 := Lib.hid q1
  have Hq2 := Lib.hid q2
  have Hq3 := Lib.hid q3
  have Hln := Lib.hid hln
  have e16 : n + 16 - 16 = n := by omega
  clear hln q1 q2 q3
  go_enter Try.func11, Try.ntmps11
  go_wp2_with fail
  refine (fawake_c _).mono ?_
  rintro e w1 ⟨rfl, hb1⟩
  have z1 := hb1.size
  have hown0 := Mem.own_lit (w := w1) (base := w.heap.size) (n := 0) (size := 1) (e := 5) (cs := #[]) (xs := []) rfl (by omega) (by simp) rfl rfl
  go_wp2_with (at_builtin; refine Mem.wpList_app rfl rfl elb (base := w.heap.size) hown0 rfl rfl (Mem.Sl.alloc (h.below hb1) z1 _) (one_bs _) (N := n) (ys := bs.map bv) (by omega) (by simp) (by unfold maxLen; omega) (by omega) (by simp; omega) ?_; intro A2 c2 w2 O2 hg2 hat2)
  have L2 : Below w.heap.size w w2 := (hb1.alloc z1 _).grown hg2 (by simp; omega) (fun k hk => (hown0.lt k hk).1)
  have z2 := L2.size
  clear hown0 hg2 hat2 hb1 z1
  go_wp2_with fail
  refine (fput_c v A n c bs _ h0 h1 (by omega) ((h.below L2).more z2)).mono ?_
  rintro e w3 ⟨A3, c3, e3, O3', hb3⟩
  rw [Hln.out] at e3 O3'
  have O3 : Crc.Own w3 w2.heap.size A3 (n + 16) c3 (frame v bs) := O3'
  subst e3
  have L3 : Below w.heap.size w w3 := L2.trans (hb3.mono z2)
  have z3 := L3.size
  have z23 := hb3.size
  have P3 : Crc.Own w3 w.heap.size A2 n c2 bs := own_below O2 hb3 (Nat.le_refl _)
  have l2 := Own.lt O2
  have L2l := Lib.hid l2
  clear l2 O2 hb3 L2 O3'
  go_wp2_with fail
  refine (fget_yes A3 (n + 16) c3 (frame v bs) _ O3.bs (by omega) O3.le.1 O3.le.2 Hq1.out).mono ?_
  rintro e w4 ⟨A4, c4, e4, _, G4', hb4⟩
  rw [e16, Hq2.out] at e4
  rw [e16] at G4'
  subst e4
  have G4 : Got w4 w3.heap.size A4 n := fun hp => by
    obtain ⟨g, cc, e1, e2⟩ := G4' hp
    exact ⟨g, cc, _, e1, e2⟩
  have L4 : Below w.heap.size w w4 := L3.trans (hb4.mono z3)
  have z4 := L4.size
  have z34 := hb4.size
  have P4 : Crc.Own w4 w.heap.size A2 n c2 bs := own_below P3 hb4 (Nat.le_refl _)
  have X4 : Crc.Own w4 w2.heap.size A3 (n + 16) c3 (frame v bs) := own_below O3 hb4 (Nat.le_refl _)
  have L3l : Hid (∀ g, A3 = some ⟨g, 0, none⟩ → w2.heap.size ≤ g ∧ g < w3.heap.size) := Own.lt O3
  clear G4' hb4 P3 O3 L3
  go_wp2_with fail
  go_loopw [11] (fun vi wr => ∃ k : Nat, k ≤ n ∧ vi = .int .i64 k ∧ Below w.heap.size w wr ∧ w4.heap.size ≤ wr.heap.size ∧ Got wr w3.heap.size A4 n ∧ Crc.Own wr w.heap.size A2 n c2 bs ∧ Crc.Own wr w2.heap.size A3 (n + 16) c3 (frame v bs)) (fun i _ => n - (intOf i).toNat)
  case atStart => exact ⟨0, by omega, rfl, L4, Nat.le_refl _, G4, P4, X4⟩
  case round =>
    clear L4 G4 P4 X4
    obtain ⟨k, hk, rfl, hbr, hzr, G5, P5, X5⟩ := hrel
    by_cases hlt : k < n
    · obtain ⟨g, cc, ys, rfl, O5⟩ := G5 (by omega)
      obtain ⟨g', b, hl, hgg, hg1, hg2, _, hcell, hfz, hset⟩ := O5.at_ (k := 12 + k) (by omega)
      obtain rfl : g = g' := by simpa using hgg
      have f1 := x255 b
      have Hset := Lib.hid (hset (b ^^^ 255#8))
      have Hg1 := Lib.hid hg1
      clear hset G5 O5 hgg
      generalize n8 b = X at *
      generalize n8 (b ^^^ 255#8) = Y at *
      go_wp2
      go_roundw
      case rel => exact ⟨k + 1, by omega, by go_num, hbr.setCell (by simp; omega) _, by simpa using hzr, fun _ => ⟨_, _, _, rfl, Hset.out⟩, P5.far (fun g' hg' => by have := (L2l.out g' hg').2; simp; omega) _, X5.far (fun g' hg' => by have := (L3l.out g' hg').2; simp; omega) _⟩
      case measure => simp [intOf]; omega
    · obtain rfl : k = n := by omega
      clear G5
      have zr := hbr.size
      go_wp2_with fail
      refine (rfput_c v A2 k c2 bs _ h0 h1 (by omega) P5.bs).mono ?_
      rintro e w5 ⟨A5, c5, rfl, O5, hb5⟩
      have L5 : Below w.heap.size w w5 := hbr.trans (hb5.mono zr)
      have z5 := hb5.size
      have P6 : Crc.Own w5 w.heap.size A2 k c2 bs := own_below P5 hb5 (Nat.le_refl _)
      have X6 : Crc.Own w5 w2.heap.size A3 (k + 16) c3 (frame v bs) := own_below X5 hb5 (Nat.le_refl _)
      clear hb5 hbr P5 X5
      go_wp2_with fail
      refine (same_c A3 A5 (k + 16) c3 (k + 16) c5 _ _ (frame v bs) (frame v bs) _ X6.bs O5.bs).mono ?_
      rw [decide_eq_true rfl]
      rintro e w' ⟨rfl, rfl⟩
      clear O5
      go_wp2_with fail
      go_loopw [13] (fun vi wr => ∃ j : Nat, j ≤ k + 16 ∧ vi = .int .i64 j ∧ Below w.heap.size w wr ∧ Crc.Own wr w.heap.size A2 k c2 bs ∧ ∃ ys, Crc.Own wr w2.heap.size A3 (k + 16) c3 ys) (fun i _ => k + 16 - (intOf i).toNat)
      case atStart => exact ⟨0, by omega, rfl, L5, P6, _, X6⟩
      case round =>
        clear L5 P6 X6
        obtain ⟨j, hj, rfl, hbr, P7, ys, X7⟩ := hrel
        by_cases hjt : j < k + 16
        · obtain ⟨g, b, hl, rfl, hg1, hg2, _, hcell, hfz, hset⟩ := X7.at_ hjt
          have f1 := x255 b
          have Hset := Lib.hid (hset (b ^^^ 255#8))
          clear hset
          generalize n8 b = X at *
          generalize n8 (b ^^^ 255#8) = Y at *
          go_wp2
          go_roundw
          case rel => exact ⟨j + 1, by omega, by go_num, hbr.setCell (by simp; omega) _, P7.far (fun g' hg' => by have := (L2l.out g' hg').2; simp; omega) _, _, Hset.out⟩
          case measure => simp [intOf]; omega
        · obtain rfl : j = k + 16 := by omega
          go_wp2_with fail
          refine (same_c A A2 k c k c2 _ _ bs bs _ (h.below hbr) P7.bs).mono ?_
          rw [decide_eq_true rfl]
          rintro e w' ⟨rfl, rfl⟩
          go_wp2
          go_ret
          exact ⟨rfl, hbr⟩
theorem walk (v1 v2 : Value) (w : World) (h1 : Frame.Arg Try.prog w 24 v1) (h2 : Frame.Arg Try.prog w 22 v2) :
    Calls Try.prog 11 #[v1, v2] w fun e w' => e = .returned (.bool true) ∧ Below w.heap.size w w' := by
  obtain ⟨v, rfl, hv⟩ := h1.int Try.underlying24
  obtain ⟨A, n, c, a, rfl, hc, hm, hr⟩ := arg_bs h2 Try.underlying22 Try.underlying5 (by kernel_rfl)
  obtain ⟨b0, b1⟩ := Frame.bd_u32 hv
  clear hv
  by_cases hs : n ≤ 1000
  · exact core v A n c a w hr hs b0 b1
  · unfold maxLen at hm
    have hs' : 1000 < n := by omega
    clear hs
    go_enter Try.func11, Try.ntmps11
    go_wp2_with fail
    refine (fawake_c _).mono ?_
    rintro e w1 ⟨rfl, hb1⟩
    go_wp2_with fail
    refine (fawake_c _).mono ?_
    rintro e w2 ⟨rfl, hb2⟩
    go_wp2
    go_ret
    exact ⟨rfl, hb1.trans (hb2.mono hb1.size)⟩
end Go.Proofs.Ytmgippcbfeemnaa.frameKeeps
