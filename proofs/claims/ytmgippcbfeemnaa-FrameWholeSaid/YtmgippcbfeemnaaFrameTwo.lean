/- FrameTwo: the walk. -/
import Derived.Test.YtmgippcbfeemnaaFrameR
namespace Go.Proofs.Ytmgippcbfeemnaa
open Go.RowKit Bs
namespace Crc
theorem lenOf_head {b : List Byte} (h : 16 ≤ b.length) : lenOf b = numLE ((b.take 12).drop 8) := by
  unfold lenOf coreOf
  congr 1
  rw [List.drop_take, List.take_take, List.drop_take]
  congr 1
  omega
/-- bytes with a frame's head, of another length, are none -/
theorem not_frame {x b : List Byte} (hx : isFrame x = true) (h : b.take 12 = x.take 12) (hl : b.length ≠ x.length) : isFrame b = false := by
  cases hb : isFrame b with
  | false => rfl
  | true =>
    exfalso
    obtain ⟨x1, _, _, _⟩ := is_frame hx
    obtain ⟨b1, _, _, _⟩ := is_frame hb
    unfold isFrame at hx hb
    simp only [Bool.and_eq_true, decide_eq_true_eq] at hx hb
    have e1 := hx.1.2
    have e2 := hb.1.2
    rw [lenOf_head x1] at e1
    rw [lenOf_head b1, h] at e2
    omega
theorem two_no (v u : Int) (a b : List Byte) (h0 : 0 ≤ v) (h1 : v ≤ 4294967295) (ha : a.length ≤ 1000) : isFrame (frame v a ++ frame u b) = false := by
  refine not_frame (frame_is v a h0 h1 (by omega)).1 ?_ ?_
  · rw [List.take_append_of_le_length (by rw [frame_len]; omega)]
  · rw [List.length_append, frame_len, frame_len]; omega
end Crc
namespace frameTwo
open Crc
set_option maxRecDepth 100000 in
set_option maxHeartbeats 2000000 in
theorem core (v u : Int) (A A' : Option Addr) (n c n' c' : Nat) (a b : List Byte) (w : World) (h : Bs w w.heap.size A n a) (h' : Bs w w.heap.size A' n' b) (hn : n ≤ 500) (hn' : n' ≤ 500) (h0 : 0 ≤ v) (h1 : v ≤ 4294967295) (k0 : 0 ≤ u) (k1 : u ≤ 4294967295) :
    Calls Try.prog 12 #[.int .u32 v, .int .u32 u, .slice A n c, .slice A' n' c'] w fun e w' => e = .returned (.bool true) ∧ Below w.heap.size w w' := by
  have Hln := Lib.hid h.len
  have Hln' := Lib.hid h'.len
  have Hno := Lib.hid (two_no v u a b h0 h1 (by have := h.len; omega))
  have hinj : frame v a = frame u b → v = u ∧ a = b := fun e => frame_inj h0 h1 k0 k1 e
  have Hinj := Lib.hid hinj
  clear hinj
  go_enter Try.func12, Try.ntmps12
  go_wp2_with fail
  refine (fawake_c _).mono ?_
  rintro e w1 ⟨rfl, hb1⟩
  go_wp2_with fail
  refine (fput_c v A n c a _ h0 h1 (by omega) ((h.below hb1).more hb1.size)).mono ?_
  rintro e w2 ⟨A2, c2, e2, O2', hb2⟩
  rw [Hln.out] at e2 O2'
  have O2 : Crc.Own w2 w1.heap.size A2 (n + 16) c2 (frame v a) := O2'
  subst e2
  have L2 : Below w.heap.size w w2 := hb1.trans (hb2.mono hb1.size)
  have z2 := L2.size
  clear hb1 hb2 O2'
  go_wp2_with fail
  refine (fput_c u A' n' c' b _ k0 k1 (by omega) ((h'.below L2).more z2)).mono ?_
  rintro e w3 ⟨A3, c3, e3, O3', hb3⟩
  rw [Hln'.out] at e3 O3'
  have O3 : Crc.Own w3 w2.heap.size A3 (n' + 16) c3 (frame u b) := O3'
  subst e3
  have L3 : Below w.heap.size w w3 := L2.trans (hb3.mono z2)
  have X3 : Crc.Own w3 w1.heap.size A2 (n + 16) c2 (frame v a) := own_below O2 hb3 (Nat.le_refl _)
  have z3 := L3.size
  clear hb3 L2 O2 O3' z2
  go_wp2_with fail
  refine (same_c A2 A3 (n + 16) c2 (n' + 16) c3 _ _ (frame v a) (frame u b) _ X3.bs O3.bs).mono ?_
  rintro e w' ⟨rfl, rfl⟩
  have hown0 := Mem.own_lit (w := w3) (base := w3.heap.size) (n := 0) (size := 1) (e := 5) (cs := #[]) (xs := []) rfl (by omega) (by simp) rfl rfl
  by_cases hvu : v = u
  · subst hvu
    go_wp2_with fail
    refine (same_c A A' n c n' c' _ _ a b _ (h.below L3) (h'.below L3)).mono ?_
    rintro e w' ⟨rfl, rfl⟩
    obtain ⟨d, hd⟩ : ∃ d : Bool, decide (a = b) = d := ⟨_, rfl⟩
    have hd' : decide (frame v a = frame v b) = d := by
      rw [← hd, decide_eq_decide]
      exact ⟨fun e => (Hinj.out e).2, fun e => by rw [e]⟩
    rw [hd, hd']
    clear hd hd'
    cases d
    all_goals
      go_wp2_with (at_builtin; first
        | (refine Mem.wpList_app rfl rfl elb (base := w3.heap.size) hown0 rfl rfl (Mem.Sl.alloc X3.bs (Nat.le_refl _) _) (one_bs _) (N := n + 16) (ys := (frame v a).map bv) (by omega) (by simp) (by unfold maxLen; omega) (by omega) (by simp) ?_; intro A4 c4 w4 O4 hg4 hat4
           have L4 : Below w3.heap.size w3 w4 := ((Below.refl _ _).alloc (Nat.le_refl _) _).grown hg4 (by simp) (fun k hk => (hown0.lt k hk).1)
           have Y4 : Crc.Own w4 w2.heap.size A3 (n' + 16) c3 (frame v b) := own_below O3 L4 (Nat.le_refl _)
           clear hown0 hg4 hat4)
        | (refine Mem.wpList_app rfl rfl elb (base := w3.heap.size) O4 rfl rfl Y4.bs (one_bs _) (N := n + n' + 32) (ys := (frame v a ++ frame v b).map bv) (by omega) (by simp) (by unfold maxLen; omega) (by omega) (L4.size) ?_; intro A5 c5 w5 O5 hg5 hat5
           have L5 : Below w3.heap.size w3 w5 := L4.grown hg5 L4.size (fun k hk => (World.ownsRow.lt O4 k hk).1)
           have M5 : Crc.Own w5 w3.heap.size A5 (n + n' + 32) c5 (frame v a ++ frame v b) := O5
           clear hg5 hat5 O5))
      refine (fget_no A5 (n + n' + 32) c5 (frame v a ++ frame v b) _ M5.bs (by omega) M5.le.1 M5.le.2 Hno.out).mono ?_
      rintro e w6 ⟨rfl, hb6⟩
      go_wp2
      go_ret
      exact ⟨rfl, L3.trans ((L5.trans (hb6.mono L5.size)).mono z3)⟩
  · have hd' : decide (frame v a = frame u b) = false := by
      simp only [decide_eq_false_iff_not]
      exact fun e => hvu (Hinj.out e).1
    rw [hd']
    clear hd'
    go_wp2_with (at_builtin; first
        | (refine Mem.wpList_app rfl rfl elb (base := w3.heap.size) hown0 rfl rfl (Mem.Sl.alloc X3.bs (Nat.le_refl _) _) (one_bs _) (N := n + 16) (ys := (frame v a).map bv) (by omega) (by simp) (by unfold maxLen; omega) (by omega) (by simp) ?_; intro A4 c4 w4 O4 hg4 hat4
           have L4 : Below w3.heap.size w3 w4 := ((Below.refl _ _).alloc (Nat.le_refl _) _).grown hg4 (by simp) (fun k hk => (hown0.lt k hk).1)
           have Y4 : Crc.Own w4 w2.heap.size A3 (n' + 16) c3 (frame u b) := own_below O3 L4 (Nat.le_refl _)
           clear hown0 hg4 hat4)
        | (refine Mem.wpList_app rfl rfl elb (base := w3.heap.size) O4 rfl rfl Y4.bs (one_bs _) (N := n + n' + 32) (ys := (frame v a ++ frame u b).map bv) (by omega) (by simp) (by unfold maxLen; omega) (by omega) (L4.size) ?_; intro A5 c5 w5 O5 hg5 hat5
           have L5 : Below w3.heap.size w3 w5 := L4.grown hg5 L4.size (fun k hk => (World.ownsRow.lt O4 k hk).1)
           have M5 : Crc.Own w5 w3.heap.size A5 (n + n' + 32) c5 (frame v a ++ frame u b) := O5
           clear hg5 hat5 O5))
    refine (fget_no A5 (n + n' + 32) c5 (frame v a ++ frame u b) _ M5.bs (by omega) M5.le.1 M5.le.2 Hno.out).mono ?_
    rintro e w6 ⟨rfl, hb6⟩
    go_wp2
    go_ret
    exact ⟨rfl, L3.trans ((L5.trans (hb6.mono L5.size)).mono z3)⟩
theorem walk (v1 v2 v3 v4 : Value) (w : World) (h1 : Frame.Arg Try.prog w 24 v1) (h2 : Frame.Arg Try.prog w 24 v2) (h3 : Frame.Arg Try.prog w 22 v3) (h4 : Frame.Arg Try.prog w 22 v4) :
    Calls Try.prog 12 #[v1, v2, v3, v4] w fun e w' => e = .returned (.bool true) ∧ Below w.heap.size w w' := by
  obtain ⟨v, rfl, hv⟩ := h1.int Try.underlying24
  obtain ⟨u, rfl, hu⟩ := h2.int Try.underlying24
  obtain ⟨A, n, c, a, rfl, hc, hm, hr⟩ := arg_bs h3 Try.underlying22 Try.underlying5 (by kernel_rfl)
  obtain ⟨A', n', c', b, rfl, hc', hm', hr'⟩ := arg_bs h4 Try.underlying22 Try.underlying5 (by kernel_rfl)
  obtain ⟨b0, b1⟩ := Frame.bd_u32 hv
  obtain ⟨d0, d1⟩ := Frame.bd_u32 hu
  clear hv hu
  unfold maxLen at hm hm'
  have hor : n ≤ 500 ∧ n' ≤ 500 ∨ 500 < n ∨ n ≤ 500 ∧ 500 < n' := by omega
  rcases hor with ⟨hs, hs'⟩ | hs | ⟨hs, hs'⟩
  · exact core v u A A' n c n' c' a b w hr hr' hs hs' b0 b1 d0 d1
  all_goals
    go_enter Try.func12, Try.ntmps12
    go_wp2_with fail
    refine (fawake_c _).mono ?_
    rintro e w1 ⟨rfl, hb1⟩
    go_wp2_with fail
    refine (fawake_c _).mono ?_
    rintro e w2 ⟨rfl, hb2⟩
    go_wp2
    go_ret
    exact ⟨rfl, hb1.trans (hb2.mono hb1.size)⟩
end frameTwo
end Go.Proofs.Ytmgippcbfeemnaa
