/- FrameGets: the walk. -/
import Derived.Test.YtmgippcbfeemnaaFrameR
namespace Go.Proofs.Ytmgippcbfeemnaa.frameGets
open Go.RowKit Bs Crc
set_option maxRecDepth 100000 in
set_option maxHeartbeats 1000000 in
theorem no (A : Option Addr) (n c : Nat) (bs : List Byte) (w : World) (h : Bs w w.heap.size A n bs) (hn : n ≤ 3000) (hnc : n ≤ c) (hc : c ≤ maxLen) (hf : isFrame bs = false) :
    Calls Try.prog 10 #[.slice A n c] w fun e w' => e = .returned (.bool true) ∧ Below w.heap.size w w' := by
  have Hf := Lib.hid hf
  have hr : ∀ u, Below w.heap.size w u → Calls Try.prog 25 #[.slice A n c] u (RGetNo u) := by
    intro u hu
    rcases Nat.lt_or_ge n 16 with h16 | h16
    · exact rfget_short A n c u h16
    · obtain ⟨m, rfl⟩ : ∃ m, n = m + 16 := ⟨n - 16, by omega⟩
      exact (rfget_c A m c bs u ((h.below hu).more hu.size) (by omega) hnc hc).mono fun e w' hx => hx.2 Hf.out
  have Hr := Lib.hid hr
  clear hr hf
  go_enter Try.func10, Try.ntmps10
  go_wp2_with fail
  refine (fawake_c _).mono ?_
  rintro e w1 ⟨rfl, hb1⟩
  go_wp2_with fail
  refine (fget_no A n c bs _ ((h.below hb1).more hb1.size) (by omega) hnc hc Hf.out).mono ?_
  rintro e w2 ⟨rfl, hb2⟩
  have L2 : Below w.heap.size w w2 := hb1.trans (hb2.mono hb1.size)
  clear hb1 hb2
  go_wp2_with fail
  refine (Hr.out _ L2).mono ?_
  rintro e w3 ⟨rfl, hb3⟩
  have L3 : Below w.heap.size w w3 := L2.trans (hb3.mono L2.size)
  go_wp2
  go_ret
  exact ⟨rfl, L3⟩
set_option maxRecDepth 100000 in
set_option maxHeartbeats 1000000 in
theorem yes (A : Option Addr) (m c : Nat) (bs : List Byte) (w : World) (h : Bs w w.heap.size A (m + 16) bs) (hn : m + 16 ≤ 3000) (hnc : m + 16 ≤ c) (hc : c ≤ maxLen) (hf : isFrame bs = true) :
    Calls Try.prog 10 #[.slice A (m + 16) c] w fun e w' => e = .returned (.bool true) ∧ Below w.heap.size w w' := by
  obtain ⟨_, _, hbl, hfr⟩ := is_frame hf
  rw [h.len, Nat.add_sub_cancel] at hbl
  obtain ⟨q0, q1⟩ := numLE_bd (((coreOf bs).drop 4).take 4)
  have Hf := Lib.hid hf
  have Hfr := Lib.hid hfr
  have Hbl := Lib.hid hbl
  have hv : Hid (numLE (((coreOf bs).drop 4).take 4) = verOf bs) := rfl
  rw [hv.out] at q0 q1
  have e16 : m + 16 - 16 = m := by omega
  clear hf hfr hbl
  go_enter Try.func10, Try.ntmps10
  go_wp2_with fail
  refine (fawake_c _).mono ?_
  rintro e w1 ⟨rfl, hb1⟩
  go_wp2_with fail
  refine (fget_yes A (m + 16) c bs _ ((h.below hb1).more hb1.size) (by omega) hnc hc Hf.out).mono ?_
  rintro e w2 ⟨A2, c2, e2, B2, _, hb2⟩
  rw [e16] at e2 B2
  subst e2
  have L2 : Below w.heap.size w w2 := hb1.trans (hb2.mono hb1.size)
  clear hb1 hb2
  go_wp2_with fail
  refine (rfget_c A m c bs _ ((h.below L2).more L2.size) (by omega) hnc hc).mono ?_
  rintro e w3 ⟨hx, _⟩
  obtain ⟨A3, c3, e3, B3, hb3⟩ := hx Hf.out
  rw [e16] at e3 B3
  subst e3
  have L3 : Below w.heap.size w w3 := L2.trans (hb3.mono L2.size)
  have M3 : Bs w3 w2.heap.size A2 m (bodyOf bs) := B2.below hb3
  have z3 := hb3.size
  clear hb3 L2 B2 hx
  go_wp2_with fail
  refine (fput_c (verOf bs) A2 m c2 (bodyOf bs) _ q0 q1 (by omega) (M3.more z3)).mono ?_
  rintro e w4 ⟨A4, c4, e4, O4', hb4⟩
  rw [Hbl.out] at e4 O4'
  rw [Hfr.out] at O4'
  have O4 : Crc.Own w4 w3.heap.size A4 (m + 16) c4 bs := O4'
  subst e4
  have L4 : Below w.heap.size w w4 := L3.trans (hb4.mono L3.size)
  have M4 : Bs w4 w2.heap.size A2 m (bodyOf bs) := M3.on hb4 z3
  have N4 : Bs w4 w2.heap.size A3 m (bodyOf bs) := B3.on hb4 z3
  clear hb4 L3 M3 B3 O4'
  go_wp2_with fail
  refine (same_c A2 A3 m c2 m c3 _ _ (bodyOf bs) (bodyOf bs) _ M4 N4).mono ?_
  rw [decide_eq_true rfl]
  rintro e w' ⟨rfl, rfl⟩
  go_wp2_with fail
  refine (same_c A4 A (m + 16) c4 (m + 16) c _ _ bs bs _ O4.bs (h.below L4)).mono ?_
  rw [decide_eq_true rfl]
  rintro e w' ⟨rfl, rfl⟩
  go_wp2
  go_ret
  exact ⟨rfl, L4⟩
theorem walk (v1 : Value) (w : World) (h1 : Frame.Arg Try.prog w 22 v1) :
    Calls Try.prog 10 #[v1] w fun e w' => e = .returned (.bool true) ∧ Below w.heap.size w w' := by
  obtain ⟨A, n, c, a, rfl, hc, hm, hr⟩ := arg_bs h1 Try.underlying22 Try.underlying5 (by kernel_rfl)
  by_cases hs : n ≤ 3000
  · cases hf : isFrame a with
    | false => exact no A n c a w hr hs hc hm hf
    | true =>
      have := (is_frame hf).1
      rw [hr.len] at this
      obtain ⟨m, rfl⟩ : ∃ m, n = m + 16 := ⟨n - 16, by omega⟩
      exact yes A m c a w hr hs hc hm hf
  · have h : 3000 < n := by omega
    clear hs
    unfold maxLen at hm
    go_enter Try.func10, Try.ntmps10
    go_wp2_with fail
    refine (fawake_c _).mono ?_
    rintro e w1 ⟨rfl, hb1⟩
    go_wp2_with fail
    refine (fawake_c _).mono ?_
    rintro e w2 ⟨rfl, hb2⟩
    go_wp2
    go_ret
    exact ⟨rfl, hb1.trans (hb2.mono hb1.size)⟩
end Go.Proofs.Ytmgippcbfeemnaa.frameGets
