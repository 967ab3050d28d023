/- SumCuts: the walk. -/
import Derived.Test.YtmgippcbfeemnaaSumA
namespace Go.Proofs.Ytmgippcbfeemnaa.sumCuts
open Go.RowKit Bs Crc
set_option maxRecDepth 100000 in
set_option maxHeartbeats 1000000 in
theorem short (A : Option Addr) (n c : Nat) (bs : List Byte) (w : World) (h : Bs w w.heap.size A n bs) (hn : n < 4) (hnc : n ≤ c) (hc : c ≤ maxLen) :
    Calls Try.prog 5 #[.slice A n c] w fun e w' => e = .returned (.bool true) ∧ Below w.heap.size w w' := by
  have hno := Lib.hid (cutOK_short (bs := bs) (by have := h.len; omega))
  go_enter Try.func5, Try.ntmps5
  go_wp2_with fail
  refine (awake_c _).mono ?_
  rintro e w1 ⟨rfl, hb1⟩
  go_wp2_with fail
  refine (cut_no A n c bs _ ((h.below hb1).more hb1.size) (by omega) hnc hc hno.out).mono ?_
  rintro e w2 ⟨A2, c2, rfl, O2, hb2⟩
  go_wp2
  go_ret
  exact ⟨rfl, hb1.trans (hb2.mono hb1.size)⟩
set_option maxRecDepth 100000 in
set_option maxHeartbeats 1000000 in
theorem long (A : Option Addr) (m c : Nat) (bs : List Byte) (w : World) (h : Bs w w.heap.size A (m + 4) bs) (hn : m + 4 ≤ 1000) (hnc : m + 4 ≤ c) (hc : c ≤ maxLen) :
    Calls Try.prog 5 #[.slice A (m + 4) c] w fun e w' => e = .returned (.bool true) ∧ Below w.heap.size w w' := by
  have hok := Lib.hid (cutOK_long h.len)
  have hfr := Bs.front h
  rcases A with _ | ad
  · obtain ⟨_, e, _⟩ := h.2 (by omega); cases e
  · have hc' : c ≤ 9223372036854775807 := by unfold maxLen at hc; omega
    cases hcok : cutOK bs with
    | true =>
      have Hc := Lib.hid hcok
      clear hcok
      go_enter Try.func5, Try.ntmps5
      go_wp2_with fail
      refine (awake_c _).mono ?_
      rintro e w1 ⟨rfl, hb1⟩
      go_wp2_with fail
      refine (cut_yes (some ad) (m + 4) c bs _ ((h.below hb1).more hb1.size) (by omega) hnc hc Hc.out).mono ?_
      rintro e w2 ⟨A2, c2, rfl, O2', hb2⟩
      have O2 : Own w2 w1.heap.size A2 m c2 (bs.take m) := O2'
      clear O2'
      have L2 : Below w.heap.size w w2 := hb1.trans (hb2.mono hb1.size)
      have z2 := L2.size
      go_wp2_with fail
      refine (rput_c (some ad) m c (bs.take m) _ ((hfr.below L2).more z2) (by omega)).mono ?_
      rintro e w3 ⟨A3, c3, rfl, O3, hb3⟩
      have L3 : Below w.heap.size w w3 := L2.trans (hb3.mono z2)
      have O2' : Own w3 w1.heap.size A2 m c2 (bs.take m) := own_below O2 hb3 (Nat.le_refl _)
      go_wp2_with fail
      refine (same_c A3 (some ad) (m + 4) c3 (m + 4) c _ _ (put (bs.take m)) bs _ O3.bs (h.below L3)).mono ?_
      rw [← hok.out, Hc.out]
      rintro e w' ⟨rfl, rfl⟩
      go_wp2_with fail
      refine (same_c A2 (some ad) m c2 m c _ _ (bs.take m) (bs.take m) _ O2'.bs (hfr.below L3)).mono ?_
      rw [decide_eq_true rfl]
      rintro e w' ⟨rfl, rfl⟩
      go_wp2
      go_ret
      exact ⟨rfl, L3⟩
    | false =>
      have Hc := Lib.hid hcok
      clear hcok
      go_enter Try.func5, Try.ntmps5
      go_wp2_with fail
      refine (awake_c _).mono ?_
      rintro e w1 ⟨rfl, hb1⟩
      go_wp2_with fail
      refine (cut_no (some ad) (m + 4) c bs _ ((h.below hb1).more hb1.size) (by omega) hnc hc Hc.out).mono ?_
      rintro e w2 ⟨A2, c2, rfl, O2, hb2⟩
      have L2 : Below w.heap.size w w2 := hb1.trans (hb2.mono hb1.size)
      have z2 := L2.size
      go_wp2_with fail
      refine (rput_c (some ad) m c (bs.take m) _ ((hfr.below L2).more z2) (by omega)).mono ?_
      rintro e w3 ⟨A3, c3, rfl, O3, hb3⟩
      have L3 : Below w.heap.size w w3 := L2.trans (hb3.mono z2)
      go_wp2_with fail
      refine (same_c A3 (some ad) (m + 4) c3 (m + 4) c _ _ (put (bs.take m)) bs _ O3.bs (h.below L3)).mono ?_
      rw [← hok.out, Hc.out]
      rintro e w' ⟨rfl, rfl⟩
      go_wp2
      go_ret
      exact ⟨rfl, L3⟩
theorem walk (v1 : Value) (w : World) (h1 : Frame.Arg Try.prog w 22 v1) :
    Calls Try.prog 5 #[v1] w fun e w' => e = .returned (.bool true) ∧ Below w.heap.size w w' := by
  obtain ⟨A, n, c, a, rfl, hc, hm, hr⟩ := arg_bs h1 Try.underlying22 Try.underlying5 (by kernel_rfl)
  by_cases h4 : n < 4
  · exact short A n c a w hr h4 hc hm
  · by_cases hs : n ≤ 1000
    · obtain ⟨m, rfl⟩ : ∃ m, n = m + 4 := ⟨n - 4, by omega⟩
      exact long A m c a w hr hs hc hm
    · unfold maxLen at hm
      have hs' : 1000 < n := by omega
      clear hs h4
      go_enter Try.func5, Try.ntmps5
      go_wp2_with fail
      refine (awake_c _).mono ?_
      rintro e w1 ⟨rfl, hb1⟩
      go_wp2_with fail
      refine (awake_c _).mono ?_
      rintro e w2 ⟨rfl, hb2⟩
      go_wp2
      go_ret
      exact ⟨rfl, hb1.trans (hb2.mono hb1.size)⟩
end Go.Proofs.Ytmgippcbfeemnaa.sumCuts
