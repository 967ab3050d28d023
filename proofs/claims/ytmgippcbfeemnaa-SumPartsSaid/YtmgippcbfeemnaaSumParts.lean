/- SumParts: the walk. -/
import Derived.Test.YtmgippcbfeemnaaSumA
import Derived.Test.YtmgippcbfeemnaaFrame
namespace Go.Proofs.Ytmgippcbfeemnaa
open Go.RowKit Bs
namespace sumParts
open Crc
set_option maxRecDepth 100000 in
set_option maxHeartbeats 1000000 in
theorem core (A A2 A3 : Option Addr) (n c m d k f : Nat) (a b z : List Byte) (w : World) (h1 : Bs w w.heap.size A n a) (h2 : Bs w w.heap.size A2 m b) (h3 : Bs w w.heap.size A3 k z)
    (hn : n ≤ 1000) (hm : m ≤ 1000) (hk : k ≤ 1000) :
    Calls Try.prog 3 #[.slice A n c, .slice A2 m d, .slice A3 k f] w fun e w' => e = .returned (.bool true) ∧ Below w.heap.size w w' := by
  go_enter Try.func3, Try.ntmps3
  go_wp2_with fail
  refine (awake_c _).mono ?_
  rintro e w1 ⟨rfl, hb1⟩
  have z1 := hb1.size
  have hown0 := Mem.own_lit (w := w1) (base := w.heap.size) (n := 0) (size := 1) (e := 5) (cs := #[]) (xs := []) rfl (by omega) (by simp) rfl rfl
  go_wp2_with (first
    | (at_builtin; refine Mem.wpList_app rfl rfl elb (base := w.heap.size) hown0 rfl rfl (Mem.Sl.alloc (h1.below hb1) z1 _) (one_bs _) (N := n) (ys := a.map bv) (by omega) (by simp) (by unfold maxLen; omega) (by omega) (by simp; omega) ?_; intro A4 c4 w4 hown4 hg4 hat4
       have hb4 : Below w.heap.size w w4 := (hb1.alloc z1 _).grown hg4 (by simp; omega) (fun k hk => (hown0.lt k hk).1)
       have z4 := hb4.size; clear hat4)
    | (at_builtin; refine Mem.wpList_app rfl rfl elb (base := w.heap.size) hown4 rfl rfl (h2.below hb4) (one_bs _) (N := n + m) (ys := (a ++ b).map bv) (by omega) (by simp) (by unfold maxLen; omega) (by omega) (by omega) ?_; intro A5 c5 w5 hown5 hg5 hat5
       have hb5 : Below w.heap.size w w5 := hb4.grown hg5 (by omega) (fun k hk => (hown4.lt k hk).1)
       have z5 := hb5.size; clear hat5)
    | (at_builtin; refine Mem.wpList_app rfl rfl elb (base := w.heap.size) hown5 rfl rfl (h3.below hb5) (one_bs _) (N := n + m + k) (ys := (a ++ b ++ z).map bv) (by omega) (by simp) (by unfold maxLen; omega) (by omega) (by omega) ?_; intro A6 c6 w6 hown6 hg6 hat6
       have hb6 : Below w.heap.size w w6 := hb5.grown hg6 (by omega) (fun k hk => (hown5.lt k hk).1)
       have z6 := hb6.size; clear hat6))
  have h61 := h1.below hb6
  have h62 := h2.below hb6
  have h63 := h3.below hb6
  clear hown0 hown4 hown5 hg4 hg5 hg6 hb1 hb4 hb5
  refine (of_c A n c a _ (h61.more z6) (by omega)).mono ?_
  rintro e w7 ⟨rfl, hb7⟩
  have L7 : Below w.heap.size w w7 := hb6.trans (hb7.mono z6)
  have z7 := L7.size
  have O7 := own_below hown6 hb7 (Nat.le_refl _)
  go_wp2_with fail
  refine (rof_c A n c _ a _ (h1.below L7) (by omega)).mono ?_
  rintro e w' ⟨rfl, rfl⟩
  go_wp2_with fail
  have e3 : all [(A, n, c, a), (A2, m, d, b), (A3, k, f, z)] = a ++ b ++ z := by simp [all]
  refine (parts_c _ 3 3 [(A, n, c, a), (A2, m, d, b), (A3, k, f, z)] _ ?lit1 (by decide)).mono ?_
  · refine ⟨(Mem.new_sl (n := 3) rfl rfl rfl).more (by simp), fun x hx => ?_⟩
    simp only [List.mem_cons, List.not_mem_nil, or_false] at hx
    rcases hx with rfl | rfl | rfl
    · exact ⟨((h1.below L7).alloc z7 _).more (by simp; omega), by show n ≤ _; omega⟩
    · exact ⟨((h2.below L7).alloc z7 _).more (by simp; omega), by show m ≤ _; omega⟩
    · exact ⟨((h3.below L7).alloc z7 _).more (by simp; omega), by show k ≤ _; omega⟩
  rw [e3]
  clear e3
  rintro e w8 ⟨rfl, hb8⟩
  have L8 : Below w.heap.size w w8 := (L7.alloc z7 _).trans (hb8.mono (by simp; omega))
  have z8 := L8.size
  have O8 : Own w8 w.heap.size A6 (n + m + k) c6 (a ++ b ++ z) := own_below (World.ownsRow.alloc O7 _) hb8 (Nat.le_refl _)
  go_wp2_with fail
  refine (rof_c A6 (n + m + k) c6 _ (a ++ b ++ z) _ O8.bs (by omega)).mono ?_
  rintro e w' ⟨rfl, rfl⟩
  go_wp2_with fail
  refine (put_c A n c a _ ((h1.below L8).more z8) (by omega)).mono ?_
  rintro e w9 ⟨A9, c9, rfl, O9, hb9⟩
  have L9 : Below w.heap.size w w9 := L8.trans (hb9.mono z8)
  have z9 := L9.size
  go_wp2_with fail
  refine (rput_c A n c a _ ((h1.below L9).more z9) (by omega)).mono ?_
  rintro e w10 ⟨A10, c10, rfl, O10, hb10⟩
  have L10 : Below w.heap.size w w10 := L9.trans (hb10.mono z9)
  have O9' : Own w10 w8.heap.size A9 (n + 4) c9 (put a) := own_below O9 hb10 (Nat.le_refl _)
  go_wp2_with fail
  refine (same_c A9 A10 (n + 4) c9 (n + 4) c10 _ _ (put a) (put a) _ O9'.bs O10.bs).mono ?_
  rw [decide_eq_true rfl]
  rintro e w' ⟨rfl, rfl⟩
  go_wp2
  go_ret
  exact ⟨rfl, L10⟩
theorem walk (v1 v2 v3 : Value) (w : World) (h1 : Frame.Arg Try.prog w 22 v1) (h2 : Frame.Arg Try.prog w 22 v2) (h3 : Frame.Arg Try.prog w 22 v3) :
    Calls Try.prog 3 #[v1, v2, v3] w fun e w' => e = .returned (.bool true) ∧ Below w.heap.size w w' := by
  obtain ⟨A, n, c, a, rfl, hc, hm, hr⟩ := arg_bs h1 Try.underlying22 Try.underlying5 (by kernel_rfl)
  obtain ⟨A2, n2, c2, b, rfl, hc2, hm2, hr2⟩ := arg_bs h2 Try.underlying22 Try.underlying5 (by kernel_rfl)
  obtain ⟨A3, n3, c3, z, rfl, hc3, hm3, hr3⟩ := arg_bs h3 Try.underlying22 Try.underlying5 (by kernel_rfl)
  unfold maxLen at hm hm2 hm3
  by_cases hs : n ≤ 1000 ∧ n2 ≤ 1000 ∧ n3 ≤ 1000
  · exact core A A2 A3 n c n2 c2 n3 c3 a b z w hr hr2 hr3 hs.1 hs.2.1 hs.2.2
  · have hor : 1000 < n ∨ n ≤ 1000 ∧ (1000 < n2 ∨ n2 ≤ 1000 ∧ 1000 < n3) := by omega
    clear hs
    rcases hor with h | ⟨h, h' | ⟨h', h''⟩⟩
    all_goals
      go_enter Try.func3, Try.ntmps3
      go_wp2_with fail
      refine (awake_c _).mono ?_
      rintro e w1 ⟨rfl, hb1⟩
      go_wp2_with fail
      refine (awake_c _).mono ?_
      rintro e w2 ⟨rfl, hb2⟩
      go_wp2
      go_ret
      exact ⟨rfl, hb1.trans (hb2.mono hb1.size)⟩
end sumParts
end Go.Proofs.Ytmgippcbfeemnaa
