/- The walks of layer 2 (wide): answers by name, and what the laws ask ahead of all. -/
import Derived.Test.YtgdbpjaebdlnjaaWideD
import Derived.Test.YtgdbpjaebdlnjaaFrame
namespace Go.Proofs.Ytgdbpjaebdlnjaa
open Go.RowKit
namespace Wide
open Sat (num num_nonneg num_le num_id)
theorem compare_v (a b c d v : Int) (w : World) (h : Hid (compare a b c d = v)) (ha : a ≤ 9223372036854775807) (hb : b ≤ 9223372036854775807) (hc : c ≤ 9223372036854775807) (hd : d ≤ 9223372036854775807) :
    Calls Try.prog 25 #[.int .i64 a, .int .i64 b, .int .i64 c, .int .i64 d] w (fun e w' => e = .returned (.int .i64 v) ∧ Below w.heap.size w w') := by
  rw [← h.out]; exact compare_c a b c d w ha hb hc hd
theorem rcompare_v (a b c d v : Int) (w : World) (h : Hid (compare a b c d = v)) (ha : a ≤ 9223372036854775807) (hb : b ≤ 9223372036854775807) (hc : c ≤ 9223372036854775807) (hd : d ≤ 9223372036854775807) :
    Calls Try.prog 26 #[.int .i64 a, .int .i64 b, .int .i64 c, .int .i64 d] w (fun e w' => e = .returned (.int .i64 v) ∧ w = w') := by
  rw [← h.out]; exact rcompare_c a b c d w ha hb hc hd
theorem below_v (a b c : Int) (v : Bool) (w : World) (h : Hid (below a b c = v)) (ha : a ≤ 9223372036854775807) (hb : b ≤ 9223372036854775807) (hc : c ≤ 9223372036854775807) :
    Calls Try.prog 27 #[.int .i64 a, .int .i64 b, .int .i64 c] w fun e w' => e = .returned (.bool v) ∧ Below w.heap.size w w' := by
  rw [← h.out]; exact below_c a b c w ha hb hc
theorem ratio_v (a b c d v : Int) (w : World) (h : Hid (ratio a b c d = v)) (ha : a ≤ 9223372036854775807) (hb : b ≤ 9223372036854775807) (hc : c ≤ 9223372036854775807) (hd : d ≤ 9223372036854775807) :
    Calls Try.prog 28 #[.int .i64 a, .int .i64 b, .int .i64 c, .int .i64 d] w fun e w' => e = .returned (.int .i64 v) ∧ Below w.heap.size w w' := by
  rw [← h.out]; exact ratio_c a b c d w ha hb hc hd
theorem share_v (a b v : Int) (w : World) (h : Hid (share a b = v)) (ha : a ≤ 9223372036854775807) (hb : b ≤ 9223372036854775807) :
    Calls Try.prog 29 #[.int .i64 a, .int .i64 b] w fun e w' => e = .returned (.int .i64 v) ∧ Below w.heap.size w w' := by
  rw [← h.out]; exact share_c a b w ha hb
theorem awake_c (w : World) : Calls Try.prog 24 #[] w fun e w' => e = .returned (.bool true) ∧ Below w.heap.size w w' := by
  go_enter Try.func24, Try.ntmps24
  go_wp2_with fail
  refine (below_v 9 100 10 true _ (by show _ = _; decide) (by decide) (by decide) (by decide)).mono ?_
  rintro e w1 ⟨rfl, hb1⟩
  have L1 : Below w.heap.size w w1 := hb1
  clear hb1
  go_wp2_with fail
  refine (below_v 10 100 10 false _ (by show _ = _; decide) (by decide) (by decide) (by decide)).mono ?_
  rintro e w2 ⟨rfl, hb2⟩
  have L2 : Below w.heap.size w w2 := L1.trans (hb2.mono L1.size)
  clear hb2 L1
  go_wp2_with fail
  refine (compare_v 4611686018427387904 4611686018427387904 4611686018427387904 4611686018427387903 1 _ (by show _ = _; decide) (by decide) (by decide) (by decide) (by decide)).mono ?_
  rintro e w1 ⟨rfl, hb1⟩
  have L1 : Below w.heap.size w w1 := L2.trans (hb1.mono L2.size)
  clear hb1 L2
  go_wp2_with fail
  refine (ratio_v 1 2 2 4 0 _ (by show _ = _; decide) (by decide) (by decide) (by decide) (by decide)).mono ?_
  rintro e w2 ⟨rfl, hb2⟩
  have L2 : Below w.heap.size w w2 := L1.trans (hb2.mono L1.size)
  clear hb2 L1
  go_wp2_with fail
  refine (ratio_v 1 0 9 1 1 _ (by show _ = _; decide) (by decide) (by decide) (by decide) (by decide)).mono ?_
  rintro e w1 ⟨rfl, hb1⟩
  have L1 : Below w.heap.size w w1 := L2.trans (hb1.mono L2.size)
  clear hb1 L2
  go_wp2_with fail
  refine (share_v 1000 15 150 _ (by show _ = _; decide) (by decide) (by decide)).mono ?_
  rintro e w2 ⟨rfl, hb2⟩
  have L2 : Below w.heap.size w w2 := L1.trans (hb2.mono L1.size)
  clear hb2 L1
  go_wp2_with fail
  refine (share_v 7 50 4 _ (by show _ = _; decide) (by decide) (by decide)).mono ?_
  rintro e w1 ⟨rfl, hb1⟩
  have L1 : Below w.heap.size w w1 := L2.trans (hb1.mono L2.size)
  go_wp2
  go_ret
  exact ⟨rfl, L1⟩
end Wide
end Go.Proofs.Ytgdbpjaebdlnjaa
