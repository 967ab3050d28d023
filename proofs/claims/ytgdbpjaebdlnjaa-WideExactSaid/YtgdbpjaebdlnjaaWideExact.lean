/- WideExact: the walk. -/
import Derived.Test.YtgdbpjaebdlnjaaWideA
namespace Go.Proofs.Ytgdbpjaebdlnjaa.wideExact
open Go.RowKit Wide
theorem core (a b c d : Int) (w : World) (ha : a ≤ 9223372036854775807) (hb : b ≤ 9223372036854775807) (hc : c ≤ 9223372036854775807) (hd : d ≤ 9223372036854775807) :
    Calls Try.prog 8 #[.int .i64 a, .int .i64 b, .int .i64 c, .int .i64 d] w fun e w' => e = .returned (.bool true) ∧ Below w.heap.size w w' := by
  obtain ⟨x, hx⟩ : ∃ x, compare a b c d = x := ⟨_, rfl⟩
  obtain ⟨y, hy⟩ : ∃ y, compare a 100 b c = y := ⟨_, rfl⟩
  have hbl : below a b c = decide (y < 0) := by unfold below; rw [hy]
  have Hx := Lib.hid hx
  have Hy := Lib.hid hy
  have Hbl := Lib.hid hbl
  clear hx hy hbl
  go_enter Try.func8, Try.ntmps8
  go_wp2_with fail
  refine (awake_c _).mono ?_
  rintro e w1 ⟨rfl, L1⟩
  go_wp2_with fail
  refine (compare_v a b c d x _ Hx ha hb hc hd).mono ?_
  rintro e w2 ⟨rfl, hb2⟩
  have L2 : Below w.heap.size w w2 := L1.trans (hb2.mono L1.size)
  go_wp2_with fail
  refine (rcompare_v a b c d x _ Hx ha hb hc hd).mono ?_
  rintro e w' ⟨rfl, rfl⟩
  go_wp2_with fail
  refine (below_v a b c _ _ Hbl ha hb hc).mono ?_
  rintro e w3 ⟨rfl, hb3⟩
  have L3 : Below w.heap.size w w3 := L2.trans (hb3.mono L2.size)
  go_wp2_with fail
  refine (rcompare_v a 100 b c y _ Hy ha (by decide) hb hc).mono ?_
  rintro e w' ⟨rfl, rfl⟩
  go_wp2
  go_ret
  exact ⟨rfl, L3⟩
theorem walk (v1 v2 v3 v4 : Value) (w : World) (h1 : Frame.Arg Try.prog w 3 v1) (h2 : Frame.Arg Try.prog w 3 v2) (h3 : Frame.Arg Try.prog w 3 v3) (h4 : Frame.Arg Try.prog w 3 v4) :
    Calls Try.prog 8 #[v1, v2, v3, v4] w fun e w' => e = .returned (.bool true) ∧ Below w.heap.size w w' := by
  obtain ⟨a, rfl, ha⟩ := h1.int Try.underlying3
  obtain ⟨b, rfl, hb⟩ := h2.int Try.underlying3
  obtain ⟨c, rfl, hc⟩ := h3.int Try.underlying3
  obtain ⟨d, rfl, hd⟩ := h4.int Try.underlying3
  exact core a b c d w (Frame.bd_i64 ha).2 (Frame.bd_i64 hb).2 (Frame.bd_i64 hc).2 (Frame.bd_i64 hd).2
end Go.Proofs.Ytgdbpjaebdlnjaa.wideExact
