/- WideRatios: the walk. -/
import Derived.Test.YtgdbpjaebdlnjaaWideA
namespace Go.Proofs.Ytgdbpjaebdlnjaa.wideRatios
open Go.RowKit Wide
set_option maxRecDepth 100000 in
set_option maxHeartbeats 1000000 in
theorem zero (a b c d k : Int) (w : World) (ha : a ≤ 9223372036854775807) (hb : b ≤ 9223372036854775807) (hc : c ≤ 9223372036854775807) (hd : d ≤ 9223372036854775807) (h0 : b ≤ 0 ∨ d ≤ 0) :
    Calls Try.prog 10 #[.int .i64 a, .int .i64 b, .int .i64 c, .int .i64 d, .int .u16 k] w fun e w' => e = .returned (.bool true) ∧ Below w.heap.size w w' := by
  have hn := ratio_neg a b c d
  have hr : b ≤ 0 ∧ d ≤ 0 ∧ ratio a b c d = 0 ∨ b ≤ 0 ∧ 0 < d ∧ ratio a b c d = 1 ∨ 0 < b ∧ d ≤ 0 ∧ ratio a b c d = -1 := by
    unfold ratio
    by_cases hb0 : b ≤ 0 <;> by_cases hd0 : d ≤ 0
    · exact .inl ⟨hb0, hd0, by rw [if_pos hb0, if_pos hd0]⟩
    · exact .inr (.inl ⟨hb0, by omega, by rw [if_pos hb0, if_neg hd0]⟩)
    · exact .inr (.inr ⟨by omega, hd0, by rw [if_neg hb0, if_pos hd0]⟩)
    · omega
  clear h0
  rcases hr with ⟨h1, h2, e1⟩ | ⟨h1, h2, e1⟩ | ⟨h1, h2, e1⟩
  all_goals
    rw [e1] at hn
    have Hn := Lib.hid hn
    have Hx := Lib.hid e1
    clear hn e1
    go_enter Try.func10, Try.ntmps10
    go_wp2_with fail
    refine (awake_c _).mono ?_
    rintro e w1 ⟨rfl, L1⟩
    go_wp2_with fail
    refine (ratio_v a b c d _ _ Hx ha hb hc hd).mono ?_
    rintro e w2 ⟨rfl, hb2⟩
    have L2 : Below w.heap.size w w2 := L1.trans (hb2.mono L1.size)
    clear hb2 L1
    go_wp2_with fail
    refine (ratio_v c d a b _ _ Hn hc hd ha hb).mono ?_
    rintro e w1 ⟨rfl, hb1⟩
    have L1 : Below w.heap.size w w1 := L2.trans (hb1.mono L2.size)
    go_wp2
    go_ret
    exact ⟨rfl, L1⟩
set_option maxRecDepth 100000 in
set_option maxHeartbeats 1000000 in
theorem pos (a b c d k : Int) (w : World) (ha : a ≤ 9223372036854775807) (hb : b ≤ 9223372036854775807) (hc : c ≤ 9223372036854775807) (hd : d ≤ 9223372036854775807) (hb0 : 0 < b) (hd0 : 0 < d) (hk0 : 0 ≤ k) (hk1 : k ≤ 65535) :
    Calls Try.prog 10 #[.int .i64 a, .int .i64 b, .int .i64 c, .int .i64 d, .int .u16 k] w fun e w' => e = .returned (.bool true) ∧ Below w.heap.size w w' := by
  have hn := ratio_neg a b c d
  obtain ⟨x, hx⟩ : ∃ x, compare a d c b = x := ⟨_, rfl⟩
  have hr : ratio a b c d = x := by unfold ratio; rw [if_neg (by omega), if_neg (by omega), hx]
  rw [hr] at hn
  obtain ⟨x0, x1⟩ := compare_bd a d c b
  rw [hx] at x0 x1
  obtain ⟨AN, hAN⟩ : ∃ v, a * (1 + k) = v := ⟨_, rfl⟩
  obtain ⟨BN, hBN⟩ : ∃ v, b * (1 + k) = v := ⟨_, rfl⟩
  have hmul : 0 ≤ a → a ≤ 140737488355327 → b ≤ 140737488355327 → ratio AN BN c d = x ∧ 0 ≤ AN ∧ AN ≤ 9223372036854710272 ∧ 0 ≤ BN ∧ BN ≤ 9223372036854710272 := by
    intro h1 h2 h3
    have h := ratio_mul a b c d (1 + k) h1 hb0 hd0 (by omega)
    obtain ⟨m1, m2⟩ := mul_bd h1 h2 (show 0 ≤ 1 + k by omega) (show 1 + k ≤ 65536 by omega)
    obtain ⟨m3, m4⟩ := mul_bd (show 0 ≤ b by omega) h3 (show 0 ≤ 1 + k by omega) (show 1 + k ≤ 65536 by omega)
    rw [hAN] at h m1 m2; rw [hBN] at h m3 m4
    exact ⟨by rw [h, hx], m1, m2, m3, m4⟩
  have Hx := Lib.hid hx
  have Hn := Lib.hid hn
  have Hr := Lib.hid hr
  have Hmul := Lib.hid hmul
  have HA := Lib.hid hAN
  have HB := Lib.hid hBN
  clear hx hn hr hmul hAN hBN
  go_enter Try.func10, Try.ntmps10
  go_wp2_with fail
  refine (awake_c _).mono ?_
  rintro e w1 ⟨rfl, L1⟩
  go_wp2_with fail
  refine (ratio_v a b c d _ _ Hr ha hb hc hd).mono ?_
  rintro e w2 ⟨rfl, hb2⟩
  have L2 : Below w.heap.size w w2 := L1.trans (hb2.mono L1.size)
  clear hb2 L1
  go_wp2_with fail
  refine (ratio_v c d a b _ _ Hn hc hd ha hb).mono ?_
  rintro e w1 ⟨rfl, hb1⟩
  have L1 : Below w.heap.size w w1 := L2.trans (hb1.mono L2.size)
  clear hb1 L2 Hn Hr
  by_cases h1 : a < 0
  · go_wp2_with fail
    refine (rcompare_v a d c b x _ Hx ha hd hc hb).mono ?_
    rintro e w' ⟨rfl, rfl⟩
    go_wp2
    go_ret
    exact ⟨rfl, L1⟩
  · by_cases h2 : 140737488355327 < a
    · go_wp2_with fail
      refine (rcompare_v a d c b x _ Hx ha hd hc hb).mono ?_
      rintro e w' ⟨rfl, rfl⟩
      go_wp2
      go_ret
      exact ⟨rfl, L1⟩
    · by_cases h3 : 140737488355327 < b
      · go_wp2_with fail
        refine (rcompare_v a d c b x _ Hx ha hd hc hb).mono ?_
        rintro e w' ⟨rfl, rfl⟩
        go_wp2
        go_ret
        exact ⟨rfl, L1⟩
      · obtain ⟨hm, a0, a1, b0, b1⟩ := Hmul.out (by omega) (by omega) (by omega)
        have Hm := Lib.hid hm
        have hA := HA.out
        have hB := HB.out
        clear hm Hmul HA HB
        go_wp2_with fail
        refine (rcompare_v a d c b x _ Hx ha hd hc hb).mono ?_
        rintro e w' ⟨rfl, rfl⟩
        go_wp2_with fail
        refine (ratio_v AN BN c d x _ Hm (by omega) (by omega) hc hd).mono ?_
        rintro e w2 ⟨rfl, hb2⟩
        have L2 : Below w.heap.size w w2 := L1.trans (hb2.mono L1.size)
        go_wp2
        go_ret
        exact ⟨rfl, L2⟩
theorem walk (v1 v2 v3 v4 v5 : Value) (w : World) (h1 : Frame.Arg Try.prog w 3 v1) (h2 : Frame.Arg Try.prog w 3 v2) (h3 : Frame.Arg Try.prog w 3 v3) (h4 : Frame.Arg Try.prog w 3 v4) (h5 : Frame.Arg Try.prog w 38 v5) :
    Calls Try.prog 10 #[v1, v2, v3, v4, v5] w fun e w' => e = .returned (.bool true) ∧ Below w.heap.size w w' := by
  obtain ⟨a, rfl, ha⟩ := h1.int Try.underlying3
  obtain ⟨b, rfl, hb⟩ := h2.int Try.underlying3
  obtain ⟨c, rfl, hc⟩ := h3.int Try.underlying3
  obtain ⟨d, rfl, hd⟩ := h4.int Try.underlying3
  obtain ⟨k, rfl, hk⟩ := h5.int Try.underlying38
  have ha := (Frame.bd_i64 ha).2
  have hb := (Frame.bd_i64 hb).2
  have hc := (Frame.bd_i64 hc).2
  have hd := (Frame.bd_i64 hd).2
  have hk := Frame.bd_u16 hk
  by_cases hb0 : b ≤ 0
  · exact zero a b c d k w ha hb hc hd (.inl hb0)
  · by_cases hd0 : d ≤ 0
    · exact zero a b c d k w ha hb hc hd (.inr hd0)
    · exact pos a b c d k w ha hb hc hd (by omega) (by omega) hk.1 hk.2
end Go.Proofs.Ytgdbpjaebdlnjaa.wideRatios
