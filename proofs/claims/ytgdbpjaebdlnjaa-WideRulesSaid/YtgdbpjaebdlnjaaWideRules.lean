/- WideRules: the walk. -/
import Derived.Test.YtgdbpjaebdlnjaaWideA
import Derived.Deep.DeepCutAuto
namespace Go.Proofs.Ytgdbpjaebdlnjaa.wideRules
open Go.RowKit Wide
set_option maxRecDepth 100000 in
set_option maxHeartbeats 1000000 in
theorem core (a b c d e f p q : Int) (w : World) (ha : a ≤ 9223372036854775807) (hb : b ≤ 9223372036854775807) (hc : c ≤ 9223372036854775807) (hd : d ≤ 9223372036854775807) (he : e ≤ 9223372036854775807) (hf : f ≤ 9223372036854775807)
    (hp : -2147483648 ≤ p ∧ p ≤ 2147483647) (hq : -2147483648 ≤ q ∧ q ≤ 2147483647) :
    Calls Try.prog 9 #[.int .i64 a, .int .i64 b, .int .i64 c, .int .i64 d, .int .i64 e, .int .i64 f, .int .i32 p, .int .i32 q] w fun e w' => e = .returned (.bool true) ∧ Below w.heap.size w w' := by
  obtain ⟨x, hx⟩ : ∃ x, compare a b c d = x := ⟨_, rfl⟩
  obtain ⟨y, hy⟩ : ∃ y, compare c d e f = y := ⟨_, rfl⟩
  obtain ⟨z, hz⟩ : ∃ y, compare a b e f = y := ⟨_, rfl⟩
  have hn := compare_neg a b c d
  have hm := compare_comm a b c d
  rw [hx] at hn hm
  have htr : x ≤ 0 → y ≤ 0 → z ≤ 0 := by rw [← hx, ← hy, ← hz]; exact compare_trans
  obtain ⟨x0, x1⟩ := compare_bd a b c d
  obtain ⟨y0, y1⟩ := compare_bd c d e f
  rw [hx] at x0 x1; rw [hy] at y0 y1
  obtain ⟨S, hS⟩ : ∃ S, p * q = S := ⟨_, rfl⟩
  have hsm : 0 ≤ p → 0 ≤ q → compare p q S 1 = 0 ∧ compare p q (S + 1) 1 = -1 ∧ 0 ≤ S ∧ S ≤ 4611686014132420609 := by
    intro h0 h1
    obtain ⟨k1, k2⟩ := small_eq p q h0 h1
    obtain ⟨k3, k4⟩ := mul_bd h0 hp.2 h1 hq.2
    rw [hS] at k1 k2 k3 k4
    exact ⟨k1, k2, k3, k4⟩
  have Hsm := Lib.hid hsm
  have HS := Lib.hid hS
  have Hx := Lib.hid hx
  have Hy := Lib.hid hy
  have Hz := Lib.hid hz
  have Hn := Lib.hid hn
  have Hm := Lib.hid hm
  have Htr := Lib.hid htr
  obtain ⟨p0, p1⟩ := hp
  obtain ⟨q0, q1⟩ := hq
  clear hx hy hz hn hm htr hS hsm
  go_enter Try.func9, Try.ntmps9
  go_wp2_with fail
  refine (awake_c _).mono ?_
  rintro e w1 ⟨rfl, L1⟩
  go_wp2_with fail
  refine (compare_v a b c d x _ Hx ha hb hc hd).mono ?_
  rintro e w2 ⟨rfl, hb2⟩
  have L2 : Below w.heap.size w w2 := L1.trans (hb2.mono L1.size)
  clear hb2 L1
  go_upto_region 4 with fail
  go_cut [62] (fun s62 wx => s62 = .bool false ∧ Below w.heap.size w wx)
  case first =>
    go_wp2_with fail
    refine (compare_v c d a b (-x) _ Hn hc hd ha hb).mono ?_
    rintro e w1 ⟨rfl, hb1⟩
    have L1 : Below w.heap.size w w1 := L2.trans (hb1.mono L2.size)
    clear hb1 L2
    go_wp2_with fail
    refine (compare_v b a d c x _ Hm hb ha hd hc).mono ?_
    rintro e w2 ⟨rfl, hb2⟩
    have L2 : Below w.heap.size w w2 := L1.trans (hb2.mono L1.size)
    clear hb2 L1
    by_cases hx0 : x ≤ 0
    · go_wp2_with fail
      refine (compare_v c d e f y _ Hy hc hd he hf).mono ?_
      rintro e w1 ⟨rfl, hb1⟩
      have L1 : Below w.heap.size w w1 := L2.trans (hb1.mono L2.size)
      clear hb1 L2
      by_cases hy0 : y ≤ 0
      · have hz0 := Htr.out hx0 hy0
        have hzd : decide (0 < z) = false := by simp; omega
        go_wp2_with fail
        refine (compare_v a b e f z _ Hz ha hb he hf).mono ?_
        rintro e w2 ⟨rfl, hb2⟩
        have L2 : Below w.heap.size w w2 := L1.trans (hb2.mono L1.size)
        clear hb2 L1
        go_wp2_with fail
        go_meet
        exact ⟨rfl, L2⟩
      · go_wp2_with fail
        go_meet
        exact ⟨rfl, L1⟩
    · go_wp2_with fail
      go_meet
      exact ⟨rfl, L2⟩
  case rest =>
    obtain ⟨rfl, L3⟩ := hcut
    clear L2 Hx Hy Hz Hn Hm Htr
    by_cases hp0 : p < 0
    · go_wp2
      go_ret
      exact ⟨rfl, L3⟩
    · by_cases hq0 : q < 0
      · go_wp2
        go_ret
        exact ⟨rfl, L3⟩
      · obtain ⟨k1, k2, k3, k4⟩ := Hsm.out (by omega) (by omega)
        have K1 := Lib.hid k1
        have K2 := Lib.hid k2
        have hS := HS.out
        clear k1 k2 Hsm HS
        go_wp2_with fail
        refine (compare_v p q S 1 0 _ K1 (by omega) (by omega) (by omega) (by decide)).mono ?_
        rintro e w1 ⟨rfl, hb1⟩
        have L1 : Below w.heap.size w w1 := L3.trans (hb1.mono L3.size)
        clear hb1 L3
        go_wp2_with fail
        refine (compare_v p q (S + 1) 1 (-1) _ K2 (by omega) (by omega) (by omega) (by decide)).mono ?_
        rintro e w2 ⟨rfl, hb2⟩
        have L2 : Below w.heap.size w w2 := L1.trans (hb2.mono L1.size)
        go_wp2
        go_ret
        exact ⟨rfl, L2⟩
theorem walk (v1 v2 v3 v4 v5 v6 v7 v8 : Value) (w : World) (h1 : Frame.Arg Try.prog w 3 v1) (h2 : Frame.Arg Try.prog w 3 v2) (h3 : Frame.Arg Try.prog w 3 v3) (h4 : Frame.Arg Try.prog w 3 v4) (h5 : Frame.Arg Try.prog w 3 v5) (h6 : Frame.Arg Try.prog w 3 v6) (h7 : Frame.Arg Try.prog w 21 v7) (h8 : Frame.Arg Try.prog w 21 v8) :
    Calls Try.prog 9 #[v1, v2, v3, v4, v5, v6, v7, v8] w fun e w' => e = .returned (.bool true) ∧ Below w.heap.size w w' := by
  obtain ⟨a, rfl, ha⟩ := h1.int Try.underlying3
  obtain ⟨b, rfl, hb⟩ := h2.int Try.underlying3
  obtain ⟨c, rfl, hc⟩ := h3.int Try.underlying3
  obtain ⟨d, rfl, hd⟩ := h4.int Try.underlying3
  obtain ⟨e, rfl, he⟩ := h5.int Try.underlying3
  obtain ⟨f, rfl, hf⟩ := h6.int Try.underlying3
  obtain ⟨p, rfl, hp⟩ := h7.int Try.underlying21
  obtain ⟨q, rfl, hq⟩ := h8.int Try.underlying21
  exact core a b c d e f p q w (Frame.bd_i64 ha).2 (Frame.bd_i64 hb).2 (Frame.bd_i64 hc).2 (Frame.bd_i64 hd).2 (Frame.bd_i64 he).2 (Frame.bd_i64 hf).2 (Frame.bd_i32 hp) (Frame.bd_i32 hq)
end Go.Proofs.Ytgdbpjaebdlnjaa.wideRules
