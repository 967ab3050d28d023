/- WideSplits: the walk. -/
import Derived.Test.YtgdbpjaebdlnjaaWideA
namespace Go.Proofs.Ytgdbpjaebdlnjaa.wideSplits
open Go.RowKit Wide
theorem below_cases (q wh a b : Int) (ha : 0 ≤ a) (hab : a ≤ b) : below q wh a = false ∨ below q wh a = true ∧ below q wh b = true := by
  cases h : below q wh a with
  | false => exact .inl rfl
  | true => exact .inr ⟨rfl, below_mono q wh a b ha hab h⟩
set_option maxRecDepth 100000 in
set_option maxHeartbeats 1000000 in
theorem core (wh p q part : Int) (w : World) (hw : 0 ≤ wh ∧ wh ≤ 9223372036854775807) (hp : 0 ≤ p ∧ p ≤ 255) (hq : 0 ≤ q ∧ q ≤ 255) (hpt : 0 ≤ part ∧ part ≤ 9223372036854775807) (a b : Int)
    (hab : p % 101 ≤ q % 101 ∧ a = p % 101 ∧ b = q % 101 ∨ q % 101 < p % 101 ∧ a = q % 101 ∧ b = p % 101) :
    Calls Try.prog 12 #[.int .i64 wh, .int .u8 p, .int .u8 q, .int .i64 part] w fun e w' => e = .returned (.bool true) ∧ Below w.heap.size w w' := by
  obtain ⟨w0, w1'⟩ := hw
  obtain ⟨p0, p1⟩ := hp
  obtain ⟨q0, q1⟩ := hq
  obtain ⟨t0, t1⟩ := hpt
  have ha0 : 0 ≤ a ∧ a ≤ b ∧ b ≤ 100 := by omega
  obtain ⟨a0, a1, b1⟩ := ha0
  obtain ⟨f1, f2, f3, f4, f5⟩ := split_facts wh a b w0 a0 a1 b1
  obtain ⟨x0, _, x2⟩ := share_bd wh a w1'
  obtain ⟨y0, _, y2⟩ := share_bd wh b w1'
  obtain ⟨z0, _, z2⟩ := share_bd wh (100 - a) w1'
  obtain ⟨x, hx⟩ : ∃ x, share wh a = x := ⟨_, rfl⟩
  obtain ⟨y, hy⟩ : ∃ x, share wh b = x := ⟨_, rfl⟩
  obtain ⟨z, hz⟩ : ∃ x, share wh (100 - a) = x := ⟨_, rfl⟩
  rw [hx] at f1 f2 f3 f5 x0 x2; rw [hy] at f1 y0 y2; rw [hz] at f3 f4 f5 z0 z2
  have Hx := Lib.hid hx
  have Hy := Lib.hid hy
  have Hz := Lib.hid hz
  have Hb := Lib.hid (below_cases part wh a b a0 a1)
  clear hx hy hz
  obtain ⟨P, hP⟩ : ∃ P, p % 101 = P := ⟨_, rfl⟩
  obtain ⟨Q, hQ⟩ : ∃ P, q % 101 = P := ⟨_, rfl⟩
  rw [hP, hQ] at hab
  have hq1 : decide (x > y) = false := by simp; omega
  rcases hab with ⟨hlt, rfl, rfl⟩ | ⟨hlt, rfl, rfl⟩
  all_goals
    go_enter Try.func12, Try.ntmps12
    go_wp2_with fail
    refine (awake_c _).mono ?_
    rintro e w1 ⟨rfl, L1⟩
    go_wp2_with fail
    refine (share_v wh _ x _ Hx (by omega) (by omega)).mono ?_
    rintro e w2 ⟨rfl, hb2⟩
    have L2 : Below w.heap.size w w2 := L1.trans (hb2.mono L1.size)
    clear hb2 L1
    go_wp2_with fail
    refine (share_v wh _ y _ Hy (by omega) (by omega)).mono ?_
    rintro e w1 ⟨rfl, hb1⟩
    have L1 : Below w.heap.size w w1 := L2.trans (hb1.mono L2.size)
    clear hb1 L2
    go_wp2_with fail
    refine (share_v wh _ z _ Hz (by omega) (by omega)).mono ?_
    rintro e w2 ⟨rfl, hb2⟩
    have L2 : Below w.heap.size w w2 := L1.trans (hb2.mono L1.size)
    clear hb2 L1
    rcases Hb.out with hb1 | ⟨hb1, hb2⟩
    · have B1 := Lib.hid hb1
      clear hb1 Hb
      go_wp2_with fail
      refine (below_v part wh _ false _ B1 (by omega) (by omega) (by omega)).mono ?_
      rintro e w1 ⟨rfl, hb1⟩
      have L1 : Below w.heap.size w w1 := L2.trans (hb1.mono L2.size)
      go_wp2
      go_ret
      exact ⟨rfl, L1⟩
    · have B1 := Lib.hid hb1
      have B2 := Lib.hid hb2
      clear hb1 hb2 Hb
      go_wp2_with fail
      refine (below_v part wh _ true _ B1 (by omega) (by omega) (by omega)).mono ?_
      rintro e w1 ⟨rfl, hb1⟩
      have L1 : Below w.heap.size w w1 := L2.trans (hb1.mono L2.size)
      clear hb1 L2
      go_wp2_with fail
      refine (below_v part wh _ true _ B2 (by omega) (by omega) (by omega)).mono ?_
      rintro e w2 ⟨rfl, hb2⟩
      have L2 : Below w.heap.size w w2 := L1.trans (hb2.mono L1.size)
      go_wp2
      go_ret
      exact ⟨rfl, L2⟩
theorem walk (v1 v2 v3 v4 : Value) (w : World) (h1 : Frame.Arg Try.prog w 3 v1) (h2 : Frame.Arg Try.prog w 5 v2) (h3 : Frame.Arg Try.prog w 5 v3) (h4 : Frame.Arg Try.prog w 3 v4) :
    Calls Try.prog 12 #[v1, v2, v3, v4] w fun e w' => e = .returned (.bool true) ∧ Below w.heap.size w w' := by
  obtain ⟨a, rfl, ha⟩ := h1.int Try.underlying3
  obtain ⟨b, rfl, hb⟩ := h2.int Try.underlying5
  obtain ⟨c, rfl, hc⟩ := h3.int Try.underlying5
  obtain ⟨d, rfl, hd⟩ := h4.int Try.underlying3
  have ha := Frame.bd_i64 ha
  have hb := Frame.bd_u8 hb
  have hc := Frame.bd_u8 hc
  have hd := Frame.bd_i64 hd
  by_cases h0 : a < 0 ∨ d < 0
  · have hor : a < 0 ∨ 0 ≤ a ∧ d < 0 := by omega
    clear h0
    rcases hor with h | ⟨h, h'⟩
    all_goals
      go_enter Try.func12, Try.ntmps12
      go_wp2_with fail
      refine (awake_c _).mono ?_
      rintro e w1 ⟨rfl, hb1⟩
      go_wp2_with fail
      refine (awake_c _).mono ?_
      rintro e w2 ⟨rfl, hb2⟩
      go_wp2
      go_ret
      exact ⟨rfl, hb1.trans (hb2.mono hb1.size)⟩
  · by_cases hs : b % 101 ≤ c % 101
    · exact core a b c d w ⟨by omega, ha.2⟩ hb hc ⟨by omega, hd.2⟩ _ _ (.inl ⟨hs, rfl, rfl⟩)
    · exact core a b c d w ⟨by omega, ha.2⟩ hb hc ⟨by omega, hd.2⟩ _ _ (.inr ⟨by omega, rfl, rfl⟩)
end Go.Proofs.Ytgdbpjaebdlnjaa.wideSplits
