/- WideShares: the walk. -/
import Derived.Test.YtgdbpjaebdlnjaaWideA
namespace Go.Proofs.Ytgdbpjaebdlnjaa.wideShares
open Go.RowKit Wide
set_option maxRecDepth 100000 in
set_option maxHeartbeats 1000000 in
theorem core (wh p q : Int) (w : World) (hw : wh ≤ 9223372036854775807) (hp : p ≤ 9223372036854775807) (hq : q ≤ 9223372036854775807) :
    Calls Try.prog 11 #[.int .i64 wh, .int .i64 p, .int .i64 q] w fun e w' => e = .returned (.bool true) ∧ Below w.heap.size w w' := by
  obtain ⟨s, hs⟩ : ∃ s, share wh p = s := ⟨_, rfl⟩
  obtain ⟨c1, c2, c3, c4⟩ := clip_num p
  obtain ⟨f1, f2, f3, f4, f5⟩ := share_facts wh p hw
  obtain ⟨_, _, s2⟩ := share_bd wh p hw
  rw [hs] at f1 f2 f3 f4 f5 s2
  have hcl : p < 0 ∧ clip p = 0 ∨ 0 ≤ p ∧ 100 < p ∧ clip p = 100 ∨ 0 ≤ p ∧ p ≤ 100 ∧ clip p = p := by unfold clip; (repeat' split) <;> omega
  have Hs := Lib.hid hs
  have F2 := Lib.hid f2
  have F3 := Lib.hid f3
  have F4 := Lib.hid f4
  have F5 := Lib.hid f5
  clear c1 c2 hs f2 f3 f4 f5
  generalize hC : clip p = C at *
  have HC := Lib.hid hC
  clear hC
  have hsc : s ≤ 0 ∨ 0 < s := by omega
  have hwc : wh < 0 ∨ 0 ≤ wh := by omega
  have hqc : q < 0 ∨ 0 ≤ q := by omega
  have key : ∀ (w1 : World), Below w.heap.size w w1 → True := fun _ _ => trivial
  clear key
  rcases hcl with ⟨h1, rfl⟩ | ⟨h0, h1, rfl⟩ | ⟨h0, h1, rfl⟩
  all_goals
    go_enter Try.func11, Try.ntmps11
    go_wp2_with fail
    refine (awake_c _).mono ?_
    rintro e w1 ⟨rfl, L1⟩
    go_wp2_with fail
    refine (share_v wh _ s _ Hs hw hp).mono ?_
    rintro e w2 ⟨rfl, hb2⟩
    have L2 : Below w.heap.size w w2 := L1.trans (hb2.mono L1.size)
    clear hb2 L1
    go_wp2_with fail
    refine (below_v s wh _ false _ F2 (by omega) hw (by omega)).mono ?_
    rintro e w1 ⟨rfl, hb1⟩
    have L1 : Below w.heap.size w w1 := L2.trans (hb1.mono L2.size)
    clear hb1 L2
    rcases hsc with hs0 | hs0
    · rcases hwc with hw0 | hw0
      all_goals
        have g4 := F4.out
        rcases hqc with hq0 | hq0
        · have g5 : ¬ s > wh ∨ wh < 0 := by omega
          clear g4 g5
          go_wp2
          go_ret
          exact ⟨rfl, L1⟩
        · have g6 := F5.out q hq0
          have G6 := Lib.hid g6
          clear g4 g6
          go_wp2_with fail
          refine (below_v q wh _ _ _ G6 hq hw (by omega)).mono ?_
          rintro e w2 ⟨rfl, hb2⟩
          have L2 : Below w.heap.size w w2 := L1.trans (hb2.mono L1.size)
          go_wp2
          go_ret
          exact ⟨rfl, L2⟩
    · have g3 := Lib.hid (F3.out hs0)
      go_wp2_with fail
      refine (below_v (s - 1) wh _ true _ g3 (by omega) hw (by omega)).mono ?_
      rintro e w2 ⟨rfl, hb2⟩
      have L2 : Below w.heap.size w w2 := L1.trans (hb2.mono L1.size)
      clear hb2 L1
      rcases hwc with hw0 | hw0
      all_goals
        have g4 := F4.out
        rcases hqc with hq0 | hq0
        · clear F4
          have g5 : 0 ≤ wh → s ≤ wh := g4
          clear g4
          have g7 : wh < 0 ∨ s ≤ wh := by omega
          clear g5
          have hwq : wh < s ∨ s ≤ wh := by omega
          rcases hwq with hwq | hwq
          all_goals
            first
            | (exfalso; omega)
            | (clear g7
               go_wp2
               go_ret
               exact ⟨rfl, L2⟩)
        · have g6 := F5.out q hq0
          have G6 := Lib.hid g6
          clear g6
          have g7 : wh < 0 ∨ s ≤ wh := by omega
          clear g4 F4
          have hwq : wh < s ∨ s ≤ wh := by omega
          rcases hwq with hwq | hwq
          all_goals
            first
            | (exfalso; omega)
            | (clear g7
               go_wp2_with fail
               refine (below_v q wh _ _ _ G6 hq hw (by omega)).mono ?_
               rintro e w1 ⟨rfl, hb1⟩
               have L1 : Below w.heap.size w w1 := L2.trans (hb1.mono L2.size)
               go_wp2
               go_ret
               exact ⟨rfl, L1⟩)
theorem walk (v1 v2 v3 : Value) (w : World) (h1 : Frame.Arg Try.prog w 3 v1) (h2 : Frame.Arg Try.prog w 3 v2) (h3 : Frame.Arg Try.prog w 3 v3) :
    Calls Try.prog 11 #[v1, v2, v3] w fun e w' => e = .returned (.bool true) ∧ Below w.heap.size w w' := by
  obtain ⟨a, rfl, ha⟩ := h1.int Try.underlying3
  obtain ⟨b, rfl, hb⟩ := h2.int Try.underlying3
  obtain ⟨c, rfl, hc⟩ := h3.int Try.underlying3
  exact core a b c w (Frame.bd_i64 ha).2 (Frame.bd_i64 hb).2 (Frame.bd_i64 hc).2
end Go.Proofs.Ytgdbpjaebdlnjaa.wideShares
