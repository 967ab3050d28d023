/- The walks of layer 13 (qos): scores; counts. -/
import Derived.Test.YtgdbpjaebdlnjaaQosW
import Derived.Test.YtgdbpjaebdlnjaaQosT
namespace Go.Proofs.Ytgdbpjaebdlnjaa
open Go.RowKit
namespace Qos
def score (p : PodV) (m : Int) : Int :=
  if cls p = 1 ∨ p.crit = true then 0 else if cls p = 3 then 1000 else max 2 (min 999 (1000 - (thou p.r1 m : Int)))
theorem cls_three (p : PodV) : cls p = 1 ∨ cls p = 2 ∨ cls p = 3 := by unfold cls; (repeat' split) <;> simp
def ScoreSaid (p : PodV) (m : Int) (W : World) (e : Ending) (w' : World) : Prop := e = .returned (.int .i64 (score p m)) ∧ Below W.heap.size W w'
set_option maxRecDepth 100000 in
set_option maxHeartbeats 1000000 in
theorem score_c (p : PodV) (m : Int) (w : World) (hp : p.ok) (hm : I64 m) : Calls Try.prog 17 #[.agg p.arr, .int .i64 m] w (ScoreSaid p m w) := by
  have hcl := class_c p
  have h3 := cls_three p
  have hth : Hid (∀ w, Calls Try.prog 20 #[.int .i64 p.r1, .int .i64 m] w fun e w' => e = .returned (.int .i64 (thou p.r1 m)) ∧ Below w.heap.size w w') := fun w => thou_c p.r1 m w hp.r1.2 hm.2
  have hsc : Hid (score p m = if cls p = 1 ∨ p.crit = true then 0 else if cls p = 3 then 1000 else max 2 (min 999 (1000 - (thou p.r1 m : Int)))) := rfl
  have hle := thou_le p.r1 m
  have Hcl := Lib.hid hcl
  clear hcl hp hm
  unfold ScoreSaid
  obtain ⟨s, hs⟩ : ∃ s, s = score p m := ⟨_, rfl⟩
  rw [← hs] at hsc
  rw [← hs]
  clear hs
  obtain ⟨id, prio, crit, r0, r1, r2, l0, l1, l2, img, size⟩ := p
  unfold PodV.arr at Hcl ⊢
  unfold ClassSaid at Hcl
  dsimp only at Hcl hth hsc hle ⊢
  generalize cls ⟨id, prio, crit, r0, r1, r2, l0, l1, l2, img, size⟩ = c at *
  generalize thou r1 m = t at *
  go_enter Try.func17, Try.ntmps17
  go_wp2_with fail
  refine (Hcl.out _).mono ?_
  rintro e w1 ⟨rfl, hb1⟩
  have L1 : Below w.heap.size w w1 := ((Below.refl _ _).alloc (Nat.le_refl _) _).trans (hb1.mono (by simp))
  have B1 : Mem.Blk w1 w.heap.size 24 #[.string id, .int .i64 prio, .bool crit, .int .i64 r0, .int .i64 r1, .int .i64 r2, .int .i64 l0, .int .i64 l1, .int .i64 l2, .string img, .int .i64 size] := Mem.Blk.new.belowS hb1
  have c2 : w1.cell? ⟨w.heap.size, 2, none⟩ = some (.bool crit) := B1.cell 2
  have c4 : w1.cell? ⟨w.heap.size, 4, none⟩ = some (.int .i64 r1) := B1.cell 4
  clear hb1 B1
  rcases h3 with rfl | rfl | rfl
  · go_wp2_with fail
    go_ret
    exact ⟨by rw [hsc.out]; rfl, L1⟩
  · cases crit with
    | true =>
      go_wp2_with fail
      go_ret
      exact ⟨by rw [hsc.out]; rfl, L1⟩
    | false =>
      go_wp2_with fail
      refine (hth.out _).mono ?_
      rintro e w2 ⟨rfl, hb2⟩
      have hs2 : s = max 2 (min 999 (1000 - (t : Int))) := hsc.out
      have Hs2 := Lib.hid hs2
      have L2 : Below w.heap.size w w2 := L1.trans (hb2.mono L1.size)
      clear hs2 hsc hb2 L1
      go_wp2_with fail
      all_goals
        go_ret
        refine ⟨congrArg (fun z => Ending.returned (Value.int .i64 z)) (?_ : _ = s), L2⟩
        have := Hs2.out
        omega
  · cases crit with
    | true =>
      go_wp2_with fail
      go_ret
      exact ⟨by rw [hsc.out]; rfl, L1⟩
    | false =>
      go_wp2_with fail
      go_ret
      exact ⟨by rw [hsc.out]; rfl, L1⟩
end Qos
end Go.Proofs.Ytgdbpjaebdlnjaa
