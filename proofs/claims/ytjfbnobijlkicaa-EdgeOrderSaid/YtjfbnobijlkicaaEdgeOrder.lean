/- EdgeOrder: the walk. -/
import Derived.Test.YtjfbnobijlkicaaEdgeB
import Derived.Test.YtjfbnobijlkicaaFrame
namespace Go.Proofs.Ytjfbnobijlkicaa.edgeOrder
open Go.RowKit Fl
structure Facts (p q r n m : Int) (ok is : Bool) : Prop where
  p1 : -1 ≤ p
  p2 : p ≤ 1
  tr : p ≤ 0 → q ≤ 0 → r ≤ 0
  rd : ok = true → is = true → p ≤ 0 → n ≤ m
theorem facts (a b c : Nat) : Facts (cmpv a b) (cmpv b c) (cmpv a c) (rdv a) (rdv b) (decide (kd a ≠ 1)) (decide (kd b ≠ 1)) := by
  refine ⟨?_, ?_, ?_, ?_⟩
  · unfold cmpv; (repeat' split) <;> omega
  · unfold cmpv; (repeat' split) <;> omega
  · intro h1 h2
    rw [cmpv_le] at *
    omega
  · intro h1 h2 h3
    rw [cmpv_le] at h3
    exact rd_mono (of_decide_eq_true h1) (of_decide_eq_true h2) h3
set_option maxRecDepth 100000 in
set_option maxHeartbeats 2000000 in
theorem core (a b c : Nat) (w : World) (ha : a < 18446744073709551616) (hb : b < 18446744073709551616) (hc : c < 18446744073709551616) :
    Calls Try.prog 4 #[.int .u64 a, .int .u64 b, .int .u64 c] w fun e w' => e = .returned (.bool true) ∧ Below w.heap.size w w' := by
  have fb := xfrom
  have C1 := Lib.hid (fun w => compare_c a b w ha hb)
  have C2 := Lib.hid (fun w => compare_c b c w hb hc)
  have C3 := Lib.hid (fun w => rcompare_c a b w ha hb)
  have c4 := fun w => compare_c b a w hb ha
  rw [cmpv_neg a b] at c4
  have C4 := Lib.hid c4
  clear c4
  have C5 := Lib.hid (fun w => compare_c a c w ha hc)
  have R := Lib.hid (fun w => read_c a w ha)
  have R2 := Lib.hid (fun w => read_c b w hb)
  obtain ⟨p1, p2, tr, rd⟩ := facts a b c
  generalize decide (kd a ≠ 1) = ok at *
  generalize decide (kd b ≠ 1) = is at *
  generalize rdv a = n at *
  generalize rdv b = m at *
  generalize cmpv a b = p at *
  generalize cmpv b c = q at *
  generalize cmpv a c = r at *
  have hw : IntKind.i64.wrap (-p) = -p := by unfold IntKind.wrap; simp [IntKind.bits, IntKind.signed]; omega
  have hw2 : wrap64 (-p) = -p := by unfold wrap64; omega
  clear hb hc ha
  go_enter Try.func4, Try.ntmps4
  go_wp2_with fail
  refine (eawake_c _).mono ?_
  rintro e w1 ⟨rfl, L⟩
  go_wp2_with fail
  refine (C1.out _).mono ?_
  rintro e w2 ⟨rfl, rfl⟩
  go_wp2_with fail
  refine (C2.out _).mono ?_
  rintro e w2 ⟨rfl, rfl⟩
  go_wp2_with fail
  refine (C3.out _).mono ?_
  rintro e w2 ⟨rfl, rfl⟩
  go_wp2_with fail
  refine (C4.out _).mono ?_
  rintro e w2 ⟨rfl, rfl⟩
  by_cases hp : p ≤ 0
  · have d1 : decide (p ≤ 0) = true := decide_eq_true hp
    have d2 : decide (p > 0) = false := decide_eq_false (by omega)
    by_cases hq : q ≤ 0
    · have d3 : decide (q ≤ 0) = true := decide_eq_true hq
      have d4 : decide (r > 0) = false := decide_eq_false (by have := tr hp hq; omega)
      clear tr
      go_wp2_with fail
      refine (C5.out _).mono ?_
      rintro e w2 ⟨rfl, rfl⟩
      go_wp2_with fail
      refine (R.out _).mono ?_
      rintro e w2 ⟨rfl, rfl⟩
      go_wp2_with fail
      refine (R2.out _).mono ?_
      rintro e w2 ⟨rfl, rfl⟩
      cases ok
      · clear rd
        go_wp2_with fail
        go_ret
        exact ⟨rfl, L⟩
      · cases is
        · clear rd
          go_wp2_with fail
          go_ret
          exact ⟨rfl, L⟩
        · have d5 : decide (n ≤ m) = true := decide_eq_true (rd rfl rfl hp)
          clear rd
          go_wp2_with fail
          go_ret
          exact ⟨rfl, L⟩
    · have d3 : decide (q ≤ 0) = false := decide_eq_false hq
      clear tr
      go_wp2_with fail
      refine (R.out _).mono ?_
      rintro e w2 ⟨rfl, rfl⟩
      go_wp2_with fail
      refine (R2.out _).mono ?_
      rintro e w2 ⟨rfl, rfl⟩
      cases ok
      · clear rd
        go_wp2_with fail
        go_ret
        exact ⟨rfl, L⟩
      · cases is
        · clear rd
          go_wp2_with fail
          go_ret
          exact ⟨rfl, L⟩
        · have d5 : decide (n ≤ m) = true := decide_eq_true (rd rfl rfl hp)
          clear rd
          go_wp2_with fail
          go_ret
          exact ⟨rfl, L⟩
  · have d1 : decide (p ≤ 0) = false := decide_eq_false hp
    have d2 : decide (p > 0) = true := decide_eq_true (by omega)
    clear tr
    go_wp2_with fail
    refine (R.out _).mono ?_
    rintro e w2 ⟨rfl, rfl⟩
    go_wp2_with fail
    refine (R2.out _).mono ?_
    rintro e w2 ⟨rfl, rfl⟩
    clear rd
    cases ok
    · go_wp2_with fail
      go_ret
      exact ⟨rfl, L⟩
    · cases is
      · go_wp2_with fail
        go_ret
        exact ⟨rfl, L⟩
      · go_wp2_with fail
        go_ret
        exact ⟨rfl, L⟩
theorem walk (v1 v2 v3 : Value) (w : World) (h1 : Frame.Arg Try.prog w 22 v1) (h2 : Frame.Arg Try.prog w 22 v2) (h3 : Frame.Arg Try.prog w 22 v3) :
    Calls Try.prog 4 #[v1, v2, v3] w fun e w' => e = .returned (.bool true) ∧ Below w.heap.size w w' := by
  obtain ⟨a, rfl, ha⟩ := h1.int Try.underlying22
  obtain ⟨a0, a1⟩ := Frame.bd_u64 ha
  obtain ⟨a, rfl⟩ : ∃ b : Nat, a = b := ⟨a.toNat, by omega⟩
  obtain ⟨b, rfl, hb⟩ := h2.int Try.underlying22
  obtain ⟨b0, b1⟩ := Frame.bd_u64 hb
  obtain ⟨b, rfl⟩ : ∃ c : Nat, b = c := ⟨b.toNat, by omega⟩
  obtain ⟨c, rfl, hc⟩ := h3.int Try.underlying22
  obtain ⟨c0, c1⟩ := Frame.bd_u64 hc
  obtain ⟨c, rfl⟩ : ∃ d : Nat, c = d := ⟨c.toNat, by omega⟩
  exact core a b c w (by omega) (by omega) (by omega)
end Go.Proofs.Ytjfbnobijlkicaa.edgeOrder
