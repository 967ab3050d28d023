/- EdgeSigns: the walk. -/
import Derived.Test.YtjfbnobijlkicaaEdgeB
import Derived.Test.YtjfbnobijlkicaaFrame
namespace Go.Proofs.Ytjfbnobijlkicaa.edgeSigns
open Go.RowKit Fl
theorem kd_ng {b : Nat} (hb : b < 18446744073709551616) : kd (ng b) = 1 ↔ kd b = 1 := by
  have h1 := rk_cases (ng b)
  have h2 := rk_cases b
  have e := ng_rg hb
  constructor <;> intro h <;> by_cases hn : 9218868437227405312 < rg b
  · unfold kd; rw [if_pos hn]
  · exfalso; rw [e] at h1; omega
  · unfold kd; rw [e, if_pos hn]
  · exfalso; omega
theorem rk_ng {b : Nat} (hb : b < 18446744073709551616) (h : kd b ≠ 1) : rk (ng b) = -1 - rk b := by
  have h2 : kd (ng b) ≠ 1 := fun e => h ((kd_ng hb).1 e)
  unfold rk
  rw [if_neg h, if_neg h2, ng_rg hb, ng_sg hb]
  cases sg b
  · simp; omega
  · simp; omega
theorem cmp_ng {a b : Nat} (ha : a < 18446744073709551616) (hb : b < 18446744073709551616) (na : kd a ≠ 1) (nb : kd b ≠ 1) : cmpv (ng a) (ng b) = cmpv b a := by
  unfold cmpv
  rw [rk_ng ha na, rk_ng hb nb]
  (repeat' split) <;> omega
theorem rk_zero : rk 0 = 0 := by kernel_rfl
theorem rk_nought : rk 9223372036854775808 = -1 := by kernel_rfl
theorem cmp_zero {a : Nat} (h : 6 ≤ kd a) : cmpv a 0 = 1 := by
  have := rk_cases a
  unfold cmpv
  rw [rk_zero, if_neg (by omega), if_pos (by omega)]
theorem cmp_nought {a : Nat} (h : kd a ≤ 3) (h1 : kd a ≠ 1) : cmpv a 9223372036854775808 = -1 := by
  have := rk_cases a
  unfold cmpv
  rw [rk_nought, if_pos (by omega)]
theorem rd_none {a : Nat} (h : kd a < 6) : rdv a = 0 := by
  unfold rdv
  rw [if_pos (by omega)]
theorem kd_ge (a : Nat) : 1 ≤ kd a := by
  have := rk_cases a
  omega
/-- of one that is none -/
theorem none_law (a b : Nat) (h : kd a = 1 ∨ kd b = 1) : (cmpv a b = 0) ∨ (cmpv a b = 1 ∧ kd a = 1) ∨ (cmpv a b = -1 ∧ kd a ≠ 1 ∧ kd b = 1) := by
  have h1 := rk_cases a
  have h2 := rk_cases b
  unfold cmpv
  by_cases c1 : rk a < rk b
  · right; right; rw [if_pos c1]; omega
  · rw [if_neg c1]
    by_cases c2 : rk b < rk a
    · right; left; rw [if_pos c2]; omega
    · left; rw [if_neg c2]
set_option maxRecDepth 100000 in
set_option maxHeartbeats 2000000 in
theorem core (a b : Nat) (w : World) (ha : a < 18446744073709551616) (hb : b < 18446744073709551616) :
    Calls Try.prog 8 #[.int .u64 a, .int .u64 b] w fun e w' => e = .returned (.bool true) ∧ Below w.heap.size w w' := by
  have fb := xfrom
  have n1 := fun w => compare_c 9223372036854775808 0 w (by decide) (by decide)
  rw [cmp_noughts] at n1
  have N1 := Lib.hid n1
  have n2 := fun w => compare_c 0 9223372036854775808 w (by decide) (by decide)
  rw [cmp_noughts2] at n2
  have N2 := Lib.hid n2
  clear n1 n2
  have KA := Lib.hid (fun w => rkind_c a w ha)
  have KB := Lib.hid (fun w => rkind_c b w hb)
  have K := Lib.hid (fun w => kind_c a w ha)
  have C := Lib.hid (fun w => compare_c a b w ha hb)
  have C2 := Lib.hid (fun w => compare_c b a w hb ha)
  have C3 := Lib.hid (fun w => compare_c (ng a) (ng b) w (ng_lt ha) (ng_lt hb))
  have C4 := Lib.hid (fun w => compare_c a 0 w ha (by decide))
  have C5 := Lib.hid (fun w => compare_c a 9223372036854775808 w ha (by decide))
  have R := Lib.hid (fun w => read_c a w ha)
  have hnega : Op.unary .neg (.float .f64 a) = (pure (.float .f64 (ng a)) : Sem Value) := rfl
  have hnegb : Op.unary .neg (.float .f64 b) = (pure (.float .f64 (ng b)) : Sem Value) := rfl
  have HN := Lib.hid (fun h => none_law a b h)
  have r0 := rdv_nonneg a
  have k1 := kd_ge a
  have G1 := Lib.hid (fun n1 n2 => cmp_ng ha hb n1 n2)
  have G2 := Lib.hid (fun h => cmp_zero (a := a) h)
  have G3 := Lib.hid (fun h h1 => cmp_nought (a := a) h h1)
  have G4 := Lib.hid (fun h => rd_none (a := a) h)
  generalize ng a = na at *
  generalize ng b = nb at *
  generalize cmpv a 0 = c0 at *
  generalize cmpv a 9223372036854775808 = cm at *
  generalize cmpv na nb = cn at *
  generalize cmpv a b = cab at *
  generalize cmpv b a = cba at *
  generalize rdv a = n at *
  generalize kd a = k at *
  generalize kd b = l at *
  clear ha hb
  go_enter Try.func8, Try.ntmps8
  go_wp2_with fail
  refine (eawake_c _).mono ?_
  rintro e w1 ⟨rfl, L⟩
  go_wp2_with fail
  refine (copysign_c _).mono ?_
  rintro e w2 ⟨rfl, rfl⟩
  go_wp2_with fail
  refine (N1.out _).mono ?_
  rintro e w2 ⟨rfl, rfl⟩
  go_wp2_with fail
  refine (N2.out _).mono ?_
  rintro e w2 ⟨rfl, rfl⟩
  clear N1 N2
  go_wp2_with fail
  refine (KA.out _).mono ?_
  rintro e w2 ⟨rfl, rfl⟩
  by_cases hk : k = 1
  · have hn := HN.out (.inl hk)
    have d : (k == 1) = true := beq_iff_eq.2 hk
    clear HN G1 G2 G3 G4
    rcases hn with h | ⟨h, h2⟩ | ⟨h, h2, h3⟩
    · have e1 : (cab == 0) = true := beq_iff_eq.2 h
      clear h hk
      go_wp2_with fail
      refine (C.out _).mono ?_
      rintro e w2 ⟨rfl, rfl⟩
      go_wp2_with fail
      go_ret
      exact ⟨rfl, L⟩
    · have e1 : (cab == 0) = false := by rw [h]; rfl
      have e2 : (cab == 1) = true := by rw [h]; rfl
      clear h h2 hk
      go_wp2_with fail
      refine (C.out _).mono ?_
      rintro e w2 ⟨rfl, rfl⟩
      go_wp2_with fail
      refine (C.out _).mono ?_
      rintro e w2 ⟨rfl, rfl⟩
      go_wp2_with fail
      refine (KA.out _).mono ?_
      rintro e w2 ⟨rfl, rfl⟩
      go_wp2_with fail
      go_ret
      exact ⟨rfl, L⟩
    · exact absurd hk h2
  · have d : (k == 1) = false := beq_eq_false_iff_ne.2 hk
    go_wp2_with fail
    refine (KB.out _).mono ?_
    rintro e w2 ⟨rfl, rfl⟩
    by_cases hl : l = 1
    · have hn := HN.out (.inr hl)
      have d2 : (l == 1) = true := beq_iff_eq.2 hl
      clear HN G1 G2 G3 G4
      rcases hn with h | ⟨h, h2⟩ | ⟨h, h2, h3⟩
      · have e1 : (cab == 0) = true := beq_iff_eq.2 h
        clear h hk hl
        go_wp2_with fail
        refine (C.out _).mono ?_
        rintro e w2 ⟨rfl, rfl⟩
        go_wp2_with fail
        go_ret
        exact ⟨rfl, L⟩
      · exact absurd h2 hk
      · have e1 : (cab == 0) = false := by rw [h]; rfl
        have e2 : (cab == 1) = false := by rw [h]; rfl
        have e3 : (cab == -1) = true := by rw [h]; rfl
        clear h h2 h3 hk hl
        go_wp2_with fail
        refine (C.out _).mono ?_
        rintro e w2 ⟨rfl, rfl⟩
        go_wp2_with fail
        refine (C.out _).mono ?_
        rintro e w2 ⟨rfl, rfl⟩
        go_wp2_with fail
        refine (C.out _).mono ?_
        rintro e w2 ⟨rfl, rfl⟩
        go_wp2_with fail
        refine (KB.out _).mono ?_
        rintro e w2 ⟨rfl, rfl⟩
        go_wp2_with fail
        go_ret
        exact ⟨rfl, L⟩
    · have d2 : (l == 1) = false := beq_eq_false_iff_ne.2 hl
      have g1 := G1.out hk hl
      subst g1
      clear HN G1 hl
      go_wp2_with fail
      refine (C3.out _).mono ?_
      rintro e w2 ⟨rfl, rfl⟩
      go_wp2_with fail
      refine (C2.out _).mono ?_
      rintro e w2 ⟨rfl, rfl⟩
      go_wp2_with fail
      refine (K.out _).mono ?_
      rintro e w2 ⟨rfl, rfl⟩
      have hne : decide (k ≠ 1) = true := decide_eq_true hk
      rw [hne] at R
      clear hne
      have D0 : decide (n ≥ 0) = true := decide_eq_true r0
      go_wp2_with fail
      refine (R.out _).mono ?_
      rintro e w2 ⟨rfl, rfl⟩
      by_cases h6 : 6 ≤ k
      · have D1 : decide (k < 6) = false := decide_eq_false (by omega)
        have D2 : decide (k > 3) = true := decide_eq_true (by omega)
        have D3 : decide (k ≥ 6) = true := decide_eq_true h6
        have D4 : (c0 == 1) = true := by rw [G2.out h6]; rfl
        clear G2 G3 G4 h6 hk
        go_wp2_with fail
        refine (C4.out _).mono ?_
        rintro e w2 ⟨rfl, rfl⟩
        go_wp2_with fail
        go_ret
        exact ⟨rfl, L⟩
      · have D1 : decide (k < 6) = true := decide_eq_true (by omega)
        have D3 : decide (k ≥ 6) = false := decide_eq_false h6
        have D5 : (n == 0) = true := by rw [G4.out (by omega)]; rfl
        by_cases h3 : 3 < k
        · have D2 : decide (k > 3) = true := decide_eq_true h3
          clear G2 G3 G4 h6 hk h3
          go_wp2_with fail
          go_ret
          exact ⟨rfl, L⟩
        · have D2 : decide (k > 3) = false := decide_eq_false h3
          have D6 : (cm == -1) = true := by rw [G3.out (by omega) hk]; rfl
          clear G2 G3 G4 h6 hk h3
          go_wp2_with fail
          refine (C5.out _).mono ?_
          rintro e w2 ⟨rfl, rfl⟩
          go_wp2_with fail
          go_ret
          exact ⟨rfl, L⟩
theorem walk (v1 v2 : Value) (w : World) (h1 : Frame.Arg Try.prog w 22 v1) (h2 : Frame.Arg Try.prog w 22 v2) :
    Calls Try.prog 8 #[v1, v2] w fun e w' => e = .returned (.bool true) ∧ Below w.heap.size w w' := by
  obtain ⟨a, rfl, ha⟩ := h1.int Try.underlying22
  obtain ⟨a0, a1⟩ := Frame.bd_u64 ha
  obtain ⟨a, rfl⟩ : ∃ b : Nat, a = b := ⟨a.toNat, by omega⟩
  obtain ⟨b, rfl, hb⟩ := h2.int Try.underlying22
  obtain ⟨b0, b1⟩ := Frame.bd_u64 hb
  obtain ⟨b, rfl⟩ : ∃ c : Nat, b = c := ⟨b.toNat, by omega⟩
  exact core a b w (by omega) (by omega)
end Go.Proofs.Ytjfbnobijlkicaa.edgeSigns
