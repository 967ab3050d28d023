/- The walks of layer 1 (sat). -/
import Derived.Test.YtfcdmfiblmnbkaaRows
import Derived.WalkKit
import Derived.BigQuiet
import Derived.Deep.QuietTactic
import Derived.WalkLawsBesides
import Derived.WalkSpells
import Derived.Lib.Hide
import Derived.Test.YtfcdmfiblmnbkaaSatL
import Derived.Test.YtfcdmfiblmnbkaaMem
namespace Go.Proofs.Ytfcdmfiblmnbkaa
open Go.RowKit
namespace Sat
theorem ret_int {k : IntKind} {a b : Int} (h : a = b) : Ending.returned (.int k a) = .returned (.int k b) := by rw [h]
theorem ret_bool {a b : Bool} (h : a = b) : Ending.returned (.bool a) = .returned (.bool b) := by rw [h]

theorem number_c (a : Int) (w : World) : Calls Try.prog 32 #[.int .i64 a] w fun e w' => e = .returned (.int .i64 (num a)) ∧ w = w' := by
  go_enter Try.func32, Try.ntmps32
  go_wp2
  · go_ret
    exact ⟨ret_int (by unfold num; split <;> omega), rfl⟩
  · go_ret
    exact ⟨ret_int (by unfold num; split <;> omega), rfl⟩

theorem add_c (a b : Int) (w : World) (ha : a ≤ 9223372036854775807) (hb : b ≤ 9223372036854775807) :
    Calls Try.prog 15 #[.int .i64 a, .int .i64 b] w fun e w' => e = .returned (.int .i64 (add a b)) ∧ w = w' := by
  have h1 := num_nonneg a
  have h2 := num_nonneg b
  have h3 := num_le a ha
  have h4 := num_le b hb
  go_enter Try.func15, Try.ntmps15
  go_wp2_with (go_at_call 32; refine (number_c _ _).mono ?_; rintro e w' ⟨rfl, rfl⟩)
  all_goals
    go_ret
    exact ⟨ret_int (by unfold add cut; split <;> omega), rfl⟩

theorem less_c (a b : Int) (w : World) (ha : a ≤ 9223372036854775807) (hb : b ≤ 9223372036854775807) :
    Calls Try.prog 19 #[.int .i64 a, .int .i64 b] w fun e w' => e = .returned (.int .i64 (less a b)) ∧ w = w' := by
  have h1 := num_nonneg a
  have h2 := num_nonneg b
  have h3 := num_le a ha
  have h4 := num_le b hb
  go_enter Try.func19, Try.ntmps19
  go_wp2_with (go_at_call 32; refine (number_c _ _).mono ?_; rintro e w' ⟨rfl, rfl⟩)
  all_goals
    go_ret
    exact ⟨ret_int (by unfold less; split <;> omega), rfl⟩

theorem full_c (a : Int) (w : World) :
    Calls Try.prog 21 #[.int .i64 a] w fun e w' => e = .returned (.bool (a == 9223372036854775807)) ∧ w = w' := by
  go_enter Try.func21, Try.ntmps21
  go_wp2
  go_ret
  exact ⟨rfl, rfl⟩

theorem mul_c (a b : Int) (w : World) (ha : a ≤ 9223372036854775807) (hb : b ≤ 9223372036854775807) :
    Calls Try.prog 17 #[.int .i64 a, .int .i64 b] w fun e w' => e = .returned (.int .i64 (mul a b)) ∧ w = w' := by
  have h1 := num_nonneg a
  have h2 := num_nonneg b
  have h3 := num_le a ha
  have h4 := num_le b hb
  go_enter Try.func17, Try.ntmps17
  by_cases hb0 : 0 < num b
  · by_cases hq : 9223372036854775807 / num b < num a
    · go_wp2_with (go_at_call 32; refine (number_c _ _).mono ?_; rintro e w' ⟨rfl, rfl⟩)
      go_ret
      exact ⟨ret_int (mul_over hb0 hq).symm, rfl⟩
    · go_wp2_with (go_at_call 32; refine (number_c _ _).mono ?_; rintro e w' ⟨rfl, rfl⟩)
      go_ret
      obtain ⟨e1, l1, l2⟩ := mul_under hb0 (by omega)
      exact ⟨ret_int (by rw [e1, IntWalk.wrap64_in _ ⟨by omega, by omega⟩]), rfl⟩
  · go_wp2_with (go_at_call 32; refine (number_c _ _).mono ?_; rintro e w' ⟨rfl, rfl⟩)
    go_ret
    obtain ⟨e1, e2⟩ := mul_none (a := a) (b := b) (by omega)
    exact ⟨ret_int (by rw [e1, e2]; exact IntWalk.wrap64_in _ ⟨by omega, by omega⟩), rfl⟩

theorem rnumber_c (a : Int) (w : World) (ha : a ≤ 9223372036854775807) : Calls Try.prog 34 #[.int .i64 a] w fun e w' => e = .returned (.int .u64 (num a)) ∧ w = w' := by
  by_cases h : a < 0
  · go_enter Try.func34, Try.ntmps34
    go_wp2
    go_ret
    exact ⟨ret_int (by unfold num; split <;> omega), rfl⟩
  · go_enter Try.func34, Try.ntmps34
    go_wp2
    go_ret
    exact ⟨ret_int (by unfold num; split <;> omega), rfl⟩

theorem rheld_c (a : Int) (w : World) (ha : 0 ≤ a) : Calls Try.prog 33 #[.int .u64 a] w fun e w' => e = .returned (.int .i64 (cut a)) ∧ w = w' := by
  by_cases h : 9223372036854775807 < a
  · go_enter Try.func33, Try.ntmps33
    go_wp2
    go_ret
    exact ⟨ret_int (by unfold cut; split <;> omega), rfl⟩
  · go_enter Try.func33, Try.ntmps33
    go_wp2
    go_ret
    exact ⟨ret_int (by unfold cut; split <;> omega), rfl⟩

theorem radd_c (a b : Int) (w : World) (ha : a ≤ 9223372036854775807) (hb : b ≤ 9223372036854775807) :
    Calls Try.prog 16 #[.int .i64 a, .int .i64 b] w fun e w' => e = .returned (.int .i64 (add a b)) ∧ w = w' := by
  have h1 := num_nonneg a
  have h2 := num_nonneg b
  have h3 := num_le a ha
  have h4 := num_le b hb
  go_enter Try.func16, Try.ntmps16
  go_wp2_with (first | (go_at_call 34; refine (rnumber_c _ _ (by omega)).mono ?_; rintro e w' ⟨rfl, rfl⟩) | (go_at_call 33; refine (rheld_c _ _ (by omega)).mono ?_; rintro e w' ⟨rfl, rfl⟩))
  go_ret
  exact ⟨rfl, rfl⟩

theorem rless_c (a b : Int) (w : World) (ha : a ≤ 9223372036854775807) (hb : b ≤ 9223372036854775807) :
    Calls Try.prog 20 #[.int .i64 a, .int .i64 b] w fun e w' => e = .returned (.int .i64 (less a b)) ∧ w = w' := by
  have h1 := num_nonneg a
  have h2 := num_nonneg b
  have h3 := num_le a ha
  have h4 := num_le b hb
  by_cases h : num a < num b
  all_goals
    go_enter Try.func20, Try.ntmps20
    go_wp2_with (go_at_call 34; refine (rnumber_c _ _ (by omega)).mono ?_; rintro e w' ⟨rfl, rfl⟩)
    go_ret
    exact ⟨ret_int (by unfold less; split <;> omega), rfl⟩

theorem rmul_c (a b : Int) (w : World) (ha : a ≤ 9223372036854775807) (hb : b ≤ 9223372036854775807) :
    Calls Try.prog 18 #[.int .i64 a, .int .i64 b] w fun e w' => e = .returned (.int .i64 (mul a b)) ∧ w = w' := by
  have h1 := num_nonneg a
  have h2 := num_nonneg b
  have h3 := num_le a ha
  have h4 := num_le b hb
  have hst : Hid (mul a b = cut (0 + num a * num b)) := by show mul a b = _; unfold mul; rw [Int.zero_add]
  go_enter Try.func18, Try.ntmps18
  go_wp2_with (first | (go_at_call 34; refine (rnumber_c _ _ (by omega)).mono ?_; rintro e w' ⟨rfl, rfl⟩) | (go_at_call 33; refine (rheld_c _ _ (by omega)).mono ?_; rintro e w' ⟨rfl, rfl⟩))
  go_loop [5, 6, 7] (fun vx vy vo => ∃ x y o : Int, vx = .int .i64 x ∧ vy = .int .u64 y ∧ vo = .int .i64 o ∧ 0 ≤ x ∧ x ≤ 9223372036854775807 ∧ 0 ≤ y ∧ y ≤ 9223372036854775807 ∧ 0 ≤ o ∧ o ≤ 9223372036854775807 ∧ Hid (mul a b = cut (o + x * y))) (fun _ y _ => (intOf y).toNat)
  case atStart => exact ⟨_, _, _, by rw [cut_small h3], rfl, rfl, h1, h3, h2, h4, by omega, by omega, hst⟩
  case round =>
    obtain ⟨x, y, o, rfl, rfl, rfl, hx, hxm, hy, hym, ho, hom, hinv⟩ := hrel
    have a1 := add_bd o x
    have a2 := add_bd x x
    by_cases hy0 : 0 < y
    · have hds : Hid (mul a b = cut ((if y % 2 = 1 then add o x else o) + add x x * (y / 2))) := by
        have := double_step hx hxm hy0 ho
        show mul a b = _
        rw [hinv.out, this]; unfold add; rw [num_id o ho, num_id x hx]
      by_cases hodd : y % 2 = 1
      · have ho1 : ((y % 2 == 1) = true) := by simp [hodd]
        have hds' : Hid (mul a b = cut (add o x + add x x * (y / 2))) := by have := hds.out; rw [if_pos hodd] at this; exact this
        clear hds hodd
        go_wp2_with (go_at_call 16; refine (radd_c _ _ _ (by omega) (by omega)).mono ?_; rintro e w' ⟨rfl, rfl⟩)
        go_round
        case rel => exact ⟨_, _, _, rfl, rfl, rfl, a2.1, a2.2, by omega, by omega, a1.1, a1.2, hds'⟩
        case measure => simp [intOf]; omega
      · have ho1 : ((y % 2 == 1) = false) := by simp [hodd]
        have hds' : Hid (mul a b = cut (o + add x x * (y / 2))) := by have := hds.out; rw [if_neg hodd] at this; exact this
        clear hds hodd
        go_wp2_with (go_at_call 16; refine (radd_c _ _ _ (by omega) (by omega)).mono ?_; rintro e w' ⟨rfl, rfl⟩)
        go_round
        case rel => exact ⟨_, _, _, rfl, rfl, rfl, a2.1, a2.2, by omega, by omega, ho, hom, hds'⟩
        case measure => simp [intOf]; omega
    · have hfin : Hid (mul a b = o) := by
        have e : y = 0 := by omega
        show mul a b = o
        rw [hinv.out, e, Int.mul_zero, Int.add_zero, cut_small hom]
      clear hinv
      go_wp2
      go_ret
      exact ⟨ret_int hfin.out.symm, rfl⟩

theorem sum_c (A : Option Addr) (n c B : Nat) (zs : List Int) (w : World) (hr : Mem.Ints w B .i64 A n zs) (hz : ∀ z ∈ zs, z ≤ 9223372036854775807) (hn : n ≤ 9223372036854775807) :
    Calls Try.prog 22 #[.slice A n c] w fun e w' => e = .returned (.int .i64 (sum zs)) ∧ w = w' := by
  go_enter Try.func22, Try.ntmps22
  go_wp2
  go_loop [3, 8] (fun vs vi => ∃ k : Nat, k ≤ n ∧ vi = .int .i64 k ∧ vs = .int .i64 (sum (zs.take k))) (fun _ i => n - (intOf i).toNat)
  case atStart => exact ⟨0, Nat.zero_le _, rfl, rfl⟩
  case round =>
    obtain ⟨k, hk, rfl, rfl⟩ := hrel
    have hsb := sum_bd (zs.take k)
    by_cases hlt : k < n
    · obtain ⟨ad, z, hl, rfl, _, he, hc⟩ := hr.at_ hlt
      have hz' : z ≤ 9223372036854775807 := by rw [← he]; exact hz _ (List.getElem_mem hl)
      have HS : Hid (sum (zs.take (k + 1)) = add (sum (zs.take k)) z) := by show sum _ = _; rw [Mem.take_snoc _ _ hl, sum_snoc, he]
      clear he
      go_wp2_with (go_at_call 15; refine (add_c _ _ _ (by omega) (by omega)).mono ?_; rintro e w' ⟨rfl, rfl⟩)
      go_round
      case rel => exact ⟨k + 1, by omega, by go_num, by rw [HS.out]⟩
      case measure => simp [intOf]; omega
    · go_wp2
      go_ret
      have := hr.len
      exact ⟨ret_int (by rw [List.take_of_length_le (by omega)]), rfl⟩

theorem rsum_c (A : Option Addr) (n c B : Nat) (zs : List Int) (w : World) (hr : Mem.Ints w B .i64 A n zs) (hz : ∀ z ∈ zs, z ≤ 9223372036854775807) (hn : n ≤ 9223372036854775807) :
    Calls Try.prog 23 #[.slice A n c] w fun e w' => e = .returned (.int .i64 (sum zs)) ∧ w = w' := by
  go_enter Try.func23, Try.ntmps23
  go_wp2
  go_loop [3, 4] (fun vs vi => ∃ k : Nat, k ≤ n ∧ vi = .int .i64 k ∧ vs = .int .i64 (sum (zs.take k))) (fun _ i => n - (intOf i).toNat)
  case atStart => exact ⟨0, Nat.zero_le _, rfl, rfl⟩
  case round =>
    obtain ⟨k, hk, rfl, rfl⟩ := hrel
    have hsb := sum_bd (zs.take k)
    by_cases hlt : k < n
    · obtain ⟨ad, z, hl, rfl, _, he, hc⟩ := hr.at_ hlt
      have hz' : z ≤ 9223372036854775807 := by rw [← he]; exact hz _ (List.getElem_mem hl)
      have HS : Hid (sum (zs.take (k + 1)) = add (sum (zs.take k)) z) := by show sum _ = _; rw [Mem.take_snoc _ _ hl, sum_snoc, he]
      clear he
      go_wp2_with (go_at_call 16; refine (radd_c _ _ _ (by omega) (by omega)).mono ?_; rintro e w' ⟨rfl, rfl⟩)
      go_round
      case rel => exact ⟨k + 1, by omega, by go_num, by rw [HS.out]⟩
      case measure => simp [intOf]; omega
    · go_wp2
      go_ret
      have := hr.len
      exact ⟨ret_int (by rw [List.take_of_length_le (by omega)]), rfl⟩

theorem awake_c (w : World) : Calls Try.prog 14 #[] w fun e w' => e = .returned (.bool true) ∧ ∃ o, w.alloc o = w' := by
  have e1 : add 9223372036854775807 1 = 9223372036854775807 := by decide
  have e2 : add 2 3 = 5 := by decide
  have e3 : mul 6 7 = 42 := by decide
  have e4 : mul 9223372036854775807 2 = 9223372036854775807 := by decide
  have e5 : less 5 7 = 0 := by decide
  have e6 : less 7 5 = 2 := by decide
  have e7 : sum [1, 2, 3] = 6 := by decide
  go_enter Try.func14, Try.ntmps14
  go_wp2_with (first
    | (go_at_call 15; refine (add_c _ _ _ (by decide) (by decide)).mono ?_; rintro e w' ⟨rfl, rfl⟩)
    | (go_at_call 17; refine (mul_c _ _ _ (by decide) (by decide)).mono ?_; rintro e w' ⟨rfl, rfl⟩)
    | (go_at_call 19; refine (less_c _ _ _ (by decide) (by decide)).mono ?_; rintro e w' ⟨rfl, rfl⟩)
    | (go_at_call 21; refine (full_c _ _).mono ?_; rintro e w' ⟨rfl, rfl⟩)
    | (go_at_call 22; refine (sum_c _ _ _ (w.heap.size + 1) [1, 2, 3] _ ⟨rfl, fun _ => ⟨_, rfl, by simp, ?_⟩⟩ (by simp) (by decide)).mono ?_; rotate_left; rintro e w' ⟨rfl, rfl⟩))
  · go_ret
    exact ⟨rfl, _, rfl⟩
  · exact Mem.Cells.new _ _ _ _
end Sat
end Go.Proofs.Ytfcdmfiblmnbkaa
