/- The plain law of layer 3 (edge): the least one of a list. -/
import Derived.Test.YtjfbnobijlkicaaEdgeB
import Derived.Test.YtjfbnobijlkicaaOwnR
namespace Go.Proofs.Ytjfbnobijlkicaa
open Go.RowKit
namespace Fl
theorem lst_le (l : List Nat) : ∀ m, rk (lst m l) ≤ rk m ∧ ∀ b ∈ l, rk (lst m l) ≤ rk b := by
  induction l with
  | nil => intro m; exact ⟨Int.le_refl _, fun b hb => by cases hb⟩
  | cons x l ih =>
    intro m
    have hx : rk (if cmpv x m < 0 then x else m) ≤ rk m ∧ rk (if cmpv x m < 0 then x else m) ≤ rk x := by
      split
      · rename_i h
        have : ¬ rk m ≤ rk x := by intro hc; rw [← cmpv_le, cmpv_neg] at hc; omega
        omega
      · rename_i h
        have : ¬ rk x < rk m := by intro hc; rw [← cmpv_gt, cmpv_neg] at hc; omega
        omega
    obtain ⟨h1, h2⟩ := ih (if cmpv x m < 0 then x else m)
    refine ⟨Int.le_trans h1 hx.1, ?_⟩
    intro b hb
    rcases List.mem_cons.1 hb with rfl | hb
    · exact Int.le_trans h1 hx.2
    · exact h2 b hb
theorem lst_mem (l : List Nat) : ∀ m, lst m l = m ∨ lst m l ∈ l := by
  induction l with
  | nil => intro m; exact .inl rfl
  | cons x l ih =>
    intro m
    show lst (if cmpv x m < 0 then x else m) l = m ∨ lst (if cmpv x m < 0 then x else m) l ∈ x :: l
    rcases ih (if cmpv x m < 0 then x else m) with h | h
    · rw [h]
      split
      · exact .inr (List.mem_cons_self ..)
      · exact .inl rfl
    · exact .inr (List.mem_cons_of_mem _ h)
theorem least_le {bs : List Nat} {b : Nat} (h : b ∈ bs) : ¬ cmpv b (leastF bs) < 0 := by
  intro hc
  have h1 : rk (leastF bs) ≤ rk b := by
    cases bs with
    | nil => cases h
    | cons x l =>
      obtain ⟨h1, h2⟩ := lst_le l x
      rcases List.mem_cons.1 h with rfl | h
      · exact h1
      · exact h2 b h
  rw [← cmpv_le, cmpv_neg] at h1
  omega
theorem cmpv_self (a : Nat) : cmpv a a = 0 := by unfold cmpv; rw [if_neg (by omega), if_neg (by omega)]
theorem least_in {bs : List Nat} (h : bs ≠ []) : bs.any (fun b => cmpv b (leastF bs) == 0) = true := by
  cases bs with
  | nil => exact absurd rfl h
  | cons x l =>
    have hm : leastF (x :: l) ∈ x :: l := by
      rcases lst_mem l x with e | e
      · show lst x l ∈ x :: l
        rw [e]; exact List.mem_cons_self ..
      · exact List.mem_cons_of_mem _ e
    rw [List.any_eq_true]
    exact ⟨_, hm, by rw [cmpv_self]; rfl⟩
theorem least_64 {bs : List Nat} (h : ∀ b ∈ bs, b < 18446744073709551616) : leastF bs < 18446744073709551616 := by
  cases bs with
  | nil => show 9218868437227405312 < 18446744073709551616; omega
  | cons x l =>
    rcases lst_mem l x with e | e
    · show lst x l < _
      rw [e]; exact h _ (List.mem_cons_self ..)
    · exact h _ (List.mem_cons_of_mem _ e)
theorem kd_inf : kd 9218868437227405312 = 7 := by kernel_rfl
theorem take_fv {bs : List Nat} {k : Nat} (h : k < bs.length) : (bs.take k).map fv ++ [.float .f64 bs[k]] = (bs.take (k + 1)).map fv := by
  rw [Mem.take_snoc _ _ h, List.map_append]
  rfl
theorem oks_take {bs : List Nat} {k : Nat} (h : k < bs.length) : oks (bs.take (k + 1)) = (oks (bs.take k) && decide (kd bs[k] ≠ 1)) := by
  rw [Mem.take_snoc _ _ h]
  unfold oks
  rw [List.all_append]
  simp only [List.all_cons, List.all_nil, Bool.and_true]
theorem bne_dec (k : Int) : (k != 1) = decide (k ≠ 1) := by
  by_cases h : k = 1
  · subst h; rfl
  · rw [decide_eq_true h]; exact bne_iff_ne.2 h
/-- is one of these as F is? -/
def among (bs : List Nat) (F : Nat) : Bool := bs.any fun b => cmpv b F == 0
theorem among_drop {bs : List Nat} {k F : Nat} (h : k < bs.length) : among (bs.drop k) F = (cmpv bs[k] F == 0 || among (bs.drop (k + 1)) F) := by
  rw [List.drop_eq_getElem_cons h]
  rfl
theorem rds_at {bs : List Nat} {k : Nat} (h : k < bs.length) (h2 : k < (rds bs).length) : (rds bs)[k] = .int .i64 (rdv bs[k]) := by simp [rds]
/-- the words of a list of numbers -/
def words (zs : List Int) : List Nat := zs.map Int.toNat
theorem words_len (zs : List Int) : (words zs).length = zs.length := by simp [words]
end Fl
end Go.Proofs.Ytjfbnobijlkicaa
