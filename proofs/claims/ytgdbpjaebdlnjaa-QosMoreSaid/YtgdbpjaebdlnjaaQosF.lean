/- The walks of the reference of layer 12 (pod): small pods, few pods. -/
import Derived.Test.YtgdbpjaebdlnjaaQosN
namespace Go.Proofs.Ytgdbpjaebdlnjaa
open Go.RowKit
namespace Qos
/-- some bool; what was there stays -/
def AnyBb (W : World) (e : Ending) (w' : World) : Prop := ∃ b, e = .returned (.bool b) ∧ Below W.heap.size W w'
set_option maxRecDepth 100000 in
theorem small_c (p : PodV) (w : World) (hp : p.ok) : Calls Try.prog 14 #[.agg p.arr] w (AnyBb w) := by
  have h1 := hp.id
  have h2 := hp.img
  unfold maxLen at h1 h2
  clear hp
  obtain ⟨id, prio, crit, r0, r1, r2, l0, l1, l2, img, size⟩ := p
  unfold PodV.arr
  dsimp only at h1 h2 ⊢
  go_enter Try.func14, Try.ntmps14
  go_wp2_with fail
  all_goals (go_ret; exact ⟨_, rfl, (Below.refl _ _).alloc (Nat.le_refl _) _⟩)
set_option maxRecDepth 100000 in
theorem few_c (A : Option Addr) (n c : Nat) (ps : List PodV) (w : World) (h : Mem.Sl w w.heap.size 11 A n (PodV.flat ps)) (hok : ∀ p ∈ ps, p.ok) (hn : n ≤ 9223372036854775807) :
    Calls Try.prog 22 #[.slice A n c] w fun e w' => ∃ b, e = .returned (.bool b) ∧ (b = true → n ≤ 100) ∧ Below w.heap.size w w' := by
  go_enter Try.func22, Try.ntmps22
  go_wp2_with fail
  go_loopw [3] (fun vi wr => ∃ k : Nat, k ≤ n ∧ vi = .int .i64 k ∧ Below w.heap.size w wr) (fun i _ => n - (intOf i).toNat)
  case atStart => exact ⟨0, by omega, rfl, Below.refl _ _⟩
  case round =>
    obtain ⟨k, hk, rfl, hbr⟩ := hrel
    by_cases hlt : k < n ∧ k < 200
    · obtain ⟨h1, h2⟩ := hlt
      obtain ⟨ad, hl, rfl, _, hbk, hat⟩ := PodV.at_ (h.below hbr) h1
      have hsm : Hid (∀ w, Calls Try.prog 14 #[.agg ps[k].arr] w (AnyBb w)) := fun w => small_c ps[k] w (hok _ (List.getElem_mem hl))
      generalize ps[k] = p at *
      obtain ⟨c0, c1, c2, c3, c4, c5, c6, c7, c8, c9, c10⟩ := hat
      obtain ⟨id, prio, crit, r0, r1, r2, l0, l1, l2, img, size⟩ := p
      unfold PodV.arr at hsm
      dsimp only at hsm c0 c1 c2 c3 c4 c5 c6 c7 c8 c9 c10
      go_wp2_with fail
      refine (hsm.out _).mono ?_
      rintro e w2 ⟨b, rfl, hb2⟩
      have L2 : Below w.heap.size w w2 := hbr.trans (hb2.mono hbr.size)
      cases b with
      | false =>
        go_wp2_with fail
        go_ret
        exact ⟨false, rfl, fun h => (by cases h), L2⟩
      | true =>
        go_wp2_with fail
        go_roundw
        case rel => exact ⟨k + 1, by omega, by go_num, L2⟩
        case measure => simp [intOf]; omega
    · have hor : k < n ∧ 200 ≤ k ∨ k = n := by omega
      rcases hor with ⟨h1, h2⟩ | rfl
      · go_wp2_with fail
        go_ret
        exact ⟨_, rfl, fun h => (by have := of_decide_eq_true h; omega), hbr⟩
      · go_wp2_with fail
        go_ret
        exact ⟨_, rfl, fun h => (by have := of_decide_eq_true h; omega), hbr⟩
end Qos
end Go.Proofs.Ytgdbpjaebdlnjaa
