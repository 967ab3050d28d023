/- SatAll: the walk. -/
import Derived.Test.YtfcdmfiblmnbkaaSatW
import Derived.Test.YtfcdmfiblmnbkaaFrame
namespace Go.Proofs.Ytfcdmfiblmnbkaa.satAll
open Go.RowKit Sat
theorem eli : Mem.El Try.prog 26 3 (.int .i64 0) 1 8 := ⟨Try.underlying26, by kernel_rfl, rfl, by decide⟩
theorem core (A : Option Addr) (n c : Nat) (zs : List Int) (w : World) (hr : Mem.Ints w w.heap.size .i64 A n zs) (hz : ∀ z ∈ zs, z ≤ 9223372036854775807) (hc : n ≤ c) (hm : c ≤ maxLen) :
    Calls Try.prog 4 #[.slice A n c] w fun e w' => e = .returned (.bool true) ∧ Below w.heap.size w w' := by
  unfold maxLen at hm
  by_cases hn : 1000 < n
  · go_enter Try.func4, Try.ntmps4
    go_wp2_with (first
      | (go_at_call 14; refine (awake_c _).mono ?_; rintro e w' ⟨rfl, o, rfl⟩))
    go_ret
    exact ⟨rfl, ((Below.refl _ _).alloc (Nat.le_refl _) _).alloc (by simp) _⟩
  · go_enter Try.func4, Try.ntmps4
    go_wp2_with (first
      | (go_at_call 14; refine (awake_c _).mono ?_; rintro e w' ⟨rfl, o, rfl⟩)
      | (at_builtin
         refine Mem.wpList_app rfl rfl eli (base := w.heap.size) (Mem.own_lit (by simp) (by omega) (by simp) rfl rfl) rfl rfl ((hr.alloc (Nat.le_refl _) _).alloc (by simp) _) (Mem.one_ints _ _) (N := n) (ys := zs.map (Value.int .i64)) (by omega) (by simp) (by simp [maxLen]; omega) (by omega) (by simp; omega) ?_
         intro A1 c1 w1 hown1 hg1 hat1))
    have hb1 : Below w.heap.size w w1 := (((Below.refl _ _).alloc (Nat.le_refl _) _).alloc (by simp) _).grown hg1 (by simp; omega) (by intro k hk; simp [Value.ownBlock] at hk; omega)
    obtain ⟨A2, c2, he, hs1, _⟩ := Mem.own_form hown1
    obtain ⟨rfl, _, rfl⟩ : A1 = A2 ∧ n = n ∧ c1 = c2 := by simpa using he
    have hr1 := hr.below hb1
    have hs2 : Mem.Ints w1 w1.heap.size .i64 A1 n zs := hs1
    clear he hs1 hown1 hg1 hat1 hr
    go_wp2_with (go_at_call 22; refine (sum_c _ _ _ _ zs _ hr1 hz (by omega)).mono ?_; rintro e w' ⟨rfl, rfl⟩)
    go_loopw [5] (fun vi wr => ∃ k : Nat, k ≤ n ∧ vi = .int .i64 k ∧ ∃ q, wr = w1.drewN q) (fun i _ => n - (intOf i).toNat)
    case atStart => exact ⟨0, Nat.zero_le _, rfl, 0, rfl⟩
    case round =>
      obtain ⟨k, hk, rfl, q, rfl⟩ := hrel
      by_cases hlt : k < n
      · obtain ⟨ad, z, hl, rfl, _, he, hcl⟩ := hr1.at_ hlt
        obtain ⟨ad2, z2, hl2, rfl, _, he2, hcl2⟩ := hs2.at_ hlt
        obtain rfl : z = z2 := he.symm.trans he2
        clear he he2
        go_wp2
        go_quiet (fail)
        go_wp2
        go_roundw
        case rel => exact ⟨k + 1, by omega, by go_num, _, rfl⟩
        case measure => simp [intOf]; omega
      · go_wp2_with (go_at_call 23; refine (rsum_c _ _ _ _ zs _ (Mem.Sl.drewN hr1 q) hz (by omega)).mono ?_; rintro e w' ⟨rfl, rfl⟩)
        go_ret
        exact ⟨rfl, Mem.below_drewN hb1 q⟩
theorem walk (v1 : Value) (w : World) (h1 : Frame.Arg Try.prog w 26 v1) :
    Calls Try.prog 4 #[v1] w fun e w' => e = .returned (.bool true) ∧ Below w.heap.size w w' := by
  obtain ⟨A, n, c, zs, rfl, hc, hm, hr, hz⟩ := h1.ints Try.underlying26 Try.underlying3 (by kernel_rfl)
  exact core A n c zs w hr (fun z h => (Frame.bd_i64 (hz z h)).2) hc hm
end Go.Proofs.Ytfcdmfiblmnbkaa.satAll
