/- The walks of layers 6 and 18 (thresh, grace). -/
import Derived.Test.YtjfbnobijlkicaaGraceL
import Derived.Test.YtjfbnobijlkicaaReg
import Derived.WalkLawsBesides
import Derived.Deep.DeepCutAuto
namespace Go.Proofs.Ytjfbnobijlkicaa
open Go.RowKit
namespace Grc
def IRow (w : World) (B : Nat) (A : Option Addr) (n c : Nat) (xs : List Value) : Prop := w.ownsRow B 3 1 (.slice A n c) n xs
def BRow (w : World) (B : Nat) (A : Option Addr) (n c : Nat) (xs : List Value) : Prop := w.ownsRow B 4 1 (.slice A n c) n xs
theorem eli : Mem.El Try.prog 36 3 (.int .i64 0) 1 8 := ⟨Try.underlying36, by kernel_rfl, rfl, by decide⟩
theorem elt : Mem.El Try.prog 53 4 (.bool false) 1 1 := ⟨Try.underlying53, by kernel_rfl, rfl, by decide⟩
set_option maxRecDepth 100000 in
theorem tmet_c (t : ThrV) (cap av : Int) (w : World) (ht : t.ok) (hc : ThrV.I64 cap) (ha : ThrV.I64 av) :
    Calls Try.prog 59 #[.agg t.arr, .int .i64 cap, .int .i64 av] w fun e w' => e = .returned (.bool (metT t cap av)) ∧ Below w.heap.size w w' := by
  have hb : Hid (∀ w, Calls Try.prog 69 #[.int .i64 av, .int .i64 cap, .int .i64 t.pct] w fun e w' => e = .returned (.bool (Wide.below av cap t.pct)) ∧ Below w.heap.size w w') := fun w => Wide.below_c av cap t.pct w ha.2 hc.2 ht.pct.2
  have hm : Hid (metT t cap av = if 0 < t.pct then Wide.below av cap t.pct else decide (av < t.amt)) := rfl
  clear ht hc ha
  generalize metT t cap av = M at *
  obtain ⟨sig, pct, amt, soft, grace⟩ := t
  unfold ThrV.arr
  dsimp only at hb hm ⊢
  rcases Int.lt_or_le 0 pct with h | h
  · have hd : decide (pct > 0) = true := by simpa using h
    have hM : Hid (M = Wide.below av cap pct) := by show _ = _; rw [hm.out, if_pos h]
    clear hm h
    go_enter Try.func59, Try.ntmps59
    go_wp2_with fail
    refine (hb.out _).mono ?_
    rintro e w1 ⟨rfl, hb1⟩
    have L1 : Below w.heap.size w w1 := ((Below.refl _ _).alloc (Nat.le_refl _) _).trans (hb1.mono (by simp))
    go_wp2_with fail
    go_ret
    exact ⟨by rw [hM.out]; rfl, L1⟩
  · have hd : decide (pct > 0) = false := by simpa using h
    have hM : Hid (M = decide (av < amt)) := by show _ = _; rw [hm.out, if_neg (by omega)]
    clear hm h
    go_enter Try.func59, Try.ntmps59
    go_wp2_with fail
    go_ret
    exact ⟨by rw [hM.out]; rfl, (Below.refl _ _).alloc (Nat.le_refl _) _⟩
set_option maxRecDepth 100000 in
theorem tedge_c (t : ThrV) (cap : Int) (w : World) (ht : t.ok) (hc : ThrV.I64 cap) :
    Calls Try.prog 61 #[.agg t.arr, .int .i64 cap] w fun e w' => e = .returned (.int .i64 (edgeT t cap)) ∧ Below w.heap.size w w' := by
  have hb : Hid (∀ w, Calls Try.prog 70 #[.int .i64 cap, .int .i64 t.pct] w fun e w' => e = .returned (.int .i64 (Wide.share cap t.pct)) ∧ Below w.heap.size w w') := fun w => Wide.share_c cap t.pct w hc.2 ht.pct.2
  have hm : Hid (edgeT t cap = if 0 < t.pct then Wide.share cap t.pct else t.amt) := rfl
  clear ht hc
  generalize edgeT t cap = M at *
  obtain ⟨sig, pct, amt, soft, grace⟩ := t
  unfold ThrV.arr
  dsimp only at hb hm ⊢
  rcases Int.lt_or_le 0 pct with h | h
  · have hd : decide (pct > 0) = true := by simpa using h
    have hM : Hid (M = Wide.share cap pct) := by show _ = _; rw [hm.out, if_pos h]
    clear hm h
    go_enter Try.func61, Try.ntmps61
    go_wp2_with fail
    refine (hb.out _).mono ?_
    rintro e w1 ⟨rfl, hb1⟩
    have L1 : Below w.heap.size w w1 := ((Below.refl _ _).alloc (Nat.le_refl _) _).trans (hb1.mono (by simp))
    go_wp2_with fail
    go_ret
    exact ⟨by rw [hM.out]; rfl, L1⟩
  · have hd : decide (pct > 0) = false := by simpa using h
    have hM : Hid (M = amt) := by show _ = _; rw [hm.out, if_neg (by omega)]
    clear hm h
    go_enter Try.func61, Try.ntmps61
    go_wp2_with fail
    go_ret
    exact ⟨by rw [hM.out]; rfl, (Below.refl _ _).alloc (Nat.le_refl _) _⟩
/-- a new row of ints -/
def NewI (n : Nat) (xs : List Value) (W : World) (e : Ending) (w' : World) : Prop := ∃ A' c', e = .returned (.slice A' n c') ∧ IRow w' W.heap.size A' n c' xs ∧ Below W.heap.size W w'
/-- a new row of bools -/
def NewB (n : Nat) (xs : List Value) (W : World) (e : Ending) (w' : World) : Prop := ∃ A' c', e = .returned (.slice A' n c') ∧ BRow w' W.heap.size A' n c' xs ∧ Below W.heap.size W w'
def nevers (n : Nat) : List Value := List.replicate n (.int .i64 (-1))
set_option maxRecDepth 100000 in
set_option maxHeartbeats 1000000 in
theorem begin_c (p : CfgV) (w : World) (hn : p.n ≤ 1000000) : Calls Try.prog 31 #[.agg p.arr] w (NewI p.n (nevers p.n) w) := by
  obtain ⟨k0, k1, k2, a0, a1, a2, A, n, c, per, ret, age, dead⟩ := p
  unfold CfgV.arr
  dsimp only at hn ⊢
  obtain ⟨wm, hmk, hO, hbm, _⟩ := make_of eli rfl n hn (by decide) (w.alloc (.cells #[.int .i64 k0, .int .i64 k1, .int .i64 k2, .int .i64 a0, .int .i64 a1, .int .i64 a2, .slice A n c, .int .i64 per, .int .i64 ret, .int .i64 age, .int .i64 dead] 47))
  rw [World.size_alloc] at hmk hO hbm
  have L1 : Below w.heap.size w wm := ((Below.refl _ _).alloc (Nat.le_refl _) _).trans (hbm.mono (by omega))
  have hO2 : IRow wm w.heap.size (some ⟨w.heap.size + 1, 0, none⟩) n n (part (nevers n) (.int .i64 0) 0) := by
    rw [part_zero]
    have : (nevers n).length = n := by simp [nevers]
    rw [this]
    exact own_low hO (by omega)
  have hnl : (nevers n).length = n := by simp [nevers]
  clear hbm hO
  go_enter Try.func31, Try.ntmps31
  go_wp2_with fail
  go_loopw [11] (fun vi wr => ∃ k : Nat, k ≤ n ∧ vi = .int .i64 k ∧ Below w.heap.size w wr ∧ IRow wr w.heap.size (some ⟨w.heap.size + 1, 0, none⟩) n n (part (nevers n) (.int .i64 0) k)) (fun i _ => n - (intOf i).toNat)
  case atStart => exact ⟨0, by omega, rfl, L1, hO2⟩
  case round =>
    clear L1 hO2 hmk
    obtain ⟨k, hk, rfl, hbr, hrow⟩ := hrel
    by_cases hlt : k < n
    · obtain ⟨g, hl, hg, hg1, hg2, hcell, hfz, hset⟩ := own_at hrow hlt
      obtain rfl : w.heap.size + 1 = g := by simpa using hg
      have Hset : Hid (IRow (wr.setCell ⟨w.heap.size + 1, k, none⟩ (.int .i64 (-1))) w.heap.size (some ⟨w.heap.size + 1, 0, none⟩) n n (part (nevers n) (.int .i64 0) (k + 1))) := by
        have q := hset (.int .i64 (-1))
        have e : (nevers n)[k]'(by omega) = .int .i64 (-1) := by simp [nevers]
        show IRow _ _ _ _ _ _
        rw [← part_set (nevers n) _ k (by omega), e]
        exact q
      clear hset hg
      go_wp2_with fail
      go_roundw
      case rel => exact ⟨k + 1, by omega, by go_num, hbr.setCell (by simp) _, Hset.out⟩
      case measure => simp [intOf]; omega
    · obtain rfl : k = n := by omega
      go_wp2_with fail
      go_ret
      have q := hrow
      have e : part (nevers k) (.int .i64 0) k = nevers k := by have := part_all (nevers k) (.int .i64 0); rw [hnl] at this; exact this
      rw [e] at q
      exact ⟨_, _, rfl, q, hbr⟩
end Grc
end Go.Proofs.Ytjfbnobijlkicaa
