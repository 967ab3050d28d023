/- The rounds of samples, one behind the other; the plain law of layer 18 (grace): timers anew. -/
import Derived.Test.YtjfbnobijlkicaaGraceB
import Derived.Test.YtjfbnobijlkicaaRowV
namespace Go.Proofs.Ytjfbnobijlkicaa
open Go.RowKit
namespace Grc
/-- the rounds, one behind the other -/
def ats : Int → List RowV → List Int
  | _, [] => []
  | a, r :: rs => (a + 1 + r.gap) :: ats (a + 1 + r.gap) rs
theorem ats_len (a : Int) (rs : List RowV) : (ats a rs).length = rs.length := by
  induction rs generalizing a with
  | nil => rfl
  | cons r rs ih => simp [ats, ih]
/-- the last of the first k -/
def atTo (a : Int) : List RowV → Nat → Int
  | _, 0 => a
  | [], _ + 1 => a
  | r :: rs, k + 1 => atTo (a + 1 + r.gap) rs k
theorem atTo_step (a : Int) (rs : List RowV) (k : Nat) (h : k < rs.length) : atTo a rs (k + 1) = atTo a rs k + 1 + rs[k].gap := by
  induction rs generalizing a k with
  | nil => simp at h
  | cons r rs ih =>
    cases k with
    | zero => cases rs <;> rfl
    | succ k =>
      have := ih (a + 1 + r.gap) k (by simpa using h)
      simpa [atTo] using this
theorem ats_get (a : Int) (rs : List RowV) (k : Nat) (h : k < rs.length) : (ats a rs)[k]'(by rw [ats_len]; exact h) = atTo a rs (k + 1) := by
  induction rs generalizing a k with
  | nil => simp at h
  | cons r rs ih =>
    cases k with
    | zero => cases rs <;> rfl
    | succ k => simpa [ats, atTo] using ih (a + 1 + r.gap) k (by simpa using h)
theorem atTo_bd (a : Int) (rs : List RowV) (hr : ∀ r ∈ rs, 0 ≤ r.gap ∧ r.gap ≤ 255) (k : Nat) (h : k ≤ rs.length) : a + k ≤ atTo a rs k ∧ atTo a rs k ≤ a + 256 * k := by
  induction k with
  | zero => cases rs <;> simp [atTo]
  | succ k ih =>
    have h1 := ih (by omega)
    have h2 := hr rs[k] (List.getElem_mem (by omega))
    rw [atTo_step a rs k (by omega)]
    omega
theorem atTo_mono (a : Int) (rs : List RowV) (hr : ∀ r ∈ rs, 0 ≤ r.gap ∧ r.gap ≤ 255) (j k : Nat) (hjk : j ≤ k) (h : k ≤ rs.length) : atTo a rs j ≤ atTo a rs k := by
  induction k with
  | zero => obtain rfl : j = 0 := by omega
            exact Int.le_refl _
  | succ k ih =>
    rcases Nat.eq_or_lt_of_le hjk with e | e
    · rw [e]; exact Int.le_refl _
    · have h1 := ih (by omega) (by omega)
      have h2 := hr rs[k] (List.getElem_mem (by omega))
      rw [atTo_step a rs k (by omega)]
      omega
set_option maxRecDepth 100000 in
set_option maxHeartbeats 2000000 in
theorem rounds_c (A : Option Addr) (n c : Nat) (rs : List RowV) (w : World) (h : Mem.Sl w w.heap.size 4 A n (RowV.flat rs)) (hok : ∀ r ∈ rs, r.ok) (hn : n ≤ 60) :
    Calls Try.prog 44 #[.slice A n c] w (NewI n ((ats 0 rs).map (.int .i64)) w) := by
  have hlen : rs.length = n := by have := h.1; rw [RowV.flat_len] at this; omega
  have hg : ∀ r ∈ rs, 0 ≤ r.gap ∧ r.gap ≤ 255 := fun r hr => (hok r hr).gap
  obtain ⟨L, hL⟩ : ∃ L, L = (ats 0 rs).map (Value.int .i64) := ⟨_, rfl⟩
  have hll : L.length = n := by rw [hL]; simp [ats_len, hlen]
  rw [← hL]
  have HL := Lib.hid hL
  have Hg := Lib.hid hg
  clear hL hok hg
  go_enter Try.func44, Try.ntmps44
  go_wp2_with fail
  go_loopw [3, 4, 5] (fun vo va vi wr => ∃ k : Nat, k ≤ n ∧ vi = .int .i64 k ∧ va = .int .i64 (atTo 0 rs k) ∧ Below w.heap.size w wr ∧ ∃ A' c', vo = .slice A' k c' ∧ IRow wr w.heap.size A' k c' (L.take k)) (fun _ _ i _ => n - (intOf i).toNat)
  case atStart => exact ⟨0, by omega, rfl, (by cases rs <;> rfl), Below.refl _ _, none, 0, rfl, Mem.own_nil⟩
  case round =>
    obtain ⟨k, hk, rfl, rfl, hbr, A', c', rfl, hrow⟩ := hrel
    have zr := hbr.size
    by_cases hlt : k < n
    · obtain ⟨ad, hl, rfl, _, hbk, hat⟩ := RowV.at_ (h.below hbr) hlt
      have hst := atTo_step 0 rs k hl
      have hbd := atTo_bd 0 rs Hg.out k (by omega)
      have hgk := Hg.out rs[k] (List.getElem_mem hl)
      have hLk : L[k]'(by omega) = .int .i64 (atTo 0 rs (k + 1)) := by
        have := HL.out
        subst this
        simp [ats_get 0 rs k hl]
      have hput : Hid (∀ y, y = atTo 0 rs (k + 1) → L.take k ++ [Value.int .i64 y] = L.take (k + 1)) := fun y hy => by rw [Mem.take_snoc _ _ (by omega), hLk, hy]
      have Hst := Lib.hid hst
      have Ha1 : Hid (atTo 0 rs (k + 1) = atTo 0 rs k + 1 + rs[k].gap) := hst
      clear hst hLk
      generalize rs[k] = r at *
      generalize atTo 0 rs k = a at *
      obtain ⟨gap, av0, av1, av2⟩ := r
      obtain ⟨c0, c1, c2, c3⟩ := hat
      dsimp only at c0 c1 c2 c3 Hst Ha1 hgk
      obtain ⟨g0, g1⟩ := hgk
      obtain ⟨b0, b1⟩ := hbd
      have hP := Lib.hid (hput.out (a + 1 + gap) Hst.out.symm)
      clear hput
      go_wp2_with (at_builtin; refine Mem.wpList_app rfl rfl eli (base := w.heap.size) (World.ownsRow.alloc hrow _) rfl rfl (Mem.new_sl (n := 1) (xs := [.int .i64 (a + 1 + gap)]) rfl rfl rfl) (by simp [Value.oneCell']) (N := k + 1) (ys := L.take (k + 1)) rfl hP.out (by unfold maxLen; omega) (by omega) (by simp; omega) ?_; intro A3 c3 w3 hown3 hg3 hat3)
      have lt1 : ∀ g, (Value.slice A' k c').ownBlock = some g → w.heap.size ≤ g := fun g hg => (World.ownsRow.lt hrow g hg).1
      go_roundw
      case rel => exact ⟨k + 1, by omega, by go_num, by rw [Ha1.out], (hbr.alloc zr _).grown hg3 (by simp; omega) lt1, A3, c3, rfl, hown3⟩
      case measure => simp [intOf]; omega
    · obtain rfl : k = n := by omega
      go_wp2_with fail
      go_ret
      rw [List.take_of_length_le (by omega)] at hrow
      exact ⟨_, _, rfl, hrow, hbr⟩
/-! ### timers anew -/
theorem plenty_none {t : ThrV} {cap : Int} (ht : RightT t) (ho : t.ok) (hc : ThrV.I64 cap) : metT t cap 9223372036854775807 = false := by
  unfold metT
  split
  · rw [Wide.below_iff]
    simp only [decide_eq_false_iff_not]
    have h1 : Sat.num cap ≤ 9223372036854775807 := by unfold Sat.num; split; omega; exact hc.2
    have h2 : Sat.num t.pct ≤ 100 := by unfold Sat.num; split; omega; exact ht.p1
    have h3 : 0 ≤ Sat.num t.pct := by unfold Sat.num; split <;> omega
    have h4 : Sat.num cap * Sat.num t.pct ≤ 9223372036854775807 * 100 := by
      have a1 : Sat.num cap * Sat.num t.pct ≤ 9223372036854775807 * Sat.num t.pct := Int.mul_le_mul_of_nonneg_right h1 h3
      have a2 : 9223372036854775807 * Sat.num t.pct ≤ 9223372036854775807 * 100 := Int.mul_le_mul_of_nonneg_left h2 (by decide)
      omega
    have h5 : Sat.num 9223372036854775807 = 9223372036854775807 := rfl
    rw [h5]
    omega
  · have := ho.amt.2
    simp only [decide_eq_false_iff_not]
    omega
/-- a timer is none, or lies between base and now -/
def InvZ (base now : Int) (Z : List Int) : Prop := ∀ z ∈ Z, z = -1 ∨ (base ≤ z ∧ z ≤ now)
theorem inv_start {ths : List ThrV} {p : CfgV} {zs : List Int} {round : Int} (ht : ∀ t ∈ ths, RightT t) (ho : ∀ t ∈ ths, t.ok) (h0 : ThrV.I64 p.c0) (h1 : ThrV.I64 p.c1) (h2 : ThrV.I64 p.c2) (base now : Int) :
    InvZ base now (stepL (metL p 9223372036854775807 9223372036854775807 9223372036854775807 ths) zs round) := by
  intro z hz
  left
  unfold stepL at hz
  obtain ⟨i, hi, rfl⟩ := List.mem_iff_getElem.1 hz
  have hi2 : i < ths.length := by simp [metL] at hi; omega
  simp only [List.getElem_zipWith]
  have hm : (metL p 9223372036854775807 9223372036854775807 9223372036854775807 ths)[i]'(by simp [metL]; exact hi2) = false := by
    simp only [metL, List.getElem_map, metC]
    have hp : pick3 9223372036854775807 9223372036854775807 9223372036854775807 ths[i].sig = 9223372036854775807 := by unfold pick3; (repeat' split) <;> rfl
    rw [hp]
    have hmem : ths[i] ∈ ths := List.getElem_mem hi2
    refine plenty_none (ht _ hmem) (ho _ hmem) ?_
    unfold pick3
    split
    · exact h0
    · split
      · exact h1
      · exact h2
  rw [hm]
  rfl
theorem inv_step {ms : List Bool} {Z : List Int} {base now now' : Int} (h : InvZ base now Z) (h1 : now ≤ now') (h2 : base ≤ now') : InvZ base now' (stepL ms Z now') := by
  intro z hz
  unfold stepL at hz
  obtain ⟨i, hi, rfl⟩ := List.mem_iff_getElem.1 hz
  simp only [List.getElem_zipWith]
  have := h _ (List.getElem_mem (l := Z) (n := i) (by simp at hi; omega))
  unfold stepZ
  split
  · split
    · exact .inr ⟨h2, Int.le_refl _⟩
    · rcases this with e | e
      · contradiction
      · exact .inr ⟨e.1, by omega⟩
  · exact .inl rfl
theorem inv_fit {Z : List Int} {base now : Int} (h : InvZ base now Z) (hb : 0 ≤ base) (hn : 0 ≤ now) : FitZ Z now := by
  intro z hz
  rcases h z hz with e | e <;> omega
theorem inv_hold {ths : List ThrV} {Z : List Int} {base now : Int} (h : InvZ base now Z) (k : Nat) (hk : k < ths.length) (hz : k < Z.length) (hh : (holdL ths Z now).getD k false = true) (hs : ths[k].soft = true) : ths[k].grace ≤ now - base := by
  have hk2 : k < (holdL ths Z now).length := by simp [holdL]; omega
  rw [List.getD_eq_getElem?_getD, List.getElem?_eq_getElem hk2] at hh
  simp only [holdL, List.getElem_zipWith, Option.getD_some, holdZ, hs, Bool.not_true, Bool.false_or, Bool.and_eq_true, decide_eq_true_eq] at hh
  have := h Z[k] (List.getElem_mem hz)
  omega
end Grc
end Go.Proofs.Ytjfbnobijlkicaa
