/- The walks of layer 16 (world): the document's look at outcomes. -/
import Derived.Test.YthccojfflmfggaaWorA
namespace Go.Proofs.Ythccojfflmfggaa
open Go.RowKit
namespace Wo
theorem ret_bool {a b : Bool} (h : a = b) : Ending.returned (.bool a) = .returned (.bool b) := by rw [h]
def Bl (w : World) (B : Nat) (A : Option Addr) (n : Nat) (bs : List Bool) : Prop := Mem.Sl w B 1 A n (bs.map Value.bool)
section
variable {w w' : World} {B n : Nat} {A : Option Addr} {bs : List Bool}
theorem Bl.len (h : Bl w B A n bs) : bs.length = n := by have := h.1; simpa using this
theorem Bl.at_ {k : Nat} (h : Bl w B A n bs) (hk : k < n) : ∃ (ad : Addr) (b : Bool) (hl : k < bs.length), A = some ad ∧ ad.block < B ∧ bs[k] = b ∧ w.cell? (ad.add k) = some (.bool b) := by
  obtain ⟨ad, hl, e, hb, hc⟩ := Mem.Sl.at_ h hk
  exact ⟨ad, _, by simpa using hl, e, hb, rfl, by simpa using hc⟩
theorem Bl.drewN (h : Bl w B A n bs) (k : Nat) : Bl (w.drewN k) B A n bs := Mem.Sl.drewN h k
end
set_option maxRecDepth 100000 in
set_option maxHeartbeats 1000000 in
theorem sameouts_c (A A2 : Option Addr) (n c m d B B2 : Nat) (xs bs : List Bool) (w : World) (h : Bl w B A n xs) (h2 : Bl w B2 A2 m bs) (hn : n ≤ 1000000) (hm : m ≤ 1000000) :
    Calls Try.prog 21 #[.slice A n c, .slice A2 m d] w fun e w' => e = .returned (.bool (decide (xs = bs))) ∧ Below w.heap.size w w' := by
  have hla := h.len
  have hlb := h2.len
  by_cases hnm : n = m
  · subst hnm
    have Hla := Lib.hid hla
    have Hlb := Lib.hid hlb
    clear hla hlb
    go_enter Try.func21, Try.ntmps21
    go_wp2_with fail
    go_loopw [5] (fun vi wr => ∃ k : Nat, k ≤ n ∧ vi = .int .i64 k ∧ Below w.heap.size w wr ∧ Bl wr B A n xs ∧ Bl wr B2 A2 n bs ∧ xs.take k = bs.take k) (fun i _ => n - (intOf i).toNat)
    case atStart => exact ⟨0, by omega, rfl, Below.refl _ _, h, h2, rfl⟩
    case round =>
      obtain ⟨k, hk, rfl, hb, h3, h4, heq⟩ := hrel
      have Heq := Lib.hid heq
      clear heq
      by_cases hlt : k < n
      · obtain ⟨ad, a, hal, rfl, _, hae, hac⟩ := h3.at_ hlt
        obtain ⟨ad2, b, hbl, rfl, _, hbe, hbc⟩ := h4.at_ hlt
        have Hae := Lib.hid hae
        have Hbe := Lib.hid hbe
        clear hae hbe
        by_cases hab : a = b
        · have hnext : Hid (xs.take (k + 1) = bs.take (k + 1)) := by
            show _ = _
            rw [Mem.take_snoc _ _ hal, Mem.take_snoc _ _ hbl, Heq.out, Hae.out, Hbe.out, hab]
          subst hab
          clear Hae Hbe
          cases a <;>
          · go_wp2_with fail
            go_quiet (fail)
            go_wp2_with fail
            go_roundw
            case rel => exact ⟨k + 1, by omega, by go_num, Mem.below_drewN hb _, h3.drewN _, h4.drewN _, hnext⟩
            case measure => simp [intOf]; omega
        · have hfin : Hid (decide (xs = bs) = false) := by
            show _ = _
            simp only [decide_eq_false_iff_not]
            intro e
            subst e
            have h1 := Hae.out
            rw [Hbe.out] at h1
            exact hab h1.symm
          clear Hae Hbe
          cases a <;> cases b
          · exact absurd rfl hab
          · clear hab
            go_wp2_with fail
            go_quiet (fail)
            go_wp2_with fail
            go_ret
            exact ⟨ret_bool hfin.out.symm, Mem.below_drewN hb _⟩
          · clear hab
            go_wp2_with fail
            go_quiet (fail)
            go_wp2_with fail
            go_ret
            exact ⟨ret_bool hfin.out.symm, Mem.below_drewN hb _⟩
          · exact absurd rfl hab
      · obtain rfl : k = n := by omega
        have hfin : Hid (decide (xs = bs) = true) := by
          show _ = _
          have := Heq.out
          rw [List.take_of_length_le (by have := Hla.out; omega), List.take_of_length_le (by have := Hlb.out; omega)] at this
          simp [this]
        go_wp2_with fail
        go_ret
        exact ⟨ret_bool hfin.out.symm, hb⟩
  · have hne : ((n : Int) != m) = true := by simp; omega
    have hfin : Hid (decide (xs = bs) = false) := by
      show _ = _
      simp only [decide_eq_false_iff_not]
      intro e
      subst e
      omega
    clear hla hlb
    go_enter Try.func21, Try.ntmps21
    go_wp2_with fail
    go_ret
    exact ⟨ret_bool hfin.out.symm, Below.refl _ _⟩
end Wo
end Go.Proofs.Ythccojfflmfggaa
