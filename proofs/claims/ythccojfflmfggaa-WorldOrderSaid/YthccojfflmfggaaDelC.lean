/- The walks of layer 16 (world): slices.Delete, slices.Clone at containers. -/
import Derived.Test.YthccojfflmfggaaRows
import Derived.WalkKit
import Derived.BigQuiet
import Derived.Deep.QuietTactic
import Derived.WalkLawsBesides
import Derived.WalkSpells
import Derived.OwnWalk
import Derived.Lib.Hide
import Derived.Laws.Externs
import Derived.Test.YthccojfflmfggaaInsC
namespace Go.Proofs.Ythccojfflmfggaa
open Go.RowKit
namespace Wo
theorem zero_c : ∀ v ∈ zC.cells.toList, v.oneCell' = true := by
  intro v hv
  simp [zC, Value.cells] at hv
  rcases hv with rfl | rfl <;> rfl
/-- what a deletion answers -/
def DelSaid (A : Option Addr) (n c : Nat) (bx : List ConV) (w : World) (e : Ending) (w' : World) : Prop := e = .returned (.slice A n c) ∧ CRow w' A n c bx ∧ Ro.Only (fun b => Ro.blk A = some b) w w'
set_option maxRecDepth 100000 in
set_option maxHeartbeats 4000000 in
theorem delete_c (A : Option Addr) (n c i : Nat) (bx : List ConV) (w : World) (h : CRow w A n c bx) (hi : i < n) (hn : n ≤ 1000000) :
    Calls Try.prog 56 #[.slice A n c, .int .i64 i, .int .i64 ((i : Int) + 1)] w (DelSaid A (n - 1) c (bx.take i ++ bx.drop (i + 1)) w) := by
  have hlen : bx.length = n := by have := h.1; rw [ConV.flat_len] at this; omega
  have hle := h.le
  have hcm := hle.2
  unfold maxLen at hcm
  obtain ⟨g, off, rfl⟩ := h.some_of (by omega)
  have hcut : Ro.Row w.drew 48 4 (some ⟨g, off, none⟩) i c ((ConV.flat bx).take (i * 4)) := h.cut i (by omega)
  have hfrom := h.from_ (i + 1) (by omega)
  obtain ⟨w1, hr1, hR1, hO1⟩ := Ro.app_room0 (P := Try.prog) (t := 30) (ty := 30) (c2 := c - (i + 1)) elc hcut (show Mem.Sl w.drew _ 4 _ _ _ from hfrom.sl) (fun u hu => ConV.flat_one bx u (List.mem_of_mem_drop hu)) (by omega)
  rw [show i + (n - (i + 1)) = n - 1 by omega] at hr1 hR1
  obtain ⟨w2, hr2, hR2, hO2⟩ := Ro.clear_row (P := Try.prog) (t := 30) (ty := 0) (m := 1) (cc := c - (n - 1)) elc zero_c hR1 (by omega) (by omega)
  have hfin : Hid (DelSaid (some ⟨g, off, none⟩) (n - 1) c (bx.take i ++ bx.drop (i + 1)) w (.returned (.slice (some ⟨g, off, none⟩) (n - 1) c)) w2) := by
    refine ⟨rfl, ?_, (hO1.undrew.trans hO2 (fun b _ e => by rw [e]; rfl))⟩
    unfold CRow
    rw [ConV.flat_app, ← ConV.flat_take, ← ConV.flat_drop]
    exact hR2
  have hci : ¬ (c = n - 1) := by omega
  have hz2 : ¬ ((i : Int) = (i : Int) + 1) := by omega
  have htn : ((i : Int) + 1).toNat = i + 1 := by omega
  have hb3 : (i : Int) + 1 ≤ (n : Int) := by omega
  have hnn : (n : Int) - ((n - 1 : Nat) : Int) = 1 := by omega
  clear hR1 hO1 hR2 hO2 hfrom hcut h
  by_cases hc1 : c = i + 1
  · obtain rfl : n = i + 1 := by omega
    subst hc1
    simp only [if_true, Nat.sub_self, Nat.add_sub_cancel] at hr1 hr2 hfin hnn hci
    rw [show i + 1 - i = 1 by omega] at hr2
    clear hci
    have f1 : (i : Int) ≤ (i : Int) + 1 := by omega
    have f2 : i ≤ i + 1 := by omega
    have f5 : (0 : Int) ≤ (i : Int) + 1 := by omega
    go_enter Try.func56, Try.ntmps56
    go_wp2_with fail
    go_region_law (refine Ro.step_app rfl _ _ 30 30 rfl (.slice (some ⟨g, off, none⟩) i (i + 1)) (.slice (some ⟨g, off, none⟩) 0 0) (by simp [Act.eval, Act.put]) (by simp [Act.eval, Act.put]) hr1 ?_)
    go_wp2_with fail
    go_ret
    exact hfin.out
  · rw [if_neg hc1] at hr1
    have hr3 : (Builtin.clear_ #[30] 0 #[.slice (some ⟨g, off + (n - 1) * 4, none⟩) (n - (n - 1)) (c - (n - 1))]).run Try.prog w1 = .ok (.tuple #[]) w2 := by
      rw [show n - (n - 1) = 1 by omega]; exact hr2
    clear hr2
    have f1 : (i : Int) ≤ (c : Int) := by omega
    have f2 : i ≤ c := by omega
    have f5 : (0 : Int) ≤ (i : Int) + 1 := by omega
    have f3 : i ≤ n := by omega
    have f4 : i + 1 ≤ n := by omega
    go_enter Try.func56, Try.ntmps56
    go_wp2_with fail
    go_region_law (refine Ro.step_app rfl _ _ 30 30 rfl (.slice (some ⟨g, off, none⟩) i c) (.slice (some ⟨g, off + (i + 1) * 4, none⟩) (n - (i + 1)) (c - (i + 1))) (by simp [Act.eval, Act.put]) (by simp [Act.eval, Act.put]) hr1 ?_)
    go_wp2_with fail
    go_ret
    exact hfin.out
/-- what a clone is -/
def CloneSaid (n : Nat) (bx : List ConV) (w : World) (e : Ending) (w' : World) : Prop := ∃ A' c', e = .returned (.slice A' n c') ∧ CRow w' A' n c' bx ∧ Below w.heap.size w w' ∧ ∀ b, Ro.blk A' = some b → w.heap.size ≤ b
set_option maxRecDepth 100000 in
set_option maxHeartbeats 4000000 in
theorem clone_c (A : Option Addr) (n c : Nat) (bx : List ConV) (w : World) (h : Mem.Sl w w.heap.size 4 A n (ConV.flat bx)) (hn : n ≤ 1000000) (hA : A = none → n = 0 ∧ c = 0) :
    Calls Try.prog 36 #[.slice A n c] w (CloneSaid n bx w) := by
  cases A with
  | none =>
    obtain ⟨rfl, rfl⟩ := hA rfl
    have hb : bx = [] := by
      have := h.1
      rw [ConV.flat_len] at this
      exact List.eq_nil_of_length_eq_zero (by omega)
    subst hb
    have hnil : ∀ w, (binOp .eql 30 (.slice none 0 0) (.slice none 0 0)).run Try.prog w = .ok (.bool true) w := fun w => by kernel_rfl
    go_enter Try.func36, Try.ntmps36
    go_wp2_with fail
    go_ret
    exact ⟨_, _, rfl, Ro.Row.nil, Below.refl _ _, fun b hb => by cases hb⟩
  | some ad =>
    have hnew : Ro.Row (w.alloc (.cells #[] 48)) 48 4 (some ⟨w.heap.size, 0, none⟩) 0 0 [] := Ro.Row.new (cs := #[]) rfl (by decide)
    obtain ⟨A', c', w', hr, hR, hO, hb⟩ := Ro.app (P := Try.prog) (ty := 30) (c2 := c) elc hnew (h.alloc (Nat.le_refl _) _) (ConV.flat_one bx) (by unfold maxLen; omega) (by omega)
    simp only [Nat.zero_add, List.nil_append] at hr hR
    have hfin : Hid (CloneSaid n bx w (.returned (.slice A' n c')) w') := by
      refine ⟨A', c', rfl, hR, ((Ro.Only.refl (fun _ => False) w).alloc _ |>.trans hO (T := fun b => Ro.blk (some ⟨w.heap.size, 0, none⟩) = some b) (fun k hk e => ?_)).below (Nat.le_refl _) (fun _ _ c => c), fun b hb2 => ?_⟩
      · have : w.heap.size = k := by simpa [Ro.blk] using e
        omega
      · rcases hb with hb | hb
        · rw [hb] at hb2
          have : w.heap.size = b := by simpa [Ro.blk] using hb2
          omega
        · rw [hb] at hb2
          have : (w.alloc (.cells #[] 48)).heap.size = b := by simpa using hb2
          simp at this
          omega
    clear h hnew hR hO hb hA
    have hnil : ∀ w, (binOp .eql 30 (.slice (some ad) n c) (.slice none 0 0)).run Try.prog w = .ok (.bool false) w := fun w => by kernel_rfl
    go_enter Try.func36, Try.ntmps36
    go_wp2_with (at_builtin; refine Ro.wpList_app rfl _ _ _ _ rfl _ _ rfl rfl hr ?_)
    go_ret
    exact hfin.out
end Wo
end Go.Proofs.Ythccojfflmfggaa
