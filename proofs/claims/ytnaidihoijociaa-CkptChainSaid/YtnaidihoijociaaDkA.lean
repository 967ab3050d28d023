/- The walks of layer 10 (disk): a slice is cloned; something is done to files. -/
import Derived.Test.YtnaidihoijociaaDkW
import Derived.Test.YtnaidihoijociaaDkLay
namespace Go.Proofs.Ytnaidihoijociaa
open Go.RowKit Go.Maps
namespace Dk
open Bs
open Crc (Byte)
theorem one_bv (bs : List Byte) : ∀ u ∈ bs.map bv, u.oneCell' = true := by intro u hu; obtain ⟨b, _, rfl⟩ := List.mem_map.1 hu; rfl
set_option maxRecDepth 100000 in
set_option maxHeartbeats 4000000 in
theorem clone_c {w : World} {C : Nat → Prop} {A : Option Addr} {n c : Nat} {bs : List Byte} (h : Hold w C A n c bs) (hn : n ≤ 1000000) :
    Calls Try.prog 39 #[.slice A n c] w fun e w' => ∃ A' c', e = .returned (.slice A' n c') ∧ BRow w' A' n c' bs ∧ Below w.heap.size w w' ∧ ∀ b, Ro.blk A' = some b → w.heap.size ≤ b := by
  cases A with
  | none =>
    obtain ⟨rfl, rfl⟩ := h.nil rfl
    have hb : bs = [] := List.eq_nil_of_length_eq_zero h.len
    subst hb
    have hnil : ∀ w, (binOp .eql 27 (.slice none 0 0) (.slice none 0 0)).run Try.prog w = .ok (.bool true) w := fun w => by kernel_rfl
    go_enter Try.func39, Try.ntmps39
    go_wp2_with fail
    go_ret
    exact ⟨_, _, rfl, Ro.Row.nil, Below.refl _ _, fun b hb => by cases hb⟩
  | some ad =>
    have hnew : Ro.Row (w.alloc (.cells #[] 5)) 5 1 (some ⟨w.heap.size, 0, none⟩) 0 0 [] := Ro.Row.new (cs := #[]) rfl (by decide)
    obtain ⟨A', c', w', hr, hR, hO, hb⟩ := Ro.app (P := Try.prog) (ty := 27) (c2 := c) elb hnew (h.sl.alloc (Nat.le_refl _) _) (one_bv bs) (by unfold maxLen; omega) (by omega)
    simp only [Nat.zero_add, List.nil_append] at hr hR
    have hfin : Hid (BRow w' A' n c' bs ∧ Below w.heap.size w w' ∧ ∀ b, Ro.blk A' = some b → w.heap.size ≤ b) := by
      refine ⟨hR, ((Ro.Only.refl (fun _ => False) w).alloc _ |>.trans hO (T := fun b => Ro.blk (some ⟨w.heap.size, 0, none⟩) = some b) (fun k hk e => ?_)).below (Nat.le_refl _) (fun _ _ c => c), fun b hb2 => ?_⟩
      · have : w.heap.size = k := by simpa [Ro.blk] using e
        omega
      · rcases hb with hb | hb
        · rw [hb] at hb2
          have : w.heap.size = b := by simpa [Ro.blk] using hb2
          omega
        · rw [hb] at hb2
          have : (w.alloc (.cells #[] 5)).heap.size = b := by simpa using hb2
          simp at this
          omega
    clear h hnew hR hO hb
    have hnil : ∀ w, (binOp .eql 27 (.slice (some ad) n c) (.slice none 0 0)).run Try.prog w = .ok (.bool false) w := fun w => by kernel_rfl
    go_enter Try.func39, Try.ntmps39
    go_wp2_with (at_builtin; refine Ro.wpList_app rfl _ _ _ _ rfl _ _ rfl rfl hr ?_)
    go_ret
    exact ⟨_, _, rfl, hfin.out⟩
/-- what is done -/
structure OpA where
  kind : Int
  name : ByteArray
  nto : ByteArray
  bytes : List Byte
def key (s : ByteArray) : Key := s.data.toList
/-- files behind it -/
def app1 (l : Files) (o : OpA) : Files :=
  if o.kind = 1 then fput l (key o.name) o.bytes
  else if o.kind = 3 then fdel l (key o.name)
  else if o.kind = 2 then (match fget l (key o.name) with | some b => fput (fdel l (key o.name)) (key o.nto) b | none => l)
  else l
theorem len_ins {α : Type} (k : Key) (x : α) (l : List (Key × α)) : (ins k x l).length = l.length + 1 := by
  induction l with
  | nil => rfl
  | cons y r ih =>
    unfold ins
    split
    · rfl
    · simp [ih]
theorem len_del {α : Type} (l : List (Key × α)) (k : Key) : (fdel l k).length ≤ l.length := List.length_filter_le _ _
theorem len_put {α : Type} (l : List (Key × α)) (k : Key) (x : α) : (fput l k x).length ≤ l.length + 1 := by
  unfold fput
  rw [len_ins]
  have := len_del l k
  omega
theorem len_app1 (l : Files) (o : OpA) : (app1 l o).length ≤ l.length + 1 := by
  unfold app1
  split
  · exact len_put _ _ _
  split
  · have := len_del l (key o.name); omega
  split
  · split
    · rename_i b _
      have := len_put (fdel l (key o.name)) (key o.nto) b
      have h2 := len_del l (key o.name)
      by_cases c : (fdel l (key o.name)).length < l.length
      · omega
      · omega
    · omega
  · omega
def OpN (w : World) (C : Nat → Prop) (w' : World) : Nat → Prop := fun k => C k ∨ (w.heap.size ≤ k ∧ k < w'.heap.size)
end Dk
end Go.Proofs.Ytnaidihoijociaa
