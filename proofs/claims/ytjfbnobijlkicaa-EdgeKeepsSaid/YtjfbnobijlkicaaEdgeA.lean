/- The walks of layer 3 (edge): lists: what is read of each; the least one. -/
import Derived.Test.YtjfbnobijlkicaaRows
import Derived.WalkKit
import Derived.BigQuiet
import Derived.Deep.QuietTactic
import Derived.WalkLawsBesides
import Derived.WalkSpells
import Derived.OwnWalk
import Derived.Lib.Hide
import Derived.Test.YtjfbnobijlkicaaEdgeV
namespace Go.Proofs.Ytjfbnobijlkicaa
open Go.RowKit
namespace Fl
theorem eli : Mem.El Try.prog 36 3 (.int .i64 0) 1 8 := ⟨Try.underlying36, by kernel_rfl, rfl, by decide⟩
theorem elf : Mem.El Try.prog 33 24 (.float .f64 0) 1 8 := ⟨Try.underlying33, by kernel_rfl, rfl, by decide⟩
theorem run_store_float (P : Program) (w : World) (a : Addr) (m : Mode) (k : FloatKind) (b : Nat) : (store a (.float k b) m).run P w = stored P w a (.float k b) m := run_store P w a _ m rfl
/-- numbers that lie in a slice -/
def fv (b : Nat) : Value := .float .f64 b
def Fls (w : World) (B : Nat) (A : Option Addr) (n : Nat) (bs : List Nat) : Prop := Mem.Sl w B 1 A n (bs.map fv)
abbrev IRow (w : World) (base : Nat) (A : Option Addr) (n c : Nat) (xs : List Value) : Prop := w.ownsRow base 3 1 (.slice A n c) n xs
abbrev FRow (w : World) (base : Nat) (A : Option Addr) (n c : Nat) (bs : List Nat) : Prop := w.ownsRow base 24 1 (.slice A n c) n (bs.map fv)
section
variable {w w' : World} {B B' n : Nat} {A : Option Addr} {bs : List Nat}
theorem Fls.len (h : Fls w B A n bs) : bs.length = n := by have := h.1; simpa using this
theorem Fls.at_ {k : Nat} (h : Fls w B A n bs) (hk : k < n) : ∃ (ad : Addr) (b : Nat) (hl : k < bs.length), A = some ad ∧ ad.block < B ∧ bs[k] = b ∧ w.cell? (ad.add k) = some (.float .f64 b) := by
  obtain ⟨ad, hl, e, hb, hc⟩ := Mem.Sl.at_ h hk
  exact ⟨ad, _, by simpa using hl, e, hb, rfl, by simpa [fv] using hc⟩
theorem Fls.below (h : Fls w B A n bs) (hb : Below B w w') : Fls w' B A n bs := Mem.Sl.below h hb
theorem Fls.more (h : Fls w B A n bs) (hB : B ≤ B') : Fls w B' A n bs := Mem.Sl.more h hB
end
/-- all are numbers -/
def oks (bs : List Nat) : Bool := bs.all fun b => decide (kd b ≠ 1)
def rds (bs : List Nat) : List Value := bs.map fun b => .int .i64 (rdv b)
def AllYes (n : Nat) (bs : List Nat) (w : World) (e : Ending) (w' : World) : Prop := ∃ A' c', e = .returned (.tuple #[.slice A' n c', .bool true]) ∧ IRow w' w.heap.size A' n c' (rds bs) ∧ Below w.heap.size w w'
def AllNo (w : World) (e : Ending) (w' : World) : Prop := e = .returned (.tuple #[.slice none 0 0, .bool false]) ∧ Below w.heap.size w w'
set_option maxRecDepth 100000 in
set_option maxHeartbeats 2000000 in
theorem all_c (A : Option Addr) (n c : Nat) (bs : List Nat) (w : World) (h : Fls w w.heap.size A n bs) (hb : ∀ b ∈ bs, b < 18446744073709551616) (hn : n ≤ 300) :
    Calls Try.prog 25 #[.slice A n c] w fun e w' => (oks bs = true → AllYes n bs w e w') ∧ (oks bs = false → AllNo w e w') := by
  have hlen := h.len
  obtain ⟨L, hL⟩ : ∃ L, L = rds bs := ⟨_, rfl⟩
  have hll : L.length = n := by rw [hL]; simp [rds, hlen]
  have HL := Lib.hid hL
  clear hL
  go_enter Try.func25, Try.ntmps25
  go_wp2_with fail
  go_loopw [4, 11] (fun vo vi wr => ∃ k : Nat, k ≤ n ∧ vi = .int .i64 k ∧ Below w.heap.size w wr ∧ Hid (oks bs = oks (bs.drop k)) ∧ ∃ A' c', vo = .slice A' k c' ∧ IRow wr w.heap.size A' k c' (L.take k)) (fun _ i _ => n - (intOf i).toNat)
  case atStart => exact ⟨0, by omega, rfl, Below.refl _ _, Lib.hid (by rw [List.drop_zero]), none, 0, rfl, Mem.own_nil⟩
  case round =>
    obtain ⟨k, hk, rfl, hbr, Hok, A', c', rfl, hrow⟩ := hrel
    have zr := hbr.size
    by_cases hlt : k < n
    · obtain ⟨ad, b, hl, rfl, _, hbe, hcell⟩ := (h.below hbr).at_ hlt
      have hb64 : b < 18446744073709551616 := by rw [← hbe]; exact hb _ (List.getElem_mem hl)
      have hd : bs.drop k = b :: bs.drop (k + 1) := by rw [← hbe]; exact List.drop_eq_getElem_cons hl
      have hLk : Hid (L.take k ++ [Value.int .i64 (rdv b)] = L.take (k + 1)) := Lib.hid (by
        have := HL.out
        subst this
        rw [Mem.take_snoc _ _ (by omega)]
        simp [rds, hbe])
      have hread := Lib.hid (fun w => read_c b w hb64)
      have Hd := Lib.hid hd
      clear hd hbe hb64
      by_cases h1 : kd b = 1
      · have hF : Hid (oks bs = false) := Lib.hid (by rw [Hok.out, Hd.out]; simp [oks, h1])
        have hne : decide (kd b ≠ 1) = false := by simp [h1]
        rw [hne] at hread
        clear h1 hne hLk Hok
        generalize rdv b = r at *
        go_wp2_with fail
        refine (hread.out _).mono ?_
        rintro e w1 ⟨rfl, rfl⟩
        clear hread
        go_wp2_with fail
        go_ret2
        refine ⟨fun hc => absurd (hF.out.symm.trans hc) (by decide), fun _ => ⟨rfl, hbr⟩⟩
      · have hF : Hid (oks bs = oks (bs.drop (k + 1))) := Lib.hid (by rw [Hok.out, Hd.out]; simp [oks, h1])
        have hne : decide (kd b ≠ 1) = true := by simp [h1]
        rw [hne] at hread
        clear h1 hne Hok
        generalize rdv b = r at *
        go_wp2_with fail
        refine (hread.out _).mono ?_
        rintro e w1 ⟨rfl, rfl⟩
        clear hread
        go_wp2_with (at_builtin; refine Mem.wpList_app rfl rfl eli (base := w.heap.size) (World.ownsRow.alloc hrow _) rfl rfl (Mem.new_sl (n := 1) (xs := [.int .i64 r]) rfl rfl rfl) (by simp [Value.oneCell']) (N := k + 1) (ys := L.take (k + 1)) rfl hLk.out (by unfold maxLen; omega) (by omega) (by simp; omega) ?_; intro A3 c3 w3 hown3 hg3 hat3)
        have lt1 : ∀ g, (Value.slice A' k c').ownBlock = some g → w.heap.size ≤ g := fun g hg => (World.ownsRow.lt hrow g hg).1
        go_roundw
        case rel => exact ⟨k + 1, by omega, by go_num, (hbr.alloc zr _).grown hg3 (by simp; omega) lt1, hF, A3, c3, rfl, hown3⟩
        case measure => simp [intOf]; omega
    · obtain rfl : k = n := by omega
      have hF : Hid (oks bs = true) := Lib.hid (by rw [Hok.out, List.drop_of_length_le (by omega)]; rfl)
      clear Hok
      go_wp2_with fail
      go_ret2
      rw [List.take_of_length_le (by omega), HL.out] at hrow
      exact ⟨fun _ => ⟨_, _, rfl, hrow, hbr⟩, fun hc => absurd (hF.out.symm.trans hc) (by decide)⟩
/-- the least one -/
def lst (m : Nat) : List Nat → Nat
  | [] => m
  | x :: l => lst (if cmpv x m < 0 then x else m) l
def leastF : List Nat → Nat
  | [] => 9218868437227405312
  | x :: l => lst x l
set_option maxRecDepth 100000 in
set_option maxHeartbeats 2000000 in
theorem minf_c (A : Option Addr) (n c : Nat) (bs : List Nat) (w : World) (h : Fls w w.heap.size A n bs) (hb : ∀ b ∈ bs, b < 18446744073709551616) (hn : n ≤ 300) (h0 : 0 < n) :
    Calls Try.prog 56 #[.slice A n c, .func (.func 21) #[] #[]] w fun e w' => e = .returned (.float .f64 (leastF bs)) ∧ w = w' := by
  have hlen := h.len
  obtain ⟨ad, b0, hl0, rfl, _, hbe0, hcell0⟩ := h.at_ h0
  have hc0 : w.cell? ad = some (.float .f64 b0) := by simpa [Addr.add] using hcell0
  have hb0 : b0 < 18446744073709551616 := by rw [← hbe0]; exact hb _ (List.getElem_mem hl0)
  have HF : Hid (leastF bs = lst b0 (bs.drop 1)) := by
    show _ = _
    rw [← hbe0]
    cases bs with
    | nil => simp at hl0
    | cons x l => rfl
  clear hbe0 hcell0
  generalize leastF bs = F at *
  go_enter Try.func56, Try.ntmps56
  go_wp2_with fail
  go_loop [5, 6] (fun vm vi => ∃ (k m : Nat), 1 ≤ k ∧ k ≤ n ∧ vi = .int .i64 k ∧ vm = .float .f64 m ∧ m < 18446744073709551616 ∧ Hid (F = lst m (bs.drop k))) (fun _ i => n - (intOf i).toNat)
  case atStart => exact ⟨1, b0, by omega, by omega, rfl, rfl, hb0, HF⟩
  case round =>
    clear HF hb0 hc0
    obtain ⟨k, m, hk1, hk, rfl, rfl, hm, HF⟩ := hrel
    by_cases hlt : k < n
    · obtain ⟨ad', b, hl, hA, _, hbe, hcell⟩ := h.at_ hlt
      obtain rfl : ad = ad' := by simpa using hA
      have hb64 : b < 18446744073709551616 := by rw [← hbe]; exact hb _ (List.getElem_mem hl)
      have hd : bs.drop k = b :: bs.drop (k + 1) := by rw [← hbe]; exact List.drop_eq_getElem_cons hl
      have hcm := Lib.hid (fun w => compare_c b m w hb64 hm)
      have HF2 : Hid (F = lst (if cmpv b m < 0 then b else m) (bs.drop (k + 1))) := Lib.hid (by rw [HF.out, hd]; rfl)
      clear HF hd hbe hA
      by_cases hc : cmpv b m < 0
      · rw [if_pos hc] at HF2
        have d : decide (cmpv b m < 0) = true := decide_eq_true hc
        clear hc
        generalize cmpv b m = x at *
        go_wp2_with fail
        refine (hcm.out _).mono ?_
        rintro e w1 ⟨rfl, rfl⟩
        go_wp2_with fail
        go_round
        case rel => exact ⟨k + 1, b, by omega, by omega, by go_num, rfl, hb64, HF2⟩
        case measure => simp [intOf]; omega
      · rw [if_neg hc] at HF2
        have d : decide (cmpv b m < 0) = false := decide_eq_false hc
        clear hc
        generalize cmpv b m = x at *
        go_wp2_with fail
        refine (hcm.out _).mono ?_
        rintro e w1 ⟨rfl, rfl⟩
        go_wp2_with fail
        go_round
        case rel => exact ⟨k + 1, m, by omega, by omega, by go_num, rfl, hm, HF2⟩
        case measure => simp [intOf]; omega
    · obtain rfl : k = n := by omega
      go_wp2_with fail
      go_ret
      refine ⟨?_, rfl⟩
      rw [HF.out, List.drop_of_length_le (by omega)]
      rfl
set_option maxRecDepth 100000 in
set_option maxHeartbeats 2000000 in
theorem least_c (A : Option Addr) (n c : Nat) (bs : List Nat) (w : World) (h : Fls w w.heap.size A n bs) (hb : ∀ b ∈ bs, b < 18446744073709551616) (hn : n ≤ 300) :
    Calls Try.prog 23 #[.slice A n c] w fun e w' => e = .returned (.float .f64 (leastF bs)) ∧ w = w' := by
  have hlen := h.len
  by_cases h0 : 0 < n
  · have hm := Lib.hid (minf_c A n c bs w h hb hn h0)
    have d : ((n : Int) == 0) = false := beq_eq_false_iff_ne.2 (by omega)
    generalize leastF bs = F at *
    go_enter Try.func23, Try.ntmps23
    go_wp2_with fail
    refine hm.out.mono ?_
    rintro e w1 ⟨rfl, rfl⟩
    go_wp2_with fail
    go_ret
    exact ⟨rfl, rfl⟩
  · obtain rfl : n = 0 := by omega
    have HF : Hid (leastF bs = 9218868437227405312) := by
      have : bs = [] := List.eq_nil_of_length_eq_zero hlen
      subst this
      rfl
    generalize leastF bs = F at *
    go_enter Try.func23, Try.ntmps23
    go_wp2_with fail
    refine (inf_c _).mono ?_
    rintro e w1 ⟨rfl, rfl⟩
    go_wp2_with fail
    go_ret
    exact ⟨by rw [HF.out]; rfl, rfl⟩
end Fl
end Go.Proofs.Ytjfbnobijlkicaa
