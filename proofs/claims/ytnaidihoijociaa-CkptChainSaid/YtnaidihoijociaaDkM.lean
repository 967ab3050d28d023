/- Layer 10 (disk): the walk of the law's awake. -/
import Derived.Test.YtnaidihoijociaaDkL
import Derived.Lib.SlBytesConst
namespace Go.Proofs.Ytnaidihoijociaa
open Go.RowKit Go.Maps
namespace Dk
open Bs
open Crc (Byte)
abbrev tA : ByteArray := ⟨#[97]⟩
abbrev tB : ByteArray := ⟨#[98]⟩
abbrev t0 : ByteArray := ⟨#[]⟩
theorem upd_upd (D : Dks) (i : Nat) (x y : Nat × Ds) : upd (upd D i x) i y = upd D i y := by
  funext k
  unfold upd
  split <;> rfl
theorem hold_lit {w : World} {C : Array Value} {bs : List Byte} {fz : Nat × Nat} {n : Nat} (hC : C.toList = bs.map bv) (hn : bs.length = n) (hm : n ≤ maxLen) : Hold (w.alloc (.cells C 5 fz)) (fun _ => True) (some ⟨w.heap.size, 0, none⟩) n n bs :=
  ⟨Mem.Sl.more (Mem.new_sl rfl (by have := congrArg List.length hC; simp at this; omega) hC) (by simp), ⟨Nat.le_refl _, hm⟩, fun e => (by cases e), fun _ _ _ => trivial⟩
def xyz : List Byte := [120, 121, 122]
theorem ok_a (kind : Int) {bs : List Byte} (h : bs.length ≤ 100000) : OkOp ⟨kind, tA, t0, bs⟩ := ⟨show (1 : Nat) ≤ maxLen by decide, show (0 : Nat) ≤ maxLen by decide, h⟩
def sa1 : Ds := ⟨[], [⟨1, tA, t0, xyz⟩]⟩
def sa2 : Ds := ⟨[([97], [120])], []⟩
theorem ea1 : doS ⟨[], []⟩ ⟨1, tA, t0, xyz⟩ = sa1 ∧ doE ⟨1, tA, t0, xyz⟩ = 0 := ⟨by kernel_rfl, by kernel_rfl⟩
theorem ea2 : doS sa1 ⟨9, tA, t0, []⟩ = sa1 ∧ doE ⟨9, tA, t0, []⟩ = 1 := ⟨by kernel_rfl, by kernel_rfl⟩
theorem ea3 : (⟨crashF sa1.fs sa1.op [2], []⟩ : Ds) = sa2 := by kernel_rfl
theorem ea4 : fget (look sa2) (key tA) = some [120] := by kernel_rfl
theorem ea5 : fget (look sa2) (key tB) = none := by kernel_rfl
theorem ea6 : Bs.strOf [120] = ⟨#[120]⟩ := by kernel_rfl
theorem ea7 : ((look sa2).map (·.1)).length = 1 := by kernel_rfl
theorem fits1 : Fits 1 sa1 := by
  rw [← ea1.1]
  exact Fits.nil.doS (ok_a 1 (by decide))
theorem fits2 : Fits 1 sa2 := by
  rw [← ea3]
  exact fits1.crash [2]
set_option maxRecDepth 100000 in
set_option maxHeartbeats 4000000 in
theorem awake_c (w : World) : Calls Try.prog 13 #[] w fun e w' => e = .returned (.bool true) ∧ Below w.heap.size w w' := by
  have kc := fun (w : World) (C : Array Value) (n c : Nat) => Lib.run_convert_bytes_const (P := Try.prog) w 27 5 C n c Try.underlying27 Try.underlying5
  go_enter Try.func13, Try.ntmps13
  go_wp2_with fail
  refine ((Fm.start (W := w) (Below.refl _ _)).news (j := 1) rfl (by decide)).mono ?_
  rintro e w1 ⟨g, col1, rfl, -, hF1, -⟩
  have F1 := Lib.hid (hF1.below ((Below.refl w1.heap.size w1).alloc (Nat.le_refl _) (.cells #[.int .u8 120, .int .u8 121, .int .u8 122] 5 (3, 4))) (fun _ => 0))
  have D1 := Lib.hid (F1.out.does (kind := 1) (name := tA) (nto := t0) (n := 3) (c := 3) (upd_same _ _ _) Fits.nil (by omega) (hold_lit (w := w1) (fz := (3, 4)) (bs := xyz) rfl rfl (by decide)) (show (1 : Nat) ≤ maxLen by decide) (show (0 : Nat) ≤ maxLen by decide) (by omega))
  rw [ea1.1, ea1.2] at D1
  clear hF1
  go_wp2_with fail
  clear kc
  refine D1.out.mono ?_
  rintro e w2 ⟨rfl, col2, -, hF2, -⟩
  rw [upd_upd] at hF2
  have D2 := Lib.hid (hF2.does (kind := 9) (name := tA) (nto := t0) (upd_same _ _ _) fits1 (by omega) (Hold.none w2 (fun _ => True)) (show (1 : Nat) ≤ maxLen by decide) (show (0 : Nat) ≤ maxLen by decide) (by omega))
  rw [ea2.1, ea2.2] at D2
  clear F1 D1 hF2
  go_wp2_with fail
  refine D2.out.mono ?_
  rintro e w3 ⟨rfl, col3, -, hF3, -⟩
  rw [upd_upd] at hF3
  have F3 := Lib.hid hF3
  clear D2 hF3
  go_wp2_with fail
  refine (F3.out.opens (upd_same _ _ _)).mono ?_
  rintro e wz ⟨rfl, hwz⟩
  subst hwz
  rw [show ((sa1.op.length : Nat) : Int) = 1 from rfl]
  have F4 := Lib.hid (F3.out.below ((Below.refl wz.heap.size wz).alloc (Nat.le_refl _) (.cells #[.int .i64 2] 3)) (fun _ => 0))
  have D4 := Lib.hid (F4.out.crash (keep := [2]) (kn := 1) (kc := 1) (upd_same _ _ _) fits1 (by omega) (Mem.Sl.more (Mem.new_sl (w := wz) rfl rfl rfl) (by simp)) (fun ad e _ c => by
    cases e
    have c' : (if wz.heap.size < wz.heap.size then _ else 0) = 1 := c
    rw [if_neg (by omega)] at c'
    cases c') (fun z hz => by rw [List.mem_singleton] at hz; omega) (by omega))
  rw [ea3] at D4
  clear F3 F4
  go_wp2_with fail
  refine D4.out.mono ?_
  rintro e w5 ⟨rfl, col5, -, hF5, -⟩
  rw [upd_upd] at hF5
  have F5 := Lib.hid hF5
  clear D4 hF5
  have D5 := Lib.hid (F5.out.read (name := tA) (upd_same _ _ _) fits2 (by omega) (show (1 : Nat) ≤ maxLen by decide))
  rw [ea4] at D5
  go_wp2_with fail
  refine D5.out.mono ?_
  rintro e w6 ⟨hb6, A6, c6, rfl, hR6, -⟩
  have hR6 : BRow w6 A6 1 c6 [120] := hR6
  rw [show ([120] : List Byte).length = 1 from rfl]
  have F6 := Lib.hid (F5.out.below hb6 (fun _ => 0))
  have R6 := Lib.hid hR6
  clear D5 F5 hb6 hR6
  have D6 := Lib.hid (F6.out.read (name := tB) (upd_same _ _ _) fits2 (by omega) (show (1 : Nat) ≤ maxLen by decide))
  rw [ea5] at D6
  go_wp2_with fail
  refine D6.out.mono ?_
  rintro e w7 ⟨hb7, rfl⟩
  have F7 := Lib.hid (F6.out.below hb7 (fun _ => 0))
  have R7 := Lib.hid (R6.out.keep fun k hk => hb7.block k (R6.out.lt hk))
  clear D6 F6 R6 hb7
  have v1 : (convert 27 9 (.slice A6 1 c6)).run Try.prog w7 = .ok (.string ⟨#[120]⟩) w7 := by rw [← ea6]; exact conv_row R7.out (Below.refl _ _)
  have D7 := Lib.hid (F7.out.names (upd_same _ _ _) fits2 (by omega))
  go_wp2_with fail
  refine D7.out.mono ?_
  rintro e w8 ⟨A8, c8, rfl, -, hb8, -⟩
  rw [ea7]
  have F8 := Lib.hid (F7.out.below hb8 (fun _ => 0))
  clear D7 F7 R7 hb8 v1
  go_wp2_with fail
  refine (F8.out.opens (upd_same _ _ _)).mono ?_
  rintro e wy ⟨rfl, hwy⟩
  subst hwy
  rw [show ((sa2.op.length : Nat) : Int) = 0 from rfl]
  have HB := Lib.hid F8.out.base
  clear F8
  go_wp2_with fail
  go_ret
  exact ⟨rfl, HB.out⟩
end Dk
end Go.Proofs.Ytnaidihoijociaa
