/- DiskMoves: the walk. -/
import Derived.Test.YtnaidihoijociaaDkN
namespace Go.Proofs.Ytnaidihoijociaa.diskMoves
open Go.RowKit Go.Maps Dk Bs
open Crc (Byte)
abbrev tX : ByteArray := ⟨#[120]⟩
abbrev tY : ByteArray := ⟨#[121]⟩
abbrev tN : ByteArray := ⟨#[110, 111, 110, 101]⟩
abbrev tT : Bool → ByteArray | true => tX | false => tY
section
variable (a b : List Byte) (same : Bool)
def o1 : OpA := ⟨1, tX, t0, a⟩
def o2 : OpA := ⟨1, tX, t0, b⟩
def o3 : OpA := ⟨2, tN, tX, []⟩
def o4 : OpA := ⟨2, tX, tT same, []⟩
def o5 : OpA := ⟨3, tT same, t0, []⟩
def s1 : Ds := ⟨[], [o1 a]⟩
def s2 : Ds := ⟨[], [o1 a, o2 b]⟩
def s3 : Ds := ⟨[], [o1 a, o2 b, o3]⟩
def s4 : Ds := ⟨[], [o1 a, o2 b, o3, o4 same]⟩
def s5 : Ds := ⟨[], [o1 a, o2 b, o3, o4 same, o5 same]⟩
def s6 : Ds := ⟨[], [o1 a, o2 b, o3, o4 same, o5 same, o5 same]⟩
theorem r1 : doS ⟨[], []⟩ (o1 a) = s1 a := by kernel_rfl
theorem r2 : doS (s1 a) (o2 b) = s2 a b := by kernel_rfl
theorem r3 : doS (s2 a b) o3 = s3 a b := by kernel_rfl
theorem r4 : doS (s3 a b) (o4 same) = s4 a b same := by cases same <;> kernel_rfl
theorem r5 : doS (s4 a b same) (o5 same) = s5 a b same := by cases same <;> kernel_rfl
theorem r6 : doS (s5 a b same) (o5 same) = s6 a b same := by cases same <;> kernel_rfl
theorem g1 : fget (Dk.look (s4 a b same)) (key (tT same)) = some b := by cases same <;> kernel_rfl
theorem g2 : fget (Dk.look (s4 a b same)) (key tX) = if same then some b else none := by cases same <;> kernel_rfl
theorem n1 : ((Dk.look (s4 a b same)).map (·.1)).length = 1 := by cases same <;> kernel_rfl
theorem n2 : ((Dk.look (s6 a b same)).map (·.1)).length = 0 := by cases same <;> kernel_rfl
end
theorem szT (same : Bool) : (tT same).size ≤ maxLen := by cases same <;> decide
variable {a b : List Byte} {same : Bool}
theorem f1 (ha : a.length ≤ 300) : Fits 1 (s1 a) := by rw [← r1]; exact Fits.nil.doS ⟨show (1 : Nat) ≤ maxLen by decide, show (0 : Nat) ≤ maxLen by decide, by show a.length ≤ _; omega⟩
theorem f2 (ha : a.length ≤ 300) (hb : b.length ≤ 300) : Fits 2 (s2 a b) := by rw [← r2]; exact (f1 ha).doS ⟨show (1 : Nat) ≤ maxLen by decide, show (0 : Nat) ≤ maxLen by decide, by show b.length ≤ _; omega⟩
theorem f3 (ha : a.length ≤ 300) (hb : b.length ≤ 300) : Fits 3 (s3 a b) := by rw [← r3]; exact (f2 ha hb).doS ⟨show (4 : Nat) ≤ maxLen by decide, show (1 : Nat) ≤ maxLen by decide, show (0 : Nat) ≤ _ by decide⟩
theorem f4 (ha : a.length ≤ 300) (hb : b.length ≤ 300) : Fits 4 (s4 a b same) := by rw [← r4]; exact (f3 ha hb).doS ⟨show (1 : Nat) ≤ maxLen by decide, szT same, show (0 : Nat) ≤ _ by decide⟩
theorem f5 (ha : a.length ≤ 300) (hb : b.length ≤ 300) : Fits 5 (s5 a b same) := by rw [← r5]; exact (f4 ha hb).doS ⟨szT same, show (0 : Nat) ≤ maxLen by decide, show (0 : Nat) ≤ _ by decide⟩
theorem f6 (ha : a.length ≤ 300) (hb : b.length ≤ 300) : Fits 6 (s6 a b same) := by rw [← r6]; exact (f5 ha hb).doS ⟨szT same, show (0 : Nat) ≤ maxLen by decide, show (0 : Nat) ≤ _ by decide⟩
set_option maxRecDepth 100000 in
set_option maxHeartbeats 8000000 in
theorem core (A A2 : Option Addr) (n c m d : Nat) (a b : List Byte) (same : Bool) (w : World) (ha : Hold w (fun k => k < w.heap.size) A n c a) (hb : Hold w (fun k => k < w.heap.size) A2 m d b) :
    Calls Try.prog 4 #[.slice A n c, .slice A2 m d, .bool same] w fun e w' => e = .returned (.bool true) ∧ Below w.heap.size w w' := by
  have hmx := ha.le
  have hmy := hb.le
  unfold maxLen at hmx hmy
  go_enter Try.func4, Try.ntmps4
  go_wp2_with fail
  refine (awake_c _).mono ?_
  rintro e w1 ⟨rfl, hb1⟩
  by_cases hn : 300 < n
  · go_wp2_with fail
    refine (awake_c _).mono ?_
    rintro e w2 ⟨rfl, hb2⟩
    go_wp2_with fail
    go_ret
    exact ⟨rfl, hb1.trans (hb2.mono hb1.size)⟩
  by_cases hm : 300 < m
  · go_wp2_with fail
    refine (awake_c _).mono ?_
    rintro e w2 ⟨rfl, hb2⟩
    go_wp2_with fail
    go_ret
    exact ⟨rfl, hb1.trans (hb2.mono hb1.size)⟩
  have hal : a.length ≤ 300 := by have := ha.len; omega
  have hbl : b.length ≤ 300 := by have := hb.len; omega
  have HA := Lib.hid (fun (X : World) (hX : Below w.heap.size w X) => ha.below hX)
  have HB := Lib.hid (fun (X : World) (hX : Below w.heap.size w X) => hb.below hX)
  clear ha hb
  go_wp2_with fail
  refine ((Fm.start hb1).news (j := 1) rfl (by decide)).mono ?_
  rintro e w2 ⟨g, col2, rfl, -, hF2, -⟩
  have F2 := Lib.hid hF2
  clear hF2 hb1
  cases same with
  | true =>
    have D2 := Lib.hid ((F2.out.does (kind := 1) (name := tX) (nto := t0) (A := A) (n := n) (c := c) (upd_same _ _ _) (Fits.nil) (by omega) (HA.out _ F2.out.base) (show (1 : Nat) ≤ maxLen by decide) (show (0 : Nat) ≤ maxLen by decide) (by omega)).mono (R' := fun e w' => (∃ E, e = .returned (.int .i64 E)) ∧ After w w2 col2 _ 1 g (s1 a) w') (fun e w' p => ⟨⟨_, p.1⟩, p.2.to (r1 a)⟩))
    go_wp2_with fail
    refine D2.out.mono ?_
    rintro e w3 ⟨⟨E2, rfl⟩, col3, ha2, hF3, ho2⟩
    rw [upd_upd] at hF3
    have F3 := Lib.hid hF3
    clear D2 F2 hF3 ha2 ho2
    have D3 := Lib.hid ((F3.out.does (kind := 1) (name := tX) (nto := t0) (A := A2) (n := m) (c := d) (upd_same _ _ _) (f1 hal) (by omega) (HB.out _ F3.out.base) (show (1 : Nat) ≤ maxLen by decide) (show (0 : Nat) ≤ maxLen by decide) (by omega)).mono (R' := fun e w' => (∃ E, e = .returned (.int .i64 E)) ∧ After w w3 col3 _ 1 g (s2 a b) w') (fun e w' p => ⟨⟨_, p.1⟩, p.2.to (r2 a b)⟩))
    go_wp2_with fail
    refine D3.out.mono ?_
    rintro e w4 ⟨⟨E3, rfl⟩, col4, ha3, hF4, ho3⟩
    rw [upd_upd] at hF4
    have F4 := Lib.hid hF4
    clear D3 F3 hF4 ha3 ho3
    have D4 := Lib.hid ((F4.out.does (kind := 2) (name := tN) (nto := tX) (A := none) (n := 0) (c := 0) (upd_same _ _ _) (f2 hal hbl) (by omega) (Hold.none _ (fun _ => True)) (show (4 : Nat) ≤ maxLen by decide) (show (1 : Nat) ≤ maxLen by decide) (by omega)).mono (R' := fun e w' => (∃ E, e = .returned (.int .i64 E)) ∧ After w w4 col4 _ 1 g (s3 a b) w') (fun e w' p => ⟨⟨_, p.1⟩, p.2.to (r3 a b)⟩))
    go_wp2_with fail
    refine D4.out.mono ?_
    rintro e w5 ⟨⟨E4, rfl⟩, col5, ha4, hF5, ho4⟩
    rw [upd_upd] at hF5
    have F5 := Lib.hid hF5
    clear D4 F4 hF5 ha4 ho4
    have D5 := Lib.hid ((F5.out.does (kind := 2) (name := tX) (nto := tX) (A := none) (n := 0) (c := 0) (upd_same _ _ _) (f3 hal hbl) (by omega) (Hold.none _ (fun _ => True)) (show (1 : Nat) ≤ maxLen by decide) (show (1 : Nat) ≤ maxLen by decide) (by omega)).mono (R' := fun e w' => (∃ E, e = .returned (.int .i64 E)) ∧ After w w5 col5 _ 1 g (s4 a b true) w') (fun e w' p => ⟨⟨_, p.1⟩, p.2.to (r4 a b true)⟩))
    go_wp2_with fail
    refine D5.out.mono ?_
    rintro e w6 ⟨⟨E5, rfl⟩, col6, ha5, hF6, ho5⟩
    rw [upd_upd] at hF6
    have F6 := Lib.hid hF6
    clear D5 F5 hF6 ha5 ho5
    have G6 := Lib.hid (F6.out.read (name := tX) (upd_same _ _ _) (f4 hal hbl) (by omega) (show (1 : Nat) ≤ maxLen by decide))
    rw [show fget (Dk.look (s4 a b true)) (key tX) = some b from g1 a b true] at G6
    go_wp2_with fail
    refine G6.out.mono ?_
    rintro e w7 ⟨hb7, A7, c7, rfl, hR7, hf7⟩
    have F7 := Lib.hid (F6.out.below hb7 (fun _ => 0))
    have R7 := Lib.hid (RowK.new (col := col6) hR7 hf7)
    clear G6 F6 hb7 hR7 hf7
    have G7 := Lib.hid (F7.out.read (name := tX) (upd_same _ _ _) (f4 hal hbl) (by omega) (show (1 : Nat) ≤ maxLen by decide))
    rw [show fget (Dk.look (s4 a b true)) (key tX) = some b from g2 a b true] at G7
    go_wp2_with fail
    refine G7.out.mono ?_
    rintro e w8 ⟨hb8, A8, c8, rfl, -, -⟩
    have F8 := Lib.hid (F7.out.below hb8 (fun _ => 0))
    have R8 := Lib.hid (R7.out.below hb8 (fun _ => 0))
    clear G7 F7 R7 hb8
    have G8 := Lib.hid (F8.out.names (upd_same _ _ _) (f4 (same := true) hal hbl) (by omega))
    go_wp2_with fail
    refine G8.out.mono ?_
    rintro e w9 ⟨A9, c9, rfl, -, hb9, -⟩
    rw [n1 a b true]
    have F9 := Lib.hid (F8.out.below hb9 (fun _ => 0))
    have R9 := Lib.hid (R8.out.below hb9 (fun _ => 0))
    clear G8 F8 R8 hb9
    have D9 := Lib.hid ((F9.out.does (kind := 3) (name := tX) (nto := t0) (A := none) (n := 0) (c := 0) (upd_same _ _ _) (f4 hal hbl) (by omega) (Hold.none _ (fun _ => True)) (show (1 : Nat) ≤ maxLen by decide) (show (0 : Nat) ≤ maxLen by decide) (by omega)).mono (R' := fun e w' => (∃ E, e = .returned (.int .i64 E)) ∧ After w w9 _ _ 1 g (s5 a b true) w') (fun e w' p => ⟨⟨_, p.1⟩, p.2.to (r5 a b true)⟩))
    go_wp2_with fail
    refine D9.out.mono ?_
    rintro e w10 ⟨⟨E9, rfl⟩, col10, ha9, hF10, ho9⟩
    rw [upd_upd] at hF10
    have F10 := Lib.hid hF10
    have R10 := Lib.hid (R9.out.after (by decide) ha9 ho9)
    clear R9
    clear D9 F9 hF10 ha9 ho9
    have D10 := Lib.hid ((F10.out.does (kind := 3) (name := tX) (nto := t0) (A := none) (n := 0) (c := 0) (upd_same _ _ _) (f5 hal hbl) (by omega) (Hold.none _ (fun _ => True)) (show (1 : Nat) ≤ maxLen by decide) (show (0 : Nat) ≤ maxLen by decide) (by omega)).mono (R' := fun e w' => (∃ E, e = .returned (.int .i64 E)) ∧ After w w10 col10 _ 1 g (s6 a b true) w') (fun e w' p => ⟨⟨_, p.1⟩, p.2.to (r6 a b true)⟩))
    go_wp2_with fail
    refine D10.out.mono ?_
    rintro e w11 ⟨⟨E10, rfl⟩, col11, ha10, hF11, ho10⟩
    rw [upd_upd] at hF11
    have F11 := Lib.hid hF11
    have R11 := Lib.hid (R10.out.after (by decide) ha10 ho10)
    clear R10
    clear D10 F10 hF11 ha10 ho10
    have v1 := R11.out.conv
    have v2 := conv_hold (HB.out _ F11.out.base)
    have G11 := Lib.hid (F11.out.names (upd_same _ _ _) (f6 (same := true) hal hbl) (by omega))
    go_wp2_with fail
    refine G11.out.mono ?_
    rintro e w12 ⟨A12, c12, rfl, -, hb12, -⟩
    rw [n2 a b true]
    have F12 := Lib.hid (F11.out.below hb12 (fun _ => 0))
    clear G11 F11 R11 hb12 v1 v2
    go_wp2_with fail
    refine (F12.out.opens (upd_same _ _ _)).mono ?_
    rintro e wy ⟨rfl, hwy⟩
    subst hwy
    rw [show (((s6 a b true).op.length : Nat) : Int) = 6 from rfl]
    have HBs := Lib.hid F12.out.base
    clear F12
    go_wp2_with fail
    go_ret
    exact ⟨rfl, HBs.out⟩
  | false =>
    have D2 := Lib.hid ((F2.out.does (kind := 1) (name := tX) (nto := t0) (A := A) (n := n) (c := c) (upd_same _ _ _) (Fits.nil) (by omega) (HA.out _ F2.out.base) (show (1 : Nat) ≤ maxLen by decide) (show (0 : Nat) ≤ maxLen by decide) (by omega)).mono (R' := fun e w' => (∃ E, e = .returned (.int .i64 E)) ∧ After w w2 col2 _ 1 g (s1 a) w') (fun e w' p => ⟨⟨_, p.1⟩, p.2.to (r1 a)⟩))
    go_wp2_with fail
    refine D2.out.mono ?_
    rintro e w3 ⟨⟨E2, rfl⟩, col3, ha2, hF3, ho2⟩
    rw [upd_upd] at hF3
    have F3 := Lib.hid hF3
    clear D2 F2 hF3 ha2 ho2
    have D3 := Lib.hid ((F3.out.does (kind := 1) (name := tX) (nto := t0) (A := A2) (n := m) (c := d) (upd_same _ _ _) (f1 hal) (by omega) (HB.out _ F3.out.base) (show (1 : Nat) ≤ maxLen by decide) (show (0 : Nat) ≤ maxLen by decide) (by omega)).mono (R' := fun e w' => (∃ E, e = .returned (.int .i64 E)) ∧ After w w3 col3 _ 1 g (s2 a b) w') (fun e w' p => ⟨⟨_, p.1⟩, p.2.to (r2 a b)⟩))
    go_wp2_with fail
    refine D3.out.mono ?_
    rintro e w4 ⟨⟨E3, rfl⟩, col4, ha3, hF4, ho3⟩
    rw [upd_upd] at hF4
    have F4 := Lib.hid hF4
    clear D3 F3 hF4 ha3 ho3
    have D4 := Lib.hid ((F4.out.does (kind := 2) (name := tN) (nto := tX) (A := none) (n := 0) (c := 0) (upd_same _ _ _) (f2 hal hbl) (by omega) (Hold.none _ (fun _ => True)) (show (4 : Nat) ≤ maxLen by decide) (show (1 : Nat) ≤ maxLen by decide) (by omega)).mono (R' := fun e w' => (∃ E, e = .returned (.int .i64 E)) ∧ After w w4 col4 _ 1 g (s3 a b) w') (fun e w' p => ⟨⟨_, p.1⟩, p.2.to (r3 a b)⟩))
    go_wp2_with fail
    refine D4.out.mono ?_
    rintro e w5 ⟨⟨E4, rfl⟩, col5, ha4, hF5, ho4⟩
    rw [upd_upd] at hF5
    have F5 := Lib.hid hF5
    clear D4 F4 hF5 ha4 ho4
    have D5 := Lib.hid ((F5.out.does (kind := 2) (name := tX) (nto := tY) (A := none) (n := 0) (c := 0) (upd_same _ _ _) (f3 hal hbl) (by omega) (Hold.none _ (fun _ => True)) (show (1 : Nat) ≤ maxLen by decide) (show (1 : Nat) ≤ maxLen by decide) (by omega)).mono (R' := fun e w' => (∃ E, e = .returned (.int .i64 E)) ∧ After w w5 col5 _ 1 g (s4 a b false) w') (fun e w' p => ⟨⟨_, p.1⟩, p.2.to (r4 a b false)⟩))
    go_wp2_with fail
    refine D5.out.mono ?_
    rintro e w6 ⟨⟨E5, rfl⟩, col6, ha5, hF6, ho5⟩
    rw [upd_upd] at hF6
    have F6 := Lib.hid hF6
    clear D5 F5 hF6 ha5 ho5
    have G6 := Lib.hid (F6.out.read (name := tY) (upd_same _ _ _) (f4 hal hbl) (by omega) (show (1 : Nat) ≤ maxLen by decide))
    rw [show fget (Dk.look (s4 a b false)) (key tY) = some b from g1 a b false] at G6
    go_wp2_with fail
    refine G6.out.mono ?_
    rintro e w7 ⟨hb7, A7, c7, rfl, hR7, hf7⟩
    have F7 := Lib.hid (F6.out.below hb7 (fun _ => 0))
    have R7 := Lib.hid (RowK.new (col := col6) hR7 hf7)
    clear G6 F6 hb7 hR7 hf7
    have G7 := Lib.hid (F7.out.read (name := tX) (upd_same _ _ _) (f4 hal hbl) (by omega) (show (1 : Nat) ≤ maxLen by decide))
    rw [show fget (Dk.look (s4 a b false)) (key tX) = none from g2 a b false] at G7
    go_wp2_with fail
    refine G7.out.mono ?_
    rintro e w8 ⟨hb8, rfl⟩
    have F8 := Lib.hid (F7.out.below hb8 (fun _ => 0))
    have R8 := Lib.hid (R7.out.below hb8 (fun _ => 0))
    clear G7 F7 R7 hb8
    have G8 := Lib.hid (F8.out.names (upd_same _ _ _) (f4 (same := false) hal hbl) (by omega))
    go_wp2_with fail
    refine G8.out.mono ?_
    rintro e w9 ⟨A9, c9, rfl, -, hb9, -⟩
    rw [n1 a b false]
    have F9 := Lib.hid (F8.out.below hb9 (fun _ => 0))
    have R9 := Lib.hid (R8.out.below hb9 (fun _ => 0))
    clear G8 F8 R8 hb9
    have D9 := Lib.hid ((F9.out.does (kind := 3) (name := tY) (nto := t0) (A := none) (n := 0) (c := 0) (upd_same _ _ _) (f4 hal hbl) (by omega) (Hold.none _ (fun _ => True)) (show (1 : Nat) ≤ maxLen by decide) (show (0 : Nat) ≤ maxLen by decide) (by omega)).mono (R' := fun e w' => (∃ E, e = .returned (.int .i64 E)) ∧ After w w9 _ _ 1 g (s5 a b false) w') (fun e w' p => ⟨⟨_, p.1⟩, p.2.to (r5 a b false)⟩))
    go_wp2_with fail
    refine D9.out.mono ?_
    rintro e w10 ⟨⟨E9, rfl⟩, col10, ha9, hF10, ho9⟩
    rw [upd_upd] at hF10
    have F10 := Lib.hid hF10
    have R10 := Lib.hid (R9.out.after (by decide) ha9 ho9)
    clear R9
    clear D9 F9 hF10 ha9 ho9
    have D10 := Lib.hid ((F10.out.does (kind := 3) (name := tY) (nto := t0) (A := none) (n := 0) (c := 0) (upd_same _ _ _) (f5 hal hbl) (by omega) (Hold.none _ (fun _ => True)) (show (1 : Nat) ≤ maxLen by decide) (show (0 : Nat) ≤ maxLen by decide) (by omega)).mono (R' := fun e w' => (∃ E, e = .returned (.int .i64 E)) ∧ After w w10 col10 _ 1 g (s6 a b false) w') (fun e w' p => ⟨⟨_, p.1⟩, p.2.to (r6 a b false)⟩))
    go_wp2_with fail
    refine D10.out.mono ?_
    rintro e w11 ⟨⟨E10, rfl⟩, col11, ha10, hF11, ho10⟩
    rw [upd_upd] at hF11
    have F11 := Lib.hid hF11
    have R11 := Lib.hid (R10.out.after (by decide) ha10 ho10)
    clear R10
    clear D10 F10 hF11 ha10 ho10
    have v1 := R11.out.conv
    have v2 := conv_hold (HB.out _ F11.out.base)
    have G11 := Lib.hid (F11.out.names (upd_same _ _ _) (f6 (same := false) hal hbl) (by omega))
    go_wp2_with fail
    refine G11.out.mono ?_
    rintro e w12 ⟨A12, c12, rfl, -, hb12, -⟩
    rw [n2 a b false]
    have F12 := Lib.hid (F11.out.below hb12 (fun _ => 0))
    clear G11 F11 R11 hb12 v1 v2
    go_wp2_with fail
    refine (F12.out.opens (upd_same _ _ _)).mono ?_
    rintro e wy ⟨rfl, hwy⟩
    subst hwy
    rw [show (((s6 a b false).op.length : Nat) : Int) = 6 from rfl]
    have HBs := Lib.hid F12.out.base
    clear F12
    go_wp2_with fail
    go_ret
    exact ⟨rfl, HBs.out⟩
theorem walk (v1 v2 v3 : Value) (w : World) (h1 : Frame.Arg Try.prog w 27 v1) (h2 : Frame.Arg Try.prog w 27 v2) (h3 : Frame.Arg Try.prog w 4 v3) :
    Calls Try.prog 4 #[v1, v2, v3] w fun e w' => e = .returned (.bool true) ∧ Below w.heap.size w w' := by
  obtain ⟨A, n, c, a, rfl, ha⟩ := arg_hold h1
  obtain ⟨A2, m, d, b, rfl, hb⟩ := arg_hold h2
  obtain ⟨same, rfl⟩ := h3.bool Try.underlying4
  exact core A A2 n c m d a b same w ha hb
end Go.Proofs.Ytnaidihoijociaa.diskMoves
