/- DiskTorn: the walk. -/
import Derived.Test.YtnaidihoijociaaDkN
namespace Go.Proofs.Ytnaidihoijociaa.diskTorn
open Go.RowKit Go.Maps Dk Bs
open Crc (Byte)
section
variable (a b : List Byte)
def oW (a : List Byte) : OpA := ⟨1, tA, t0, a⟩
def s1 : Ds := ⟨[], [oW a]⟩
def s2 : Ds := ⟨[([97], a)], []⟩
def s3 : Ds := ⟨[([97], a)], [oW b]⟩
theorem r1 : doS ⟨[], []⟩ (oW a) = s1 a := by kernel_rfl
theorem r2 : (⟨Dk.look (s1 a), []⟩ : Ds) = s2 a := by kernel_rfl
theorem r3 : doS (s2 a) (oW b) = s3 a b := by kernel_rfl
theorem g2 : fget (Dk.look (s2 a)) (key tA) = some a := by kernel_rfl
end
variable {a b : List Byte}
theorem put_a : app1 [([97], a)] (oW b) = [([97], b)] := by kernel_rfl
theorem r4 (z : Int) : (⟨crashF (s3 a b).fs (s3 a b).op [z], []⟩ : Ds) = s2 (if z = 0 then a else if 1 ≤ z ∧ z ≤ b.length then b.take (z - 1).toNat else b) := by
  show (⟨crash1 [([97], a)] (oW b) z, []⟩ : Ds) = _
  unfold crash1
  by_cases h0 : z = 0
  · rw [if_pos h0, if_pos h0]; rfl
  · rw [if_neg h0, if_neg h0]
    unfold cutOp
    by_cases h1 : 1 ≤ z ∧ z ≤ b.length
    · rw [if_pos ⟨rfl, h1.1, h1.2⟩, if_pos h1]
      rw [show (⟨(oW b).kind, (oW b).name, (oW b).nto, (oW b).bytes.take (z - 1).toNat⟩ : OpA) = oW (b.take (z - 1).toNat) from rfl, put_a]
      rfl
    · rw [if_neg (fun c => h1 ⟨c.2.1, c.2.2⟩), if_neg h1, put_a]
      rfl
theorem f1 (ha : a.length ≤ 300) : Fits 1 (s1 a) := by rw [← r1]; exact Fits.nil.doS ⟨show (1 : Nat) ≤ maxLen by decide, show (0 : Nat) ≤ maxLen by decide, by show a.length ≤ _; omega⟩
theorem f2 (ha : a.length ≤ 300) : Fits 1 (s2 a) := by rw [← r2]; exact (f1 ha).look
theorem f3 (ha : a.length ≤ 300) (hb : b.length ≤ 300) : Fits 2 (s3 a b) := by rw [← r3]; exact (f2 ha).doS ⟨show (1 : Nat) ≤ maxLen by decide, show (0 : Nat) ≤ maxLen by decide, by show b.length ≤ _; omega⟩
set_option maxRecDepth 100000 in
set_option maxHeartbeats 8000000 in
theorem core (A A2 : Option Addr) (n c m d : Nat) (a b : List Byte) (z : Int) (w : World) (ha : Hold w (fun k => k < w.heap.size) A n c a) (hb : Hold w (fun k => k < w.heap.size) A2 m d b) (hz : z ≤ 9223372036854775807) :
    Calls Try.prog 5 #[.slice A n c, .slice A2 m d, .int .i64 z] w fun e w' => e = .returned (.bool true) ∧ Below w.heap.size w w' := by
  have hmx := ha.le
  have hmy := hb.le
  unfold maxLen at hmx hmy
  go_enter Try.func5, Try.ntmps5
  go_wp2_with fail
  refine (awake_c _).mono ?_
  rintro e w1 ⟨rfl, hb1⟩
  by_cases hn : 300 < n
  · go_wp2_with fail
    refine (awake_c _).mono ?_
    rintro e w2 ⟨rfl, hb2⟩
    go_wp2_with fail
    go_ret
    exact ⟨rfl, hb1.trans (hb2.mono hb1.size)⟩
  by_cases hm : 300 < m
  · go_wp2_with fail
    refine (awake_c _).mono ?_
    rintro e w2 ⟨rfl, hb2⟩
    go_wp2_with fail
    go_ret
    exact ⟨rfl, hb1.trans (hb2.mono hb1.size)⟩
  have hal : a.length ≤ 300 := by have := ha.len; omega
  have hbl : b.length ≤ 300 := by have := hb.len; omega
  have hbm := hb.len
  have HA := Lib.hid (fun (X : World) (hX : Below w.heap.size w X) => ha.below hX)
  have HB := Lib.hid (fun (X : World) (hX : Below w.heap.size w X) => hb.below hX)
  clear ha hb
  go_wp2_with fail
  refine ((Fm.start hb1).news (j := 1) rfl (by decide)).mono ?_
  rintro e w2 ⟨g, col2, rfl, -, hF2, -⟩
  have F2 := Lib.hid hF2
  clear hF2 hb1
  have D2 := Lib.hid ((F2.out.does (kind := 1) (name := tA) (nto := t0) (A := A) (n := n) (c := c) (upd_same _ _ _) (Fits.nil) (by omega) (HA.out _ F2.out.base) (show (1 : Nat) ≤ maxLen by decide) (show (0 : Nat) ≤ maxLen by decide) (by omega)).mono (R' := fun e w' => (∃ E, e = .returned (.int .i64 E)) ∧ After w w2 col2 _ 1 g (s1 a) w') (fun e w' p => ⟨⟨_, p.1⟩, p.2.to (r1 a)⟩))
  go_wp2_with fail
  refine D2.out.mono ?_
  rintro e w3 ⟨⟨E2, rfl⟩, col3, -, hF3, -⟩
  rw [upd_upd] at hF3
  have F3 := Lib.hid hF3
  clear D2 F2 hF3
  have D3 := Lib.hid ((F3.out.sync (upd_same _ _ _) (f1 hal) (by omega)).mono (R' := fun e w' => e = .returned (.tuple #[]) ∧ After w w3 col3 _ 1 g (s2 a) w') (fun e w' p => ⟨p.1, p.2.to (r2 a)⟩))
  go_wp2_with fail
  refine D3.out.mono ?_
  rintro e w4 ⟨rfl, col4, -, hF4, -⟩
  rw [upd_upd] at hF4
  have F4 := Lib.hid hF4
  clear D3 F3 hF4
  have D4 := Lib.hid ((F4.out.does (kind := 1) (name := tA) (nto := t0) (A := A2) (n := m) (c := d) (upd_same _ _ _) (f2 hal) (by omega) (HB.out _ F4.out.base) (show (1 : Nat) ≤ maxLen by decide) (show (0 : Nat) ≤ maxLen by decide) (by omega)).mono (R' := fun e w' => (∃ E, e = .returned (.int .i64 E)) ∧ After w w4 col4 _ 1 g (s3 a b) w') (fun e w' p => ⟨⟨_, p.1⟩, p.2.to (r3 a b)⟩))
  go_wp2_with fail
  refine D4.out.mono ?_
  rintro e w5 ⟨⟨E4, rfl⟩, col5, -, hF5, -⟩
  rw [upd_upd] at hF5
  have F5 := Lib.hid hF5
  clear D4 F4 hF5
  have F6 := Lib.hid (F5.out.below ((Below.refl w5.heap.size w5).alloc (Nat.le_refl _) (.cells #[.int .i64 z] 3)) (fun _ => 0))
  obtain ⟨res, hres⟩ : ∃ res, res = (if z = 0 then a else if 1 ≤ z ∧ z ≤ b.length then b.take (z - 1).toNat else b) := ⟨_, rfl⟩
  have hrl : res.length ≤ 300 := by rw [hres]; split; · exact hal
                                    split
                                    · simp only [List.length_take]; omega
                                    · exact hbl
  have hresH := Lib.hid hres
  have D6 := Lib.hid ((F6.out.crash (keep := [z]) (kn := 1) (kc := 1) (upd_same _ _ _) (f3 hal hbl) (by omega) (Mem.Sl.more (Mem.new_sl (w := w5) rfl rfl rfl) (by simp)) (fun ad e _ c => by
    cases e
    have c' : (if w5.heap.size < w5.heap.size then _ else 0) = 1 := c
    rw [if_neg (by omega)] at c'
    cases c') (fun y hy => by rw [List.mem_singleton] at hy; omega) (by omega)).mono (R' := fun e w' => e = .returned (.tuple #[]) ∧ After w _ _ _ 1 g (s2 res) w') (fun e w' p => ⟨p.1, p.2.to (by rw [hres]; exact r4 z)⟩))
  clear hres
  go_wp2_with fail
  refine D6.out.mono ?_
  rintro e w7 ⟨rfl, col7, -, hF7, -⟩
  rw [upd_upd] at hF7
  have F7 := Lib.hid hF7
  clear D6 F6 F5 hF7
  have G7 := Lib.hid (F7.out.read (name := tA) (upd_same _ _ _) (f2 hrl) (by omega) (show (1 : Nat) ≤ maxLen by decide))
  rw [g2 res] at G7
  go_wp2_with fail
  refine G7.out.mono ?_
  rintro e w8 ⟨hb8, A8, c8, rfl, hR8, hf8⟩
  have F8 := Lib.hid (F7.out.below hb8 (fun _ => 0))
  have R8 := Lib.hid (RowK.new (col := col7) hR8 hf8)
  clear G7 F7 hb8 hR8 hf8
  go_wp2_with fail
  refine (F8.out.opens (upd_same _ _ _)).mono ?_
  rintro e wy ⟨rfl, hwy⟩
  subst hwy
  rw [show (((s2 res).op.length : Nat) : Int) = 0 from rfl]
  have HBs := Lib.hid F8.out.base
  have v1 := R8.out.conv
  have HA8 := Lib.hid (HA.out _ HBs.out)
  have HB8 := Lib.hid (HB.out _ HBs.out)
  have v2 := conv_hold HA8.out
  have v3 := conv_hold HB8.out
  have hr0 := hresH.out
  clear hresH
  by_cases h0 : z = 0
  · rw [if_pos h0] at hr0
    subst hr0 h0
    go_wp2_with fail
    go_ret
    exact ⟨rfl, HBs.out⟩
  · rw [if_neg h0] at hr0
    have h0' : (z == 0) = false := beq_eq_false_iff_ne.2 h0
    by_cases h1 : 1 ≤ z ∧ z ≤ b.length
    · rw [if_pos h1] at hr0
      obtain ⟨q, hq⟩ : ∃ q : Nat, z = (q : Int) + 1 := ⟨(z - 1).toNat, by omega⟩
      have hres : res = b.take q := by rw [hr0]; congr 1; omega
      have hz1 : ¬ z < 0 := by omega
      have hz2 : ¬ (m : Int) < z := by omega
      have hqm : q ≤ m := by omega
      have hqd : q ≤ d := Nat.le_trans hqm HB8.out.le.1
      have hw : IntKind.i64.wrap (z - 1) = (q : Int) := by unfold IntKind.wrap; simp [IntKind.bits, IntKind.signed]; omega
      have v4 := conv_hold (HB8.out.cut hqm)
      have hresq : Hid (res = b.take q) := Lib.hid hres
      clear hr0 hres h1 hq v4
      go_wp2_with fail
      obtain ⟨Y, hY⟩ : ∃ Y, wy.drew = Y := ⟨_, rfl⟩
      have u1 : (convert 27 9 (.slice A8 res.length c8)).run Try.prog Y = .ok (.string (Bs.strOf res)) Y := by rw [← hY]; exact conv_row R8.out.row (Below.refl _ _).drew
      have u2 : (convert 27 9 (.slice A2 q d)).run Try.prog Y = .ok (.string (Bs.strOf res)) Y := by rw [← hY, hresq.out]; exact conv_hold ((HB8.out.below (Below.refl _ _).drew).cut hqm)
      refine Reg.start (S := fun w' => w' = Y) (by kernel_rfl) ?_
      rw [hY]
      refine Reg.takes (S := fun w' => w' = Y) (n := 0) (by kernel_rfl) (fun _ _ d _ _ h => by cases d <;> exact h) rfl [0, 1, 2, 3, 4, 5, 6, 7, 8] _ _ (by kernel_rfl) ?_
      iterate 9 (refine Reg.det_step rfl (fun K' hK' => ?_); go_simp; (first | (refine hK' _ ?_; clear hK' K') | (apply Exists.intro; refine ⟨fun wx hwx => ?_, hK' _ ?_⟩; (first | rfl | (subst hwx; go_simp; first | done | rfl)); clear hK' K')))
      refine Reg.det_nil ?_
      refine wpAnyH_done (by kernel_rfl) ?_ _
      subst hY
      go_wp2_with fail
      go_ret
      exact ⟨rfl, HBs.out.drew⟩
    · rw [if_neg h1] at hr0
      subst hr0
      rw [hbm] at v1
      by_cases hz1 : z < 0
      · go_wp2_with fail
        go_ret
        exact ⟨rfl, HBs.out⟩
      · have hz2 : (m : Int) < z := by omega
        go_wp2_with fail
        go_ret
        exact ⟨rfl, HBs.out⟩
theorem walk (v1 v2 v3 : Value) (w : World) (h1 : Frame.Arg Try.prog w 27 v1) (h2 : Frame.Arg Try.prog w 27 v2) (h3 : Frame.Arg Try.prog w 3 v3) :
    Calls Try.prog 5 #[v1, v2, v3] w fun e w' => e = .returned (.bool true) ∧ Below w.heap.size w w' := by
  obtain ⟨A, n, c, a, rfl, ha⟩ := arg_hold h1
  obtain ⟨A2, m, d, b, rfl, hb⟩ := arg_hold h2
  obtain ⟨z, rfl, hz⟩ := h3.int Try.underlying3
  exact core A A2 n c m d a b z w ha hb (Frame.bd_i64 hz).2
end Go.Proofs.Ytnaidihoijociaa.diskTorn
