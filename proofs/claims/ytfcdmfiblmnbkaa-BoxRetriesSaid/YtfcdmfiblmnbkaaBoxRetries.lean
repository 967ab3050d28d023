/- BoxRetries: the walk. -/
import Derived.Test.YtfcdmfiblmnbkaaBoxA
import Derived.Test.YtfcdmfiblmnbkaaBoxM
import Derived.Test.YtfcdmfiblmnbkaaFrame
namespace Go.Proofs.Ytfcdmfiblmnbkaa.boxRetries
open Go.RowKit Go.Maps Box
theorem ints_take {w : World} {B : Nat} {A : Option Addr} {n m : Nat} {l : List Int} (h : Mem.Ints w B .i64 A n l) (hm : m ≤ n) : Mem.Ints w B .i64 A m (l.take m) := by
  have hl := h.len
  refine ⟨by simp; omega, fun h0 => ?_⟩
  obtain ⟨ad, e, hb, hc⟩ := h.2 (by omega)
  refine ⟨ad, e, hb, fun j hj => ?_⟩
  have hj' : j < (l.map (Value.int .i64)).length := by simp at hj ⊢; omega
  rw [hc j hj']; simp
theorem run_v (A A2 : Option Addr) (n c m c2 : Nat) (l : List Int) (well : List Bool) (r : Int) (w W : World) (hb : Below W.heap.size W w) (hl : Mem.Ints W W.heap.size .i64 A n l) (hw : Mem.Sl W W.heap.size 1 A2 m (well.map Value.bool)) (hlz : ∀ z ∈ l, (Lit.int .i64 z).wf = true)
    (hn : n ≤ 1000) (hm : m ≤ 1000) {x y k : Int} (h : Hid (runTo l well r n = ((x, y), k))) :
    Calls Try.prog 30 #[.slice A n c, .slice A2 m c2, .int .i64 r] w (fun e w' => e = .returned (.tuple #[.agg #[.int .i64 x, .int .i64 y], .int .i64 k]) ∧ Below w.heap.size w w') :=
  (run_c A A2 n c m c2 l well r w ((hl.below hb).more hb.size) ((hw.below hb).more hb.size) hlz hn hm).mono fun e w' ⟨he, hb⟩ => ⟨by rw [he, h.out], hb⟩
set_option maxRecDepth 4000 in
set_option maxHeartbeats 4000000 in
theorem core (A A2 : Option Addr) (n c m c2 : Nat) (l : List Int) (well : List Bool) (ra rm : Int) (w : World) (hra : 0 ≤ ra ∧ ra ≤ 65535) (hrm : 0 ≤ rm ∧ rm ≤ 65535) (hnc : n ≤ c) (hcm : c ≤ maxLen) (hl : Mem.Ints w w.heap.size .i64 A n l) (hw : Mem.Sl w w.heap.size 1 A2 m (well.map Value.bool)) (hlz : ∀ z ∈ l, (Lit.int .i64 z).wf = true)
    (hn : n ≤ 200) (hm : m ≤ 200) :
    Calls Try.prog 13 #[.slice A n c, .slice A2 m c2, .int .u16 ra, .int .u16 rm] w fun e w' => e = .returned (.bool true) ∧ Below w.heap.size w w' := by
  have hn' : decide (200 < n) = false := by simp; omega
  have hm' : decide (200 < m) = false := by simp; omega
  obtain ⟨s, t, nn, hA⟩ : ∃ s t nn, runTo l well ra n = ((s, t), nn) := ⟨_, _, _, rfl⟩
  obtain ⟨s2, t2, n2, hB⟩ : ∃ s t nn, runTo l well (ra + rm) n = ((s, t), nn) := ⟨_, _, _, rfl⟩
  obtain ⟨s3, t3, n3, hC⟩ : ∃ s t nn, runTo l [] 0 n = ((s, t), nn) := ⟨_, _, _, rfl⟩
  have hwr := well_run l 0 n
  rw [hC] at hwr
  obtain ⟨hw3, ht3⟩ := hwr
  simp only at hw3 ht3
  subst ht3
  have d3 : (s3 == 6) = false := by simp; omega
  have hsame : broke l well ra n = false → s = s2 ∧ t = t2 ∧ nn = n2 := by
    intro h
    have e := more_run l well ra rm hrm.1 n h
    rw [hA, hB] at e
    simp only [Prod.mk.injEq] at e
    exact ⟨e.1.1.symm, e.1.2.symm, e.2.symm⟩
  have HA := Lib.hid hA
  have HB := Lib.hid hB
  have HC := Lib.hid hC
  have Hsame := Lib.hid hsame
  clear hA hB hC hsame
  obtain ⟨ra0, ra1⟩ := hra
  obtain ⟨rm0, rm1⟩ := hrm
  go_enter Try.func13, Try.ntmps13
  go_wp2_with (go_at_call 24; refine (awake_c _).mono ?_; rintro e w1 ⟨rfl, hb1⟩)
  have L1 : Below w.heap.size w w1 := hb1
  refine (run_v A A2 n c m c2 l well ra _ w hb1 hl hw hlz (by omega) (by omega) HA).mono ?_
  rintro e w2 ⟨rfl, hb2⟩
  have L2 : Below w.heap.size w (w2.alloc (.cells #[.int .i64 s, .int .i64 t] 33)) := (L1.trans (hb2.mono L1.size)).alloc (by have := L1.size; have := hb2.size; omega) _
  have A2' : In (w2.alloc (.cells #[.int .i64 s, .int .i64 t] 33)) w2.heap.size (s, t) := Mem.Blk.new
  clear hb2
  go_wp2_with fail
  refine (run_v A A2 n c m c2 l well (ra + rm) _ w L2 hl hw hlz (by omega) (by omega) HB).mono ?_
  rintro e w3 ⟨rfl, hb3⟩
  have L3 : Below w.heap.size w (w3.alloc (.cells #[.int .i64 s2, .int .i64 t2] 33)) := (L2.trans (hb3.mono L2.size)).alloc (by have := L2.size; have := hb3.size; omega) _
  have A3 : In (w3.alloc (.cells #[.int .i64 s2, .int .i64 t2] 33)) w2.heap.size (s, t) := (A2'.belowS hb3).alloc
  have B3 : In (w3.alloc (.cells #[.int .i64 s2, .int .i64 t2] 33)) w3.heap.size (s2, t2) := Mem.Blk.new
  clear hb3 A2'
  go_wp2_with fail
  refine (run_v A none n c 0 0 l [] 0 _ w L3 hl Mem.Sl.nil hlz (by omega) (by omega) HC).mono ?_
  rintro e w4 ⟨rfl, hb4⟩
  have L4 : Below w.heap.size w (w4.alloc (.cells #[.int .i64 s3, .int .i64 0] 33)) := (L3.trans (hb4.mono L3.size)).alloc (by have := L3.size; have := hb4.size; omega) _
  have A4 : In (w4.alloc (.cells #[.int .i64 s3, .int .i64 0] 33)) w2.heap.size (s, t) := (A3.belowS hb4).alloc
  have B4 : In (w4.alloc (.cells #[.int .i64 s3, .int .i64 0] 33)) w3.heap.size (s2, t2) := (B3.belowS hb4).alloc
  clear hb4 A3 B3 hb1 L1 L2 L3
  go_wp2_with fail
  go_loopw [15, 16] (fun vb vi wr => ∃ k : Nat, k ≤ n ∧ vi = .int .i64 k ∧ vb = .bool (broke l well ra k) ∧ Below w.heap.size w wr ∧ In wr w2.heap.size (s, t) ∧ In wr w3.heap.size (s2, t2)) (fun _ i _ => n - (intOf i).toNat)
  case atStart => exact ⟨0, Nat.zero_le _, rfl, rfl, L4, A4, B4⟩
  case round =>
    clear L4 A4 B4
    obtain ⟨k, hk, rfl, rfl, hbr, A5, B5⟩ := hrel
    obtain ⟨bk, hbk⟩ : ∃ bk, bk = broke l well ra k := ⟨_, rfl⟩
    rw [← hbk]
    by_cases hlt : k < n
    · obtain ⟨x, y, kk, hX⟩ : ∃ x y kk, runTo l well ra (k + 1) = ((x, y), kk) := ⟨_, _, _, rfl⟩
      have hnext : broke l well ra (k + 1) = (bk || x == 6) := by rw [broke, hX, ← hbk]
      have HX : Hid (runTo (l.take (k + 1)) well ra (k + 1) = ((x, y), kk)) := by show runTo _ _ _ _ = _; rw [runTo_take _ _ _ _ _ (Nat.le_refl _)]; exact hX
      have Hnext := Lib.hid hnext
      clear hX hnext hbk Hsame
      go_wp2_with fail
      refine (run_v A A2 (k + 1) c m c2 (l.take (k + 1)) well ra _ w hbr (ints_take hl (by omega)) hw (fun z hz => hlz z (List.mem_of_mem_take hz)) (by omega) (by omega) HX).mono ?_
      rintro e w5 ⟨rfl, hb5⟩
      have L5 : Below w.heap.size w (w5.alloc (.cells #[.int .i64 x, .int .i64 y] 33)) := (hbr.trans (hb5.mono hbr.size)).alloc (by have := hbr.size; have := hb5.size; omega) _
      have A6 : In (w5.alloc (.cells #[.int .i64 x, .int .i64 y] 33)) w2.heap.size (s, t) := (A5.belowS hb5).alloc
      have B6 : In (w5.alloc (.cells #[.int .i64 x, .int .i64 y] 33)) w3.heap.size (s2, t2) := (B5.belowS hb5).alloc
      clear hb5 A5 B5 hbr
      cases bk with
      | true =>
        go_wp2
        go_roundw
        case rel => exact ⟨k + 1, by omega, by go_num, by rw [Hnext.out]; rfl, L5, A6, B6⟩
        case measure => simp [intOf]; omega
      | false =>
        go_wp2
        go_roundw
        case rel => exact ⟨k + 1, by omega, by go_num, by rw [Hnext.out]; rfl, L5, A6, B6⟩
        case measure => simp [intOf]; omega
    · obtain rfl : k = n := by omega
      have Hbk := Lib.hid hbk
      clear hbk
      cases bk with
      | true =>
        go_wp2
        go_ret
        exact ⟨rfl, hbr⟩
      | false =>
        obtain ⟨rfl, rfl, rfl⟩ := Hsame.out Hbk.out.symm
        have a0 := A5.cell 0
        have a1 := A5.cell 1
        have b0 := B5.cell 0
        have b1 := B5.cell 1
        go_wp2
        go_ret
        exact ⟨rfl, hbr⟩
theorem walk (v1 v2 v3 v4 : Value) (w : World) (h1 : Frame.Arg Try.prog w 26 v1) (h2 : Frame.Arg Try.prog w 42 v2) (h3 : Frame.Arg Try.prog w 49 v3) (h4 : Frame.Arg Try.prog w 49 v4) :
    Calls Try.prog 13 #[v1, v2, v3, v4] w fun e w' => e = .returned (.bool true) ∧ Below w.heap.size w w' := by
  obtain ⟨A, n, c, zs, rfl, hc, hm, hr, hz⟩ := h1.ints Try.underlying26 Try.underlying3 (by kernel_rfl)
  obtain ⟨A2, n2, c2, bs, rfl, hc2, hm2, hr2⟩ := h2.bools Try.underlying42 Try.underlying4 (by kernel_rfl)
  obtain ⟨ra, rfl, hra⟩ := h3.int Try.underlying49
  obtain ⟨rm, rfl, hrm⟩ := h4.int Try.underlying49
  unfold maxLen at hm hm2
  by_cases hn : 200 < n
  · have hn' : decide (200 < n) = true := by simp; omega
    go_enter Try.func13, Try.ntmps13
    go_wp2_with fail
    refine (awake_c _).mono ?_
    rintro e w1 ⟨rfl, hb1⟩
    go_wp2_with fail
    refine (awake_c _).mono ?_
    rintro e w2 ⟨rfl, hb2⟩
    go_wp2
    go_ret
    exact ⟨rfl, hb1.trans (hb2.mono hb1.size)⟩
  · by_cases hn2 : 200 < n2
    · have hn' : decide (200 < n) = false := by simp; omega
      have hn2' : decide (200 < n2) = true := by simp; omega
      go_enter Try.func13, Try.ntmps13
      go_wp2_with fail
      refine (awake_c _).mono ?_
      rintro e w1 ⟨rfl, hb1⟩
      go_wp2_with fail
      refine (awake_c _).mono ?_
      rintro e w2 ⟨rfl, hb2⟩
      go_wp2
      go_ret
      exact ⟨rfl, hb1.trans (hb2.mono hb1.size)⟩
    · exact core A A2 n c n2 c2 zs bs ra rm w (Frame.bd_u16 hra) (Frame.bd_u16 hrm) hc (by unfold maxLen; omega) hr hr2.2 hz (by omega) (by omega)
end Go.Proofs.Ytfcdmfiblmnbkaa.boxRetries
