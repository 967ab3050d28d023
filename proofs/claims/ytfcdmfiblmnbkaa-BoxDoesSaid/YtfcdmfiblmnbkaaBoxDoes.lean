/- BoxDoes: the walk. -/
import Derived.Test.YtfcdmfiblmnbkaaBoxA
import Derived.Test.YtfcdmfiblmnbkaaFrame
namespace Go.Proofs.Ytfcdmfiblmnbkaa.boxDoes
open Go.RowKit Go.Maps Box
/-- what is known of a world: three containers in their blocks -/
structure Kn (w w2 w3 : World) (s t x y : Int) (wx : World) : Prop where
  q4 : In wx w.heap.size (s, t)
  q9 : In wx w2.heap.size (x, y)
  q11 : In wx w3.heap.size (x, y)
set_option maxHeartbeats 4000000 in
theorem core (s t q r : Int) (well : Bool) (w : World) (hs : (Lit.int .i64 s).wf = true) (hq : (Lit.int .i64 q).wf = true) (ht : t ≤ 9223372036854775807) :
    Calls Try.prog 8 #[.agg #[.int .i64 s, .int .i64 t], .int .i64 q, .bool well, .int .i64 r] w fun e w' => e = .returned (.bool true) ∧ Below w.heap.size w w' := by
  obtain ⟨⟨x, y⟩, hst⟩ : ∃ p, p = Box.step (s, t) q well r := ⟨_, rfl⟩
  go_enter Try.func8, Try.ntmps8
  go_wp2_with fail
  refine (awake_c _).mono ?_
  rintro e w1 ⟨rfl, hb1⟩
  have X1 : In w1 w.heap.size (s, t) := Mem.Blk.belowS Mem.Blk.new hb1
  have L1 : Below w.heap.size w w1 := ((Below.refl _ _).alloc (Nat.le_refl _) _).trans (hb1.mono (by simp))
  have c0 : w1.cell? ⟨w.heap.size, 0, none⟩ = some (.int .i64 s) := X1.cell 0
  have c1 : w1.cell? ⟨w.heap.size, 1, none⟩ = some (.int .i64 t) := X1.cell 1
  clear hb1
  go_wp2_with fail
  refine (do_v s t q r x y (err s q) well _ hst.symm rfl hs hq ht).mono ?_
  rintro e w2 ⟨rfl, hb2⟩
  have X2 : In w2 w.heap.size (s, t) := X1.belowS hb2
  have L2 : Below w.heap.size w w2 := L1.trans (hb2.mono L1.size)
  have c0' : (w2.alloc (.cells #[.int .i64 x, .int .i64 y] 33)).cell? ⟨w.heap.size, 0, none⟩ = some (.int .i64 s) := X2.alloc.cell 0
  have c1' : (w2.alloc (.cells #[.int .i64 x, .int .i64 y] 33)).cell? ⟨w.heap.size, 1, none⟩ = some (.int .i64 t) := X2.alloc.cell 1
  clear c0 c1 hb2 X1 L1
  go_wp2_with fail
  refine (rdo_c s t q r well _ ht).mono ?_
  rintro e w3 ⟨he, hb3⟩
  rw [← hst] at he
  subst he
  have X3 : In w3 w.heap.size (s, t) := X2.alloc.belowS hb3
  have Y3 : In w3 w2.heap.size (x, y) := Mem.Blk.belowS Mem.Blk.new hb3
  have L3 : Below w.heap.size w w3 := (L2.alloc L2.size _).trans (hb3.mono (by have := L2.size; simp; omega))
  clear c0' c1' hb3 X2 L2 hst
  by_cases h0 : nxt s q = 0
  · have n1 : err s q = 7 := by unfold err; rw [if_pos h0]
    have n2 : (nxt s q != 0) = false := by simp [h0]

    clear h0
    go_wp2_with fail
    have Q4 : In (w3.alloc (.cells #[.int .i64 x, .int .i64 y] 33)).drew w.heap.size (s, t) := X3.alloc.drew
    have Q9 : In (w3.alloc (.cells #[.int .i64 x, .int .i64 y] 33)).drew w2.heap.size (x, y) := Y3.alloc.drew
    have Q11 : In (w3.alloc (.cells #[.int .i64 x, .int .i64 y] 33)).drew w3.heap.size (x, y) := Mem.Blk.new
    have L3' : Below w.heap.size w (w3.alloc (.cells #[.int .i64 x, .int .i64 y] 33)).drew := (L3.alloc L3.size _).drew
    refine Reg.start (S := Kn w w2 w3 s t x y) (by kernel_rfl) ?_
    refine Reg.takes (n := 19) (by kernel_rfl) (fun _ _ d _ _ h => by cases d <;> exact h) (Kn.mk Q4 Q9 Q11) [0, 1, 2, 3, 4, 5, 6, 7, 8, 9, 10, 11, 12, 13, 14, 15, 16, 17, 18, 20, 21, 22] _ _ (by kernel_rfl) ?_
    repeat (refine Reg.det_step rfl (fun K' hK' => ?_); go_simp; (first | (refine hK' _ ?_; clear hK' K') | (apply Exists.intro; refine ⟨fun wx hwx => ?_, hK' _ ?_⟩; (first | rfl | ((have e0 : wx.cell? ⟨w.heap.size, 0, none⟩ = some (.int .i64 s) := hwx.q4.cell 0; have e1 : wx.cell? ⟨w.heap.size, 1, none⟩ = some (.int .i64 t) := hwx.q4.cell 1; have e2 : wx.cell? ⟨w2.heap.size, 0, none⟩ = some (.int .i64 x) := hwx.q9.cell 0; have e3 : wx.cell? ⟨w2.heap.size, 1, none⟩ = some (.int .i64 y) := hwx.q9.cell 1; have e4 : wx.cell? ⟨w3.heap.size, 0, none⟩ = some (.int .i64 x) := hwx.q11.cell 0; have e5 : wx.cell? ⟨w3.heap.size, 1, none⟩ = some (.int .i64 y) := hwx.q11.cell 1; clear hwx); go_simp; first | done | rfl)); clear hK' K')))
    refine Reg.det_nil ?_
    refine Reg.one (i := 19) (n := 18) (by kernel_rfl) ?_
    refine Reg.call rfl rfl (by go_simp; exact ⟨rfl, rfl⟩) ?_
    refine (may_c s t q _ hs hq).mono ?_
    rintro e w4 ⟨rfl, hb4⟩
    have S4 : Below w.heap.size w w4 := L3'.trans (hb4.mono L3'.size)
    have P4 : Kn w w2 w3 s t x y w4 := ⟨Mem.Blk.belowS Q4 hb4, Mem.Blk.belowS Q9 hb4, Mem.Blk.belowS Q11 hb4⟩
    refine ⟨_, rfl, P4, ?_⟩
    refine Reg.one (i := 23) (n := 17) (by kernel_rfl) ?_
    refine Reg.call rfl rfl (by go_simp; exact ⟨rfl, rfl⟩) ?_
    refine (rto_c s q _).mono ?_
    rintro e w5 ⟨rfl, rfl⟩
    refine ⟨_, rfl, P4, ?_⟩
    refine Reg.takes (n := 9) (by kernel_rfl) (fun _ _ d _ _ h => by cases d <;> exact h) P4 [24, 25, 26, 27, 28, 30, 31, 32] _ _ (by kernel_rfl) ?_
    repeat (refine Reg.det_step rfl (fun K' hK' => ?_); go_simp; (first | (refine hK' _ ?_; clear hK' K') | (apply Exists.intro; refine ⟨fun wx hwx => ?_, hK' _ ?_⟩; (first | rfl | ((have e0 : wx.cell? ⟨w.heap.size, 0, none⟩ = some (.int .i64 s) := hwx.q4.cell 0; have e1 : wx.cell? ⟨w.heap.size, 1, none⟩ = some (.int .i64 t) := hwx.q4.cell 1; have e2 : wx.cell? ⟨w2.heap.size, 0, none⟩ = some (.int .i64 x) := hwx.q9.cell 0; have e3 : wx.cell? ⟨w2.heap.size, 1, none⟩ = some (.int .i64 y) := hwx.q9.cell 1; have e4 : wx.cell? ⟨w3.heap.size, 0, none⟩ = some (.int .i64 x) := hwx.q11.cell 0; have e5 : wx.cell? ⟨w3.heap.size, 1, none⟩ = some (.int .i64 y) := hwx.q11.cell 1; clear hwx); go_simp; first | done | rfl)); clear hK' K')))
    refine Reg.det_nil ?_
    refine Reg.one (i := 29) (n := 8) (by kernel_rfl) ?_
    refine Reg.call rfl rfl (by go_simp; exact ⟨rfl, rfl⟩) ?_
    refine (over_c s t _).mono ?_
    rintro e w6 ⟨rfl, hb6⟩
    have S6 : Below w.heap.size w w6 := S4.trans (hb6.mono S4.size)
    have P6 : Kn w w2 w3 s t x y w6 := ⟨P4.q4.belowS hb6, P4.q9.belowS hb6, P4.q11.belowS hb6⟩
    refine ⟨_, rfl, P6, ?_⟩
    rcases Bool.eq_false_or_eq_true (s == 5) with h5 | h5
    · refine Reg.takes (n := 0) (by kernel_rfl) (fun _ _ d _ _ h => by cases d <;> exact h) P6 [33, 34, 35, 36, 37, 38, 39, 40] _ _ (by kernel_rfl) ?_
      repeat (refine Reg.det_step rfl (fun K' hK' => ?_); go_simp; (first | (refine hK' _ ?_; clear hK' K') | (apply Exists.intro; refine ⟨fun wx hwx => ?_, hK' _ ?_⟩; (first | rfl | ((have e0 : wx.cell? ⟨w.heap.size, 0, none⟩ = some (.int .i64 s) := hwx.q4.cell 0; have e1 : wx.cell? ⟨w.heap.size, 1, none⟩ = some (.int .i64 t) := hwx.q4.cell 1; have e2 : wx.cell? ⟨w2.heap.size, 0, none⟩ = some (.int .i64 x) := hwx.q9.cell 0; have e3 : wx.cell? ⟨w2.heap.size, 1, none⟩ = some (.int .i64 y) := hwx.q9.cell 1; have e4 : wx.cell? ⟨w3.heap.size, 0, none⟩ = some (.int .i64 x) := hwx.q11.cell 0; have e5 : wx.cell? ⟨w3.heap.size, 1, none⟩ = some (.int .i64 y) := hwx.q11.cell 1; clear hwx); go_simp; first | done | rfl)); clear hK' K')))
      refine Reg.det_nil ?_
      refine wpAnyH_done (by kernel_rfl) ?_ _
      go_wp2
      go_ret
      exact ⟨rfl, S6⟩
    · refine Reg.takes (n := 0) (by kernel_rfl) (fun _ _ d _ _ h => by cases d <;> exact h) P6 [33, 34, 35, 36, 37, 38, 39, 40] _ _ (by kernel_rfl) ?_
      repeat (refine Reg.det_step rfl (fun K' hK' => ?_); go_simp; (first | (refine hK' _ ?_; clear hK' K') | (apply Exists.intro; refine ⟨fun wx hwx => ?_, hK' _ ?_⟩; (first | rfl | ((have e0 : wx.cell? ⟨w.heap.size, 0, none⟩ = some (.int .i64 s) := hwx.q4.cell 0; have e1 : wx.cell? ⟨w.heap.size, 1, none⟩ = some (.int .i64 t) := hwx.q4.cell 1; have e2 : wx.cell? ⟨w2.heap.size, 0, none⟩ = some (.int .i64 x) := hwx.q9.cell 0; have e3 : wx.cell? ⟨w2.heap.size, 1, none⟩ = some (.int .i64 y) := hwx.q9.cell 1; have e4 : wx.cell? ⟨w3.heap.size, 0, none⟩ = some (.int .i64 x) := hwx.q11.cell 0; have e5 : wx.cell? ⟨w3.heap.size, 1, none⟩ = some (.int .i64 y) := hwx.q11.cell 1; clear hwx); go_simp; first | done | rfl)); clear hK' K')))
      refine Reg.det_nil ?_
      refine wpAnyH_done (by kernel_rfl) ?_ _
      go_wp2
      go_ret
      exact ⟨rfl, S6⟩
  · have n1 : err s q = 0 := by unfold err; rw [if_neg h0]
    have n2 : (nxt s q != 0) = true := by simp [h0]

    clear h0
    go_wp2_with fail
    have Q4 : In (w3.alloc (.cells #[.int .i64 x, .int .i64 y] 33)).drew w.heap.size (s, t) := X3.alloc.drew
    have Q9 : In (w3.alloc (.cells #[.int .i64 x, .int .i64 y] 33)).drew w2.heap.size (x, y) := Y3.alloc.drew
    have Q11 : In (w3.alloc (.cells #[.int .i64 x, .int .i64 y] 33)).drew w3.heap.size (x, y) := Mem.Blk.new
    have L3' : Below w.heap.size w (w3.alloc (.cells #[.int .i64 x, .int .i64 y] 33)).drew := (L3.alloc L3.size _).drew
    refine Reg.start (S := Kn w w2 w3 s t x y) (by kernel_rfl) ?_
    refine Reg.takes (n := 19) (by kernel_rfl) (fun _ _ d _ _ h => by cases d <;> exact h) (Kn.mk Q4 Q9 Q11) [0, 1, 2, 3, 4, 5, 6, 7, 8, 9, 10, 11, 12, 13, 14, 15, 16, 17, 18, 20, 21, 22] _ _ (by kernel_rfl) ?_
    repeat (refine Reg.det_step rfl (fun K' hK' => ?_); go_simp; (first | (refine hK' _ ?_; clear hK' K') | (apply Exists.intro; refine ⟨fun wx hwx => ?_, hK' _ ?_⟩; (first | rfl | ((have e0 : wx.cell? ⟨w.heap.size, 0, none⟩ = some (.int .i64 s) := hwx.q4.cell 0; have e1 : wx.cell? ⟨w.heap.size, 1, none⟩ = some (.int .i64 t) := hwx.q4.cell 1; have e2 : wx.cell? ⟨w2.heap.size, 0, none⟩ = some (.int .i64 x) := hwx.q9.cell 0; have e3 : wx.cell? ⟨w2.heap.size, 1, none⟩ = some (.int .i64 y) := hwx.q9.cell 1; have e4 : wx.cell? ⟨w3.heap.size, 0, none⟩ = some (.int .i64 x) := hwx.q11.cell 0; have e5 : wx.cell? ⟨w3.heap.size, 1, none⟩ = some (.int .i64 y) := hwx.q11.cell 1; clear hwx); go_simp; first | done | rfl)); clear hK' K')))
    refine Reg.det_nil ?_
    refine Reg.one (i := 19) (n := 18) (by kernel_rfl) ?_
    refine Reg.call rfl rfl (by go_simp; exact ⟨rfl, rfl⟩) ?_
    refine (may_c s t q _ hs hq).mono ?_
    rintro e w4 ⟨rfl, hb4⟩
    have S4 : Below w.heap.size w w4 := L3'.trans (hb4.mono L3'.size)
    have P4 : Kn w w2 w3 s t x y w4 := ⟨Mem.Blk.belowS Q4 hb4, Mem.Blk.belowS Q9 hb4, Mem.Blk.belowS Q11 hb4⟩
    refine ⟨_, rfl, P4, ?_⟩
    refine Reg.one (i := 23) (n := 17) (by kernel_rfl) ?_
    refine Reg.call rfl rfl (by go_simp; exact ⟨rfl, rfl⟩) ?_
    refine (rto_c s q _).mono ?_
    rintro e w5 ⟨rfl, rfl⟩
    refine ⟨_, rfl, P4, ?_⟩
    refine Reg.takes (n := 9) (by kernel_rfl) (fun _ _ d _ _ h => by cases d <;> exact h) P4 [24, 25, 26, 27, 28, 30, 31, 32] _ _ (by kernel_rfl) ?_
    repeat (refine Reg.det_step rfl (fun K' hK' => ?_); go_simp; (first | (refine hK' _ ?_; clear hK' K') | (apply Exists.intro; refine ⟨fun wx hwx => ?_, hK' _ ?_⟩; (first | rfl | ((have e0 : wx.cell? ⟨w.heap.size, 0, none⟩ = some (.int .i64 s) := hwx.q4.cell 0; have e1 : wx.cell? ⟨w.heap.size, 1, none⟩ = some (.int .i64 t) := hwx.q4.cell 1; have e2 : wx.cell? ⟨w2.heap.size, 0, none⟩ = some (.int .i64 x) := hwx.q9.cell 0; have e3 : wx.cell? ⟨w2.heap.size, 1, none⟩ = some (.int .i64 y) := hwx.q9.cell 1; have e4 : wx.cell? ⟨w3.heap.size, 0, none⟩ = some (.int .i64 x) := hwx.q11.cell 0; have e5 : wx.cell? ⟨w3.heap.size, 1, none⟩ = some (.int .i64 y) := hwx.q11.cell 1; clear hwx); go_simp; first | done | rfl)); clear hK' K')))
    refine Reg.det_nil ?_
    refine Reg.one (i := 29) (n := 8) (by kernel_rfl) ?_
    refine Reg.call rfl rfl (by go_simp; exact ⟨rfl, rfl⟩) ?_
    refine (over_c s t _).mono ?_
    rintro e w6 ⟨rfl, hb6⟩
    have S6 : Below w.heap.size w w6 := S4.trans (hb6.mono S4.size)
    have P6 : Kn w w2 w3 s t x y w6 := ⟨P4.q4.belowS hb6, P4.q9.belowS hb6, P4.q11.belowS hb6⟩
    refine ⟨_, rfl, P6, ?_⟩
    rcases Bool.eq_false_or_eq_true (s == 5) with h5 | h5
    · refine Reg.takes (n := 0) (by kernel_rfl) (fun _ _ d _ _ h => by cases d <;> exact h) P6 [33, 34, 35, 36, 37, 38, 39, 40] _ _ (by kernel_rfl) ?_
      repeat (refine Reg.det_step rfl (fun K' hK' => ?_); go_simp; (first | (refine hK' _ ?_; clear hK' K') | (apply Exists.intro; refine ⟨fun wx hwx => ?_, hK' _ ?_⟩; (first | rfl | ((have e0 : wx.cell? ⟨w.heap.size, 0, none⟩ = some (.int .i64 s) := hwx.q4.cell 0; have e1 : wx.cell? ⟨w.heap.size, 1, none⟩ = some (.int .i64 t) := hwx.q4.cell 1; have e2 : wx.cell? ⟨w2.heap.size, 0, none⟩ = some (.int .i64 x) := hwx.q9.cell 0; have e3 : wx.cell? ⟨w2.heap.size, 1, none⟩ = some (.int .i64 y) := hwx.q9.cell 1; have e4 : wx.cell? ⟨w3.heap.size, 0, none⟩ = some (.int .i64 x) := hwx.q11.cell 0; have e5 : wx.cell? ⟨w3.heap.size, 1, none⟩ = some (.int .i64 y) := hwx.q11.cell 1; clear hwx); go_simp; first | done | rfl)); clear hK' K')))
      refine Reg.det_nil ?_
      refine wpAnyH_done (by kernel_rfl) ?_ _
      go_wp2
      go_ret
      exact ⟨rfl, S6⟩
    · refine Reg.takes (n := 0) (by kernel_rfl) (fun _ _ d _ _ h => by cases d <;> exact h) P6 [33, 34, 35, 36, 37, 38, 39, 40] _ _ (by kernel_rfl) ?_
      repeat (refine Reg.det_step rfl (fun K' hK' => ?_); go_simp; (first | (refine hK' _ ?_; clear hK' K') | (apply Exists.intro; refine ⟨fun wx hwx => ?_, hK' _ ?_⟩; (first | rfl | ((have e0 : wx.cell? ⟨w.heap.size, 0, none⟩ = some (.int .i64 s) := hwx.q4.cell 0; have e1 : wx.cell? ⟨w.heap.size, 1, none⟩ = some (.int .i64 t) := hwx.q4.cell 1; have e2 : wx.cell? ⟨w2.heap.size, 0, none⟩ = some (.int .i64 x) := hwx.q9.cell 0; have e3 : wx.cell? ⟨w2.heap.size, 1, none⟩ = some (.int .i64 y) := hwx.q9.cell 1; have e4 : wx.cell? ⟨w3.heap.size, 0, none⟩ = some (.int .i64 x) := hwx.q11.cell 0; have e5 : wx.cell? ⟨w3.heap.size, 1, none⟩ = some (.int .i64 y) := hwx.q11.cell 1; clear hwx); go_simp; first | done | rfl)); clear hK' K')))
      refine Reg.det_nil ?_
      refine wpAnyH_done (by kernel_rfl) ?_ _
      go_wp2
      go_ret
      exact ⟨rfl, S6⟩
theorem arg_box {w : World} {v : Value} (h : Frame.Arg Try.prog w 33 v) : ∃ s t : Int, v = .agg #[.int .i64 s, .int .i64 t] ∧ (Lit.int .i64 s).wf = true ∧ (Lit.int .i64 t).wf = true := by
  obtain ⟨cs, rfl⟩ := h.agg Try.underlying33
  obtain ⟨hl, hf⟩ := h.dat.struct Try.underlying33
  obtain ⟨l⟩ := cs
  have hl2 : l.length = 2 := hl.trans (by kernel_rfl)
  have c1 : Try.prog.cellsOf 3 = 1 := by kernel_rfl
  match l, hl2, hf with
  | [a, b], _, hf =>
    have h0 : Frame.Dat Try.prog w 3 [a] := by have := hf 0 _ rfl; simpa [Value.cells, c1] using this
    have h1 : Frame.Dat Try.prog w 3 [b] := by have := hf 1 _ rfl; simpa [Value.cells, c1] using this
    obtain ⟨s, hs, ws⟩ := h0.int Try.underlying3
    obtain ⟨t, ht, wt⟩ := h1.int Try.underlying3
    simp at hs ht
    exact ⟨s, t, by rw [hs, ht], ws, wt⟩
theorem walk (v1 v2 v3 v4 : Value) (w : World) (h1 : Frame.Arg Try.prog w 33 v1) (h2 : Frame.Arg Try.prog w 3 v2) (h3 : Frame.Arg Try.prog w 4 v3) (h4 : Frame.Arg Try.prog w 3 v4) :
    Calls Try.prog 8 #[v1, v2, v3, v4] w fun e w' => e = .returned (.bool true) ∧ Below w.heap.size w w' := by
  obtain ⟨s, t, rfl, hs, ht⟩ := arg_box h1
  obtain ⟨q, rfl, hq⟩ := h2.int Try.underlying3
  obtain ⟨well, rfl⟩ := h3.bool Try.underlying4
  obtain ⟨r, rfl, hr⟩ := h4.int Try.underlying3
  exact core s t q r well w hs hq (Frame.bd_i64 ht).2
end Go.Proofs.Ytfcdmfiblmnbkaa.boxDoes
