/- FramePuts: the walk. -/
import Derived.Test.YtmgippcbfeemnaaFrameR
import Derived.Laws.MakeOwn
namespace Go.Proofs.Ytmgippcbfeemnaa.framePuts
open Go.RowKit Bs Crc
theorem make_c : ∃ M : Array Value, ∀ u : World, (Instr.makeSlice 22 (.int .i64 1048577) (.int .i64 1048577)).run Try.prog u = .ok (.slice (some ⟨u.heap.size, 0, none⟩) 1048577 1048577) (u.alloc (.cells M 5)) := by
  obtain ⟨i, hi, hz, h1, h2⟩ := info_parts elb.info
  refine ⟨madeCells (Value.int .u8 0).cells ((1048577 : Int).toNat * i.size), fun u => ?_⟩
  exact run_makeSlice (P := Try.prog) u 22 5 i (.int .u8 0) elb.ty hi hz .i64 .i64 1048577 1048577 (by decide) (by decide) (by rw [h1]; decide) (by rw [h2]; decide) (by decide)
set_option maxRecDepth 100000 in
set_option maxHeartbeats 1000000 in
theorem inside (v : Int) (A : Option Addr) (n c : Nat) (bs : List Byte) (w : World) (h : Bs w w.heap.size A n bs) (hn : n ≤ 3000) (h0 : 0 ≤ v) (h1 : v ≤ 4294967295) :
    Calls Try.prog 8 #[.int .i64 v, .slice A n c] w fun e w' => e = .returned (.bool true) ∧ Below w.heap.size w w' := by
  have hln := Lib.hid h.len
  obtain ⟨M, hM⟩ := make_c
  go_enter Try.func8, Try.ntmps8
  go_wp2_with fail
  refine (fawake_c _).mono ?_
  rintro e w1 ⟨rfl, hb1⟩
  go_wp2_with fail
  refine (fput_c v A n c bs _ h0 h1 (by omega) ((h.below hb1).more hb1.size)).mono ?_
  rintro e w2 ⟨A2, c2, e2, O2', hb2⟩
  rw [hln.out] at e2 O2'
  have O2 : Crc.Own w2 w1.heap.size A2 (n + 16) c2 (frame v bs) := O2'
  subst e2
  have L2 : Below w.heap.size w w2 := hb1.trans (hb2.mono hb1.size)
  have z2 := L2.size
  clear hb1 hb2 O2'
  go_wp2_with fail
  refine (fput_no 0 _ 1048577 1048577 _ (by decide) (by decide)).mono ?_
  rintro e w3 ⟨rfl, rfl⟩
  have L3 := L2.alloc z2 (.cells M 5)
  have O3 := World.ownsRow.alloc O2 (.cells M 5)
  have z3 := L3.size
  clear hM L2 O2 z2
  go_wp2_with fail
  refine (rfput_c v A n c bs _ h0 h1 (by omega) ((h.below L3).more z3)).mono ?_
  rintro e w4 ⟨A4, c4, rfl, O4, hb4⟩
  have L4 : Below w.heap.size w w4 := L3.trans (hb4.mono z3)
  have X4 : Crc.Own w4 w1.heap.size A2 (n + 16) c2 (frame v bs) := own_below O3 hb4 (Nat.le_refl _)
  clear hb4 L3 O3
  go_wp2_with fail
  refine (same_c A2 A4 (n + 16) c2 (n + 16) c4 _ _ (frame v bs) (frame v bs) _ X4.bs O4.bs).mono ?_
  rw [decide_eq_true rfl]
  rintro e w' ⟨rfl, rfl⟩
  go_wp2
  go_ret
  exact ⟨rfl, L4⟩
set_option maxRecDepth 100000 in
set_option maxHeartbeats 1000000 in
theorem outside (v : Int) (A : Option Addr) (n c : Nat) (w : World) (hn : n ≤ 3000) (hv : v < 0 ∨ 0 ≤ v ∧ 4294967295 < v) :
    Calls Try.prog 8 #[.int .i64 v, .slice A n c] w fun e w' => e = .returned (.bool true) ∧ Below w.heap.size w w' := by
  obtain ⟨M, hM⟩ := make_c
  have Hno : ∀ u, Calls Try.prog 22 #[.int .i64 v, .slice A n c] u fun e w' => e = .returned (.tuple #[.slice none 0 0, .int .i64 1]) ∧ u = w' := fun u => fput_no v A n c u (by omega) (by omega)
  rcases hv with hv | ⟨hv, hv'⟩
  all_goals
    go_enter Try.func8, Try.ntmps8
    go_wp2_with fail
    refine (fawake_c _).mono ?_
    rintro e w1 ⟨rfl, hb1⟩
    go_wp2_with fail
    refine (Hno _).mono ?_
    rintro e w2 ⟨rfl, rfl⟩
    go_wp2_with fail
    refine (fput_no 0 _ 1048577 1048577 _ (by decide) (by decide)).mono ?_
    rintro e w3 ⟨rfl, rfl⟩
    go_wp2
    go_ret
    exact ⟨rfl, hb1.alloc hb1.size _⟩
theorem walk (v1 v2 : Value) (w : World) (h1 : Frame.Arg Try.prog w 3 v1) (h2 : Frame.Arg Try.prog w 22 v2) :
    Calls Try.prog 8 #[v1, v2] w fun e w' => e = .returned (.bool true) ∧ Below w.heap.size w w' := by
  obtain ⟨v, rfl, hv⟩ := h1.int Try.underlying3
  obtain ⟨A, n, c, a, rfl, hc, hm, hr⟩ := arg_bs h2 Try.underlying22 Try.underlying5 (by kernel_rfl)
  obtain ⟨b0, b1⟩ := Frame.bd_i64 hv
  clear hv
  by_cases hs : n ≤ 3000
  · by_cases h0 : 0 ≤ v ∧ v ≤ 4294967295
    · exact inside v A n c a w hr hs h0.1 h0.2
    · exact outside v A n c w hs (by omega)
  · have h : 3000 < n := by omega
    clear hs
    unfold maxLen at hm
    go_enter Try.func8, Try.ntmps8
    go_wp2_with fail
    refine (fawake_c _).mono ?_
    rintro e w1 ⟨rfl, hb1⟩
    go_wp2_with fail
    refine (fawake_c _).mono ?_
    rintro e w2 ⟨rfl, hb2⟩
    go_wp2
    go_ret
    exact ⟨rfl, hb1.trans (hb2.mono hb1.size)⟩
end Go.Proofs.Ytmgippcbfeemnaa.framePuts
