/- The walks of layer 14 (box): what the laws ask ahead of all. -/
import Derived.Test.YtfcdmfiblmnbkaaBoxR
namespace Go.Proofs.Ytfcdmfiblmnbkaa
open Go.RowKit Go.Maps
namespace Box
theorem do_v (s t q r x y c : Int) (well : Bool) (w : World) (hst : step (s, t) q well r = (x, y)) (hc : err s q = c) (hs : (Lit.int .i64 s).wf = true) (hq : (Lit.int .i64 q).wf = true) (ht : t ≤ 9223372036854775807) :
    Calls Try.prog 25 #[.agg #[.int .i64 s, .int .i64 t], .int .i64 q, .bool well, .int .i64 r] w (fun e w' => e = .returned (.tuple #[.agg #[.int .i64 x, .int .i64 y], .int .i64 c]) ∧ Below w.heap.size w w') :=
  (do_c s t q r well w hs hq ht).mono fun e w' ⟨he, hb⟩ => ⟨by rw [he, hst, hc], hb⟩
theorem awake_c (w : World) : Calls Try.prog 24 #[] w fun e w' => e = .returned (.bool true) ∧ Below w.heap.size w w' := by
  go_enter Try.func24, Try.ntmps24
  go_wp2_with (go_at_call 31; refine (new_c _).mono ?_; rintro e w1 ⟨rfl, hb1⟩)
  refine (do_v 1 0 1 1 2 0 0 true _ (by decide) (by decide) (by decide) (by decide) (by decide)).mono ?_
  rintro e w2 ⟨rfl, hb2⟩
  have L2 : Below w.heap.size w w2 := (hb1.alloc hb1.size _).trans (hb2.mono (by have := hb1.size; simp; omega))
  have A2 : In w2 w1.heap.size (1, 0) := Mem.Blk.belowS Mem.Blk.new hb2
  clear hb1 hb2
  go_wp2_with fail
  refine (do_v 2 0 2 1 2 1 0 false _ (by decide) (by decide) (by decide) (by decide) (by decide)).mono ?_
  rintro e w3 ⟨rfl, hb3⟩
  have L3 : Below w.heap.size w w3 := (L2.alloc L2.size _).trans (hb3.mono (by have := L2.size; simp; omega))
  have A3 : In w3 w1.heap.size (1, 0) := A2.alloc.belowS hb3
  have B3 : In w3 w2.heap.size (2, 0) := Mem.Blk.belowS Mem.Blk.new hb3
  clear hb3 A2
  go_wp2_with fail
  refine (do_v 2 1 2 1 6 2 0 false _ (by decide) (by decide) (by decide) (by decide) (by decide)).mono ?_
  rintro e w4 ⟨rfl, hb4⟩
  have L4 : Below w.heap.size w w4 := (L3.alloc L3.size _).trans (hb4.mono (by have := L3.size; simp; omega))
  have A4 : In w4 w1.heap.size (1, 0) := A3.alloc.belowS hb4
  have B4 : In w4 w2.heap.size (2, 0) := B3.alloc.belowS hb4
  have C4 : In w4 w3.heap.size (2, 1) := Mem.Blk.belowS Mem.Blk.new hb4
  clear hb4 A3 B3
  go_wp2_with fail
  refine (do_v 6 2 2 1 6 2 7 true _ (by decide) (by decide) (by decide) (by decide) (by decide)).mono ?_
  rintro e w5 ⟨rfl, hb5⟩
  have L5 : Below w.heap.size w w5 := (L4.alloc L4.size _).trans (hb5.mono (by have := L4.size; simp; omega))
  have A5 : In w5 w1.heap.size (1, 0) := A4.alloc.belowS hb5
  have B5 : In w5 w2.heap.size (2, 0) := B4.alloc.belowS hb5
  have C5 : In w5 w3.heap.size (2, 1) := C4.alloc.belowS hb5
  have D5 : In w5 w4.heap.size (6, 2) := Mem.Blk.belowS Mem.Blk.new hb5
  clear hb5 A4 B4 C4
  go_wp2_with fail
  have hrun : runTo [1, 2, 2] [] 0 3 = ((3, 0), 2) := by decide
  refine (run_c _ none 3 3 0 0 [1, 2, 2] [] 0 _ ((Mem.new_sl (n := 3) (xs := [.int .i64 1, .int .i64 2, .int .i64 2]) (by simp) rfl rfl).more (by simp)) Mem.Sl.nil (by decide) (by decide) (by decide)).mono ?_
  rintro e w6 ⟨he, hb6⟩
  rw [hrun] at he
  subst he
  have L6 : Below w.heap.size w w6 := ((L5.alloc L5.size _).alloc (by have := L5.size; simp; omega) _).trans (hb6.mono (by have := L5.size; simp; omega))
  have A6 : In w6 w1.heap.size (1, 0) := A5.alloc.alloc.belowS hb6
  have B6 : In w6 w2.heap.size (2, 0) := B5.alloc.alloc.belowS hb6
  have C6 : In w6 w3.heap.size (2, 1) := C5.alloc.alloc.belowS hb6
  have D6 : In w6 w4.heap.size (6, 2) := D5.alloc.alloc.belowS hb6
  clear hb6 A5 B5 C5 D5 hrun
  have a0 : (w6.alloc (.cells #[.int .i64 3, .int .i64 0] 33)).cell? ⟨w1.heap.size, 0, none⟩ = some (.int .i64 1) := A6.alloc.cell 0
  have b0 : (w6.alloc (.cells #[.int .i64 3, .int .i64 0] 33)).cell? ⟨w2.heap.size, 0, none⟩ = some (.int .i64 2) := B6.alloc.cell 0
  have c0 : (w6.alloc (.cells #[.int .i64 3, .int .i64 0] 33)).cell? ⟨w3.heap.size, 0, none⟩ = some (.int .i64 2) := C6.alloc.cell 0
  have c1 : (w6.alloc (.cells #[.int .i64 3, .int .i64 0] 33)).cell? ⟨w3.heap.size, 1, none⟩ = some (.int .i64 1) := C6.alloc.cell 1
  have d0 : (w6.alloc (.cells #[.int .i64 3, .int .i64 0] 33)).cell? ⟨w4.heap.size, 0, none⟩ = some (.int .i64 6) := D6.alloc.cell 0
  have d1 : (w6.alloc (.cells #[.int .i64 3, .int .i64 0] 33)).cell? ⟨w4.heap.size, 1, none⟩ = some (.int .i64 2) := D6.alloc.cell 1
  go_wp2_with fail
  refine (over_c 6 2 _).mono ?_
  rintro e w7 ⟨rfl, hb7⟩
  have L7 : Below w.heap.size w w7 := (L6.alloc L6.size _).trans (hb7.mono (by have := L6.size; simp; omega))
  have D7 : In w7 w4.heap.size (6, 2) := D6.alloc.belowS hb7
  have E7 : In w7 w6.heap.size (3, 0) := Mem.Blk.belowS Mem.Blk.new hb7
  clear hb7 a0 b0 c0 c1 d0 d1 A6 B6 C6 D6
  have d0 : w7.cell? ⟨w4.heap.size, 0, none⟩ = some (.int .i64 6) := D7.cell 0
  have d1 : w7.cell? ⟨w4.heap.size, 1, none⟩ = some (.int .i64 2) := D7.cell 1
  go_wp2_with fail
  refine (may_c 6 2 4 _ (by decide) (by decide)).mono ?_
  rintro e w8 ⟨rfl, hb8⟩
  have L8 : Below w.heap.size w w8 := L7.trans (hb8.mono L7.size)
  have D8 : In w8 w4.heap.size (6, 2) := D7.belowS hb8
  have E8 : In w8 w6.heap.size (3, 0) := E7.belowS hb8
  clear hb8 d0 d1 D7 E7
  have d0 : w8.cell? ⟨w4.heap.size, 0, none⟩ = some (.int .i64 6) := D8.cell 0
  have d1 : w8.cell? ⟨w4.heap.size, 1, none⟩ = some (.int .i64 2) := D8.cell 1
  have e1 : nxt 6 4 = 5 := by decide
  have e2 : nxt 6 2 = 0 := by decide
  go_wp2_with fail
  refine (may_c 6 2 2 _ (by decide) (by decide)).mono ?_
  rintro e w9 ⟨rfl, hb9⟩
  have L9 : Below w.heap.size w w9 := L8.trans (hb9.mono L8.size)
  have E9 : In w9 w6.heap.size (3, 0) := E8.belowS hb9
  clear hb9 d0 d1 D8 E8
  have x0 : w9.cell? ⟨w6.heap.size, 0, none⟩ = some (.int .i64 3) := E9.cell 0
  go_wp2
  go_ret
  exact ⟨rfl, L9⟩
end Box
end Go.Proofs.Ytfcdmfiblmnbkaa
