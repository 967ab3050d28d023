/- BoxTries: the walk. -/
import Derived.Test.YtfcdmfiblmnbkaaBoxA
import Derived.Test.YtfcdmfiblmnbkaaBoxM
import Derived.Test.YtfcdmfiblmnbkaaFrame
namespace Go.Proofs.Ytfcdmfiblmnbkaa.boxTries
open Go.RowKit Go.Maps Box
set_option maxHeartbeats 4000000 in
theorem core (a b : Int) (w : World) (ha : 0 ≤ a ∧ a ≤ 255) (hb : 0 ≤ b ∧ b ≤ 255) :
    Calls Try.prog 10 #[.int .u8 a, .int .u8 b] w fun e w' => e = .returned (.bool true) ∧ Below w.heap.size w w' := by
  go_enter Try.func10, Try.ntmps10
  go_wp2_with fail
  refine (awake_c _).mono ?_
  rintro e w1 ⟨rfl, hb1⟩
  go_wp2_with fail
  refine (new_c _).mono ?_
  rintro e w2 ⟨rfl, hb2⟩
  go_wp2_with fail
  obtain ⟨r, hr⟩ : ∃ r, r = a % 50 := ⟨_, rfl⟩
  obtain ⟨f, hf⟩ : ∃ f, f = b % 60 := ⟨_, rfl⟩
  rw [← hr, ← hf]
  have hr0 : 0 ≤ r ∧ r ≤ 49 := by omega
  have hf0 : 0 ≤ f ∧ f ≤ 59 := by omega
  clear hr hf ha hb
  have L2 : Below w.heap.size w w2 := hb1.trans (hb2.mono hb1.size)
  have hz2 := L2.size
  go_loopw [8] (fun vi wr => ∃ i : Int, 0 ≤ i ∧ i ≤ f ∧ vi = .int .i64 i ∧ Below w.heap.size w wr ∧ (i ≤ r → In wr w2.heap.size (1, i)) ∧ (r < i → In wr w2.heap.size (6, r + 1))) (fun i _ => (f - intOf i).toNat)
  case atStart => exact ⟨0, by omega, by omega, rfl, L2.alloc hz2 _, fun _ => Mem.Blk.new, fun h => absurd h (by omega)⟩
  case round =>
    clear hb1 hb2 L2
    obtain ⟨i, hi0, hif, rfl, hbr, hA, hB⟩ := hrel
    by_cases hlt : i < f
    · rcases Int.lt_trichotomy i r with hc | hc | hc
      · have B := hA (by omega)
        clear hA hB
        have h0 : wr.cell? ⟨w2.heap.size, 0, none⟩ = some (.int .i64 1) := B.cell 0
        have h1 : wr.cell? ⟨w2.heap.size, 1, none⟩ = some (.int .i64 (i)) := B.cell 1
        have q1 : decide (i ≤ r) = true := by simp; omega
        have q2 : decide (r ≤ i) = false := by simp; omega
        go_wp2_with fail
        refine (do_v 1 (i) 1 r 1 (i + 1) 0 false _ (tried_lt hi0 hc (by omega)) (by rfl) (by decide) (by decide) (by omega)).mono ?_
        rintro e w3 ⟨rfl, hb3⟩
        have B3 : In (w3.alloc (.cells #[.int .i64 1, .int .i64 (i + 1)] 33)) w2.heap.size (1, i) := (B.belowS hb3).alloc
        have N3 : In (w3.alloc (.cells #[.int .i64 1, .int .i64 (i + 1)] 33)) w3.heap.size (1, i + 1) := Mem.Blk.new
        have k0 := B3.cell 0
        have k1 := B3.cell 1
        have kf := B3.frozen
        have hz3 := hb3.size
        have hzr := hbr.size
        have hgz := B.lt
        go_wp2_with fail
        go_roundw
        case rel => exact ⟨i + 1, by omega, by omega, rfl, (((hbr.trans (hb3.mono hzr)).alloc (by omega) _).setCell (by simp; omega) _).setCell (by simp; omega) _, fun _ => (B3.set_ 0 _).set_ 1 _, fun h => absurd h (by omega)⟩
        case measure => simp [intOf]; omega
      · subst hc
        have B := hA (by omega)
        clear hA hB
        have h0 : wr.cell? ⟨w2.heap.size, 0, none⟩ = some (.int .i64 1) := B.cell 0
        have h1 : wr.cell? ⟨w2.heap.size, 1, none⟩ = some (.int .i64 (i)) := B.cell 1
        go_wp2_with fail
        refine (do_v 1 (i) 1 i 6 (i + 1) 0 false _ (tried_eq hi0 (by omega)) (by rfl) (by decide) (by decide) (by omega)).mono ?_
        rintro e w3 ⟨rfl, hb3⟩
        have B3 : In (w3.alloc (.cells #[.int .i64 6, .int .i64 (i + 1)] 33)) w2.heap.size (1, i) := (B.belowS hb3).alloc
        have N3 : In (w3.alloc (.cells #[.int .i64 6, .int .i64 (i + 1)] 33)) w3.heap.size (6, i + 1) := Mem.Blk.new
        have k0 := B3.cell 0
        have k1 := B3.cell 1
        have kf := B3.frozen
        have hz3 := hb3.size
        have hzr := hbr.size
        have hgz := B.lt
        go_wp2_with fail
        go_roundw
        case rel => exact ⟨i + 1, by omega, by omega, rfl, (((hbr.trans (hb3.mono hzr)).alloc (by omega) _).setCell (by simp; omega) _).setCell (by simp; omega) _, fun h => absurd h (by omega), fun _ => (B3.set_ 0 _).set_ 1 _⟩
        case measure => simp [intOf]; omega
      · have B := hB (by omega)
        clear hA hB
        have h0 : wr.cell? ⟨w2.heap.size, 0, none⟩ = some (.int .i64 6) := B.cell 0
        have h1 : wr.cell? ⟨w2.heap.size, 1, none⟩ = some (.int .i64 (r + 1)) := B.cell 1
        have q1 : decide (i ≤ r) = false := by simp; omega
        have q2 : decide (r ≤ i) = true := by simp; omega
        go_wp2_with fail
        refine (do_v 6 (r + 1) 1 r 6 (r + 1) 7 false _ (tried_gt _) (by rfl) (by decide) (by decide) (by omega)).mono ?_
        rintro e w3 ⟨rfl, hb3⟩
        have B3 : In (w3.alloc (.cells #[.int .i64 6, .int .i64 (r + 1)] 33)) w2.heap.size (6, r + 1) := (B.belowS hb3).alloc
        have N3 : In (w3.alloc (.cells #[.int .i64 6, .int .i64 (r + 1)] 33)) w3.heap.size (6, r + 1) := Mem.Blk.new
        have k0 := B3.cell 0
        have k1 := B3.cell 1
        have kf := B3.frozen
        have hz3 := hb3.size
        have hzr := hbr.size
        have hgz := B.lt
        go_wp2_with fail
        go_roundw
        case rel => exact ⟨i + 1, by omega, by omega, rfl, (((hbr.trans (hb3.mono hzr)).alloc (by omega) _).setCell (by simp; omega) _).setCell (by simp; omega) _, fun h => absurd h (by omega), fun _ => (B3.set_ 0 _).set_ 1 _⟩
        case measure => simp [intOf]; omega
    · obtain rfl : i = f := by omega
      have hzr := hbr.size
      by_cases hc : r < i
      · have B := hB hc
        clear hA hB
        have h0 : wr.cell? ⟨w2.heap.size, 0, none⟩ = some (.int .i64 6) := B.cell 0
        have h1 : wr.cell? ⟨w2.heap.size, 1, none⟩ = some (.int .i64 (r + 1)) := B.cell 1
        go_wp2_with fail
        refine (do_v 6 (r + 1) 1 r 6 (r + 1) 7 true _ (tried_gt _) (by rfl) (by decide) (by decide) (by omega)).mono ?_
        rintro e w3 ⟨rfl, hb3⟩
        have hz3 := hb3.size
        have B3 : In (w3.alloc (.cells #[.int .i64 6, .int .i64 (r + 1)] 33)) w2.heap.size (6, r + 1) := (B.belowS hb3).alloc
        have k0 := B3.cell 0
        have k1 := B3.cell 1
        go_wp2_with fail
        refine (over_c 6 (r + 1) _).mono ?_
        rintro e w4 ⟨rfl, hb4⟩
        go_wp2
        go_ret
        exact ⟨rfl, ((hbr.trans (hb3.mono hzr)).alloc (by omega) _).trans (hb4.mono (by simp; omega))⟩
      · have B := hA (by omega)
        clear hA hB
        have h0 : wr.cell? ⟨w2.heap.size, 0, none⟩ = some (.int .i64 1) := B.cell 0
        have h1 : wr.cell? ⟨w2.heap.size, 1, none⟩ = some (.int .i64 i) := B.cell 1
        go_wp2_with fail
        refine (do_v 1 i 1 r 2 0 0 true _ tried_well (by rfl) (by decide) (by decide) (by omega)).mono ?_
        rintro e w3 ⟨rfl, hb3⟩
        have hz3 := hb3.size
        go_wp2
        go_ret
        exact ⟨rfl, (hbr.trans (hb3.mono hzr)).alloc (by omega) _⟩
theorem walk (v1 v2 : Value) (w : World) (h1 : Frame.Arg Try.prog w 5 v1) (h2 : Frame.Arg Try.prog w 5 v2) :
    Calls Try.prog 10 #[v1, v2] w fun e w' => e = .returned (.bool true) ∧ Below w.heap.size w w' := by
  obtain ⟨a, rfl, ha⟩ := h1.int Try.underlying5
  obtain ⟨b, rfl, hb⟩ := h2.int Try.underlying5
  exact core a b w (Frame.bd_u8 ha) (Frame.bd_u8 hb)
end Go.Proofs.Ytfcdmfiblmnbkaa.boxTries
