/- The walks of layer 13 (qos): counts. -/
import Derived.Test.YtgdbpjaebdlnjaaQosS
namespace Go.Proofs.Ytgdbpjaebdlnjaa
open Go.RowKit
namespace Qos
/-- how many pods are of a class -/
def cnt (k : Int) : List PodV → Int
  | [] => 0
  | p :: ps => (if cls p = k then 1 else 0) + cnt k ps
theorem cnt_app (k : Int) (ps qs : List PodV) : cnt k (ps ++ qs) = cnt k ps + cnt k qs := by
  induction ps with
  | nil => simp [cnt]
  | cons p ps ih => simp only [List.cons_append, cnt, ih]; omega
theorem cnt_bd (k : Int) (ps : List PodV) : 0 ≤ cnt k ps ∧ cnt k ps ≤ ps.length := by
  induction ps with
  | nil => simp [cnt]
  | cons p ps ih => simp only [cnt, List.length_cons]; split <;> omega
theorem cnt_all (ps : List PodV) : cnt 1 ps + cnt 2 ps + cnt 3 ps = ps.length := by
  induction ps with
  | nil => simp [cnt]
  | cons p ps ih =>
    simp only [cnt, List.length_cons]
    rcases cls_three p with h | h | h <;> simp [h] <;> omega
theorem cnt_snoc (k : Int) (ps : List PodV) (i : Nat) (h : i < ps.length) : cnt k (ps.take (i + 1)) = cnt k (ps.take i) + (if cls ps[i] = k then 1 else 0) := by
  rw [Mem.take_snoc _ _ h, cnt_app]; simp [cnt]
def CountSaid (ps : List PodV) (W : World) (e : Ending) (w' : World) : Prop := e = .returned (.agg #[.int .i64 0, .int .i64 (cnt 1 ps), .int .i64 (cnt 2 ps), .int .i64 (cnt 3 ps)]) ∧ Below W.heap.size W w'
set_option maxRecDepth 100000 in
set_option maxHeartbeats 2000000 in
theorem count_c (A : Option Addr) (n c : Nat) (ps : List PodV) (w : World) (h : Mem.Sl w w.heap.size 11 A n (PodV.flat ps)) (hn : n ≤ 9223372036854775806) :
    Calls Try.prog 23 #[.slice A n c] w (CountSaid ps w) := by
  have hlen : ps.length = n := by have := h.1; rw [PodV.flat_len] at this; omega
  go_enter Try.func23, Try.ntmps23
  go_wp2_with fail
  go_loopw [8] (fun vi wr => ∃ i : Nat, i ≤ n ∧ vi = .int .i64 i ∧ Below w.heap.size w wr ∧ w.heap.size + 2 ≤ wr.heap.size ∧ Mem.Blk wr w.heap.size 35 #[.int .i64 0, .int .i64 0, .int .i64 0, .int .i64 0] ∧ Mem.Blk wr (w.heap.size + 1) 35 #[.int .i64 0, .int .i64 (cnt 1 (ps.take i)), .int .i64 (cnt 2 (ps.take i)), .int .i64 (cnt 3 (ps.take i))]) (fun i _ => n - (intOf i).toNat)
  case atStart => exact ⟨0, by omega, rfl, ((Below.refl _ _).alloc (Nat.le_refl _) _).alloc (by simp) _, by simp, Mem.Blk.new.alloc, by have q := Mem.Blk.new (w := w.alloc (.cells #[.int .i64 0, .int .i64 0, .int .i64 0, .int .i64 0] 35)) (t := 35) (cs := #[.int .i64 0, .int .i64 0, .int .i64 0, .int .i64 0]); rw [World.size_alloc] at q; exact q⟩
  case round =>
    obtain ⟨i, hi, rfl, hbr, hz, hB0, hB1⟩ := hrel
    by_cases hlt : i < n
    · obtain ⟨ad, hl, rfl, _, hbk, hat⟩ := PodV.at_ (h.below hbr) hlt
      have hcl : Hid (∀ w, Calls Try.prog 16 #[.agg ps[i].arr] w (ClassSaid ps[i] w)) := fun w => class_c ps[i] w
      have hc3 := cls_three ps[i]
      have b1 := cnt_bd 1 (ps.take i)
      have b2 := cnt_bd 2 (ps.take i)
      have b3 := cnt_bd 3 (ps.take i)
      have hlt2 : ((ps.take i).length : Int) ≤ i := by simp; omega
      have S1 := Lib.hid (cnt_snoc 1 ps i hl)
      have S2 := Lib.hid (cnt_snoc 2 ps i hl)
      have S3 := Lib.hid (cnt_snoc 3 ps i hl)
      obtain ⟨y1, hy1⟩ : ∃ y, y = cnt 1 (ps.take (i + 1)) := ⟨_, rfl⟩
      obtain ⟨y2, hy2⟩ : ∃ y, y = cnt 2 (ps.take (i + 1)) := ⟨_, rfl⟩
      obtain ⟨y3, hy3⟩ : ∃ y, y = cnt 3 (ps.take (i + 1)) := ⟨_, rfl⟩
      rw [← hy1] at S1
      rw [← hy2] at S2
      rw [← hy3] at S3
      have Hy1 := Lib.hid hy1
      have Hy2 := Lib.hid hy2
      have Hy3 := Lib.hid hy3
      clear hy1 hy2 hy3
      unfold ClassSaid at hcl
      generalize ps[i] = p at *
      generalize cnt 1 (ps.take i) = x1 at *
      generalize cnt 2 (ps.take i) = x2 at *
      generalize cnt 3 (ps.take i) = x3 at *
      generalize cls p = cp at *
      obtain ⟨c0, c1, c2, c3, c4, c5, c6, c7, c8, c9, c10⟩ := hat
      obtain ⟨id, prio, crit, r0, r1, r2, l0, l1, l2, img, size⟩ := p
      unfold PodV.arr at hcl
      dsimp only at hcl c0 c1 c2 c3 c4 c5 c6 c7 c8 c9 c10
      go_wp2_with fail
      refine (hcl.out _).mono ?_
      rintro e w2 ⟨rfl, hb2⟩
      have L2 : Below w.heap.size w w2 := (hbr.alloc (by omega) _).trans (hb2.mono (by simp; omega))
      have z2 : w.heap.size + 2 ≤ w2.heap.size := by have := hb2.size; simp at this; omega
      have C0 : Mem.Blk w2 w.heap.size 35 #[.int .i64 0, .int .i64 0, .int .i64 0, .int .i64 0] := hB0.alloc.belowS hb2
      have C1 : Mem.Blk w2 (w.heap.size + 1) 35 #[.int .i64 0, .int .i64 x1, .int .i64 x2, .int .i64 x3] := hB1.alloc.belowS hb2
      have k1 : w2.cell? ⟨w.heap.size + 1, 1, none⟩ = some (.int .i64 x1) := C1.cell 1
      have k2 : w2.cell? ⟨w.heap.size + 1, 2, none⟩ = some (.int .i64 x2) := C1.cell 2
      have k3 : w2.cell? ⟨w.heap.size + 1, 3, none⟩ = some (.int .i64 x3) := C1.cell 3
      have kf := C1.frozen
      clear hb2 hB0 hB1 hbr hz c0 c1 c2 c3 c4 c5 c6 c7 c8 c9 c10 hcl
      rcases hc3 with rfl | rfl | rfl
      · go_wp2_with fail
        go_roundw
        case rel =>
          refine ⟨i + 1, by omega, by go_num, L2.setCell (by simp) _, by simpa using z2, C0.far (by simp), ?_⟩
          have q := C1.set_ 1 (.int .i64 (x1 + 1))
          rw [← Hy1.out, ← Hy2.out, ← Hy3.out, S1.out, S2.out, S3.out]
          simpa using q
        case measure => simp [intOf]; omega
      · go_wp2_with fail
        go_roundw
        case rel =>
          refine ⟨i + 1, by omega, by go_num, L2.setCell (by simp) _, by simpa using z2, C0.far (by simp), ?_⟩
          have q := C1.set_ 2 (.int .i64 (x2 + 1))
          rw [← Hy1.out, ← Hy2.out, ← Hy3.out, S1.out, S2.out, S3.out]
          simpa using q
        case measure => simp [intOf]; omega
      · go_wp2_with fail
        go_roundw
        case rel =>
          refine ⟨i + 1, by omega, by go_num, L2.setCell (by simp) _, by simpa using z2, C0.far (by simp), ?_⟩
          have q := C1.set_ 3 (.int .i64 (x3 + 1))
          rw [← Hy1.out, ← Hy2.out, ← Hy3.out, S1.out, S2.out, S3.out]
          simpa using q
        case measure => simp [intOf]; omega
    · obtain rfl : i = n := by omega
      rw [List.take_of_length_le (by omega)] at hB1
      have k0 : wr.cell? ⟨w.heap.size + 1, 0, none⟩ = some (.int .i64 0) := hB1.cell 0
      have k1 : wr.cell? ⟨w.heap.size + 1, 1, none⟩ = some (.int .i64 (cnt 1 ps)) := hB1.cell 1
      have k2 : wr.cell? ⟨w.heap.size + 1, 2, none⟩ = some (.int .i64 (cnt 2 ps)) := hB1.cell 2
      have k3 : wr.cell? ⟨w.heap.size + 1, 3, none⟩ = some (.int .i64 (cnt 3 ps)) := hB1.cell 3
      have j0 : wr.cell? ⟨w.heap.size, 0, none⟩ = some (.int .i64 0) := hB0.cell 0
      have j1 : wr.cell? ⟨w.heap.size, 1, none⟩ = some (.int .i64 0) := hB0.cell 1
      have j2 : wr.cell? ⟨w.heap.size, 2, none⟩ = some (.int .i64 0) := hB0.cell 2
      have j3 : wr.cell? ⟨w.heap.size, 3, none⟩ = some (.int .i64 0) := hB0.cell 3
      have jf := hB0.frozen
      go_wp2_with fail
      refine bodyPost_ret (v := .agg #[.int .i64 0, .int .i64 (cnt 1 ps), .int .i64 (cnt 2 ps), .int .i64 (cnt 3 ps)]) (by simp [*, results, Try.results23, go_sem]) rfl ⟨rfl, (((hbr.setCell (by simp) _).setCell (by simp) _).setCell (by simp) _).setCell (by simp) _⟩
end Qos
end Go.Proofs.Ytgdbpjaebdlnjaa
