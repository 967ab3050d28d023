/- QosCounts: the walk. -/
import Derived.Test.YtgdbpjaebdlnjaaQosClasses
namespace Go.Proofs.Ytgdbpjaebdlnjaa
open Go.RowKit
namespace qosCounts
open Qos
def podZ : Value := .agg #[.string ⟨#[]⟩, .int .i64 0, .bool false, .int .i64 0, .int .i64 0, .int .i64 0, .int .i64 0, .int .i64 0, .int .i64 0, .string ⟨#[]⟩, .int .i64 0]
theorem elp : Mem.El Try.prog 33 24 podZ 11 104 := ⟨Try.underlying33, by kernel_rfl, by decide, by decide⟩
theorem flat_one (ps : List PodV) : ∀ u ∈ PodV.flat ps, u.oneCell' = true := by
  intro u hu
  unfold PodV.flat at hu
  obtain ⟨l, hl, hul⟩ := List.mem_flatten.1 hu
  obtain ⟨p, _, rfl⟩ := List.mem_map.1 hl
  simp only [PodV.cells, List.mem_cons, List.not_mem_nil, or_false] at hul
  rcases hul with rfl | rfl | rfl | rfl | rfl | rfl | rfl | rfl | rfl | rfl | rfl <;> rfl
theorem eq4in (a0 a1 a2 a3 b0 b1 b2 b3 : Int) (w : World) :
    (Op.equalIn 10000 35 (.agg #[.int .i64 a0, .int .i64 a1, .int .i64 a2, .int .i64 a3]) (.agg #[.int .i64 b0, .int .i64 b1, .int .i64 b2, .int .i64 b3])).run Try.prog w = .ok (a0 == b0 && (a1 == b1 && (a2 == b2 && a3 == b3))) w := run_eq4 9998 a0 a1 a2 a3 b0 b1 b2 b3 w
set_option maxRecDepth 100000 in
set_option maxHeartbeats 4000000 in
theorem core (A : Option Addr) (n c : Nat) (ps : List PodV) (w : World) (h : Mem.Sl w w.heap.size 11 A n (PodV.flat ps)) (hok : ∀ p ∈ ps, p.ok) (hn : n ≤ 9223372036854775807) :
    Calls Try.prog 6 #[.slice A n c] w fun e w' => e = .returned (.bool true) ∧ Below w.heap.size w w' := by
  have hlen : ps.length = n := by have := h.1; rw [PodV.flat_len] at this; omega
  have he4 := eq4in
  have he3 := eq3in
  have Hall := Lib.hid (cnt_all ps)
  have Hok := Lib.hid hok
  clear hok
  go_enter Try.func6, Try.ntmps6
  go_wp2_with fail
  refine (qawake_c _).mono ?_
  rintro e w1 ⟨rfl, hb1⟩
  go_wp2_with fail
  refine (few_c A n c ps _ ((h.below hb1).more hb1.size) Hok.out (by omega)).mono ?_
  rintro e w2 ⟨b, rfl, hfew, hb2⟩
  have L2 : Below w.heap.size w w2 := hb1.trans (hb2.mono hb1.size)
  clear hb1 hb2
  cases b with
  | false =>
    clear hfew
    go_wp2_with fail
    refine (qawake_c _).mono ?_
    rintro e w3 ⟨rfl, hb3⟩
    go_wp2_with fail
    go_ret
    exact ⟨rfl, L2.trans (hb3.mono L2.size)⟩
  | true =>
    have h100 := hfew rfl
    clear hfew
    obtain ⟨g, hg⟩ : ∃ g, g = w2.heap.size := ⟨_, rfl⟩
    have zg := L2.size
    go_wp2_with fail
    rw [← hg]
    go_loopw [4] (fun vi wr => ∃ i : Nat, i ≤ n ∧ vi = .int .i64 i ∧ Below w.heap.size w wr ∧ g + 1 ≤ wr.heap.size ∧ Mem.Blk wr g 35 #[.int .i64 0, .int .i64 (cnt 1 (ps.take i)), .int .i64 (cnt 2 (ps.take i)), .int .i64 (cnt 3 (ps.take i))]) (fun i _ => n - (intOf i).toNat)
    case atStart => exact ⟨0, by omega, rfl, L2.alloc zg _, by simp; omega, by rw [hg]; exact Mem.Blk.new⟩
    case round =>
      clear L2
      obtain ⟨i, hi, rfl, hbr, hz, hB⟩ := hrel
      rw [← hg] at zg
      clear hg
      by_cases hlt : i < n
      · obtain ⟨ad, hl, rfl, _, hbk, hat⟩ := PodV.at_ (h.below hbr) hlt
        have hri : Hid (∀ w, Calls Try.prog 15 #[.agg ps[i].arr] w (RightSaid ps[i] w)) := fun w => right_c ps[i] w (Hok.out _ (List.getElem_mem hl))
        have hcl : Hid (RightF ps[i] → ∀ w, Calls Try.prog 18 #[.agg ps[i].arr] w (ClassSaid ps[i] w)) := fun hf w => rclass_c ps[i] w hf
        have hc3 := cls_three ps[i]
        have S1 := Lib.hid (cnt_snoc 1 ps i hl)
        have S2 := Lib.hid (cnt_snoc 2 ps i hl)
        have S3 := Lib.hid (cnt_snoc 3 ps i hl)
        obtain ⟨y1, hy1⟩ : ∃ y, y = cnt 1 (ps.take (i + 1)) := ⟨_, rfl⟩
        obtain ⟨y2, hy2⟩ : ∃ y, y = cnt 2 (ps.take (i + 1)) := ⟨_, rfl⟩
        obtain ⟨y3, hy3⟩ : ∃ y, y = cnt 3 (ps.take (i + 1)) := ⟨_, rfl⟩
        rw [← hy1] at S1
        rw [← hy2] at S2
        rw [← hy3] at S3
        have Hy1 := Lib.hid hy1
        have Hy2 := Lib.hid hy2
        have Hy3 := Lib.hid hy3
        clear hy1 hy2 hy3
        have b1 := cnt_bd 1 (ps.take i)
        have b2 := cnt_bd 2 (ps.take i)
        have b3 := cnt_bd 3 (ps.take i)
        have hlt2 : ((ps.take i).length : Int) ≤ i := by simp; omega
        unfold ClassSaid at hcl
        unfold RightSaid at hri
        obtain ⟨F, hF⟩ : ∃ F : Prop, F = RightF ps[i] := ⟨_, rfl⟩
        rw [← hF] at hri hcl
        clear hF
        generalize ps[i] = p at *
        generalize cnt 1 (ps.take i) = x1 at *
        generalize cnt 2 (ps.take i) = x2 at *
        generalize cnt 3 (ps.take i) = x3 at *
        generalize cls p = cp at *
        obtain ⟨id, prio, crit, r0, r1, r2, l0, l1, l2, img, size⟩ := p
        unfold PodV.arr at hcl hri
        dsimp only at hcl hri
        have At1 : PodV.At wr (ad.add (i * 11)) ⟨id, prio, crit, r0, r1, r2, l0, l1, l2, img, size⟩ := hat
        obtain ⟨c0, c1, c2, c3, c4, c5, c6, c7, c8, c9, c10⟩ := hat
        dsimp only at c0 c1 c2 c3 c4 c5 c6 c7 c8 c9 c10
        go_wp2_with fail
        refine (hri.out _).mono ?_
        rintro e w3 ⟨b, rfl, hfb, hb3⟩
        have L3 : Below w.heap.size w w3 := hbr.trans (hb3.mono hbr.size)
        have z3 : g + 1 ≤ w3.heap.size := Nat.le_trans hz hb3.size
        have C3 : Mem.Blk w3 g 35 #[.int .i64 0, .int .i64 x1, .int .i64 x2, .int .i64 x3] := hB.belowS hb3
        have At3 := PodV.At.below At1 hb3 (by have := hbr.size; omega)
        clear hb3 hB hbr hz c0 c1 c2 c3 c4 c5 c6 c7 c8 c9 c10 hri At1
        cases b with
        | false =>
          clear hfb
          go_wp2_with fail
          go_ret
          exact ⟨rfl, L3⟩
        | true =>
          have HF := Lib.hid (hfb rfl)
          clear hfb
          obtain ⟨c0, c1, c2, c3, c4, c5, c6, c7, c8, c9, c10⟩ := At3
          dsimp only at c0 c1 c2 c3 c4 c5 c6 c7 c8 c9 c10
          go_wp2_with fail
          refine (hcl.out HF.out _).mono ?_
          rintro e w4 ⟨rfl, hb4⟩
          have L4 : Below w.heap.size w w4 := L3.trans (hb4.mono L3.size)
          have z4 : g + 1 ≤ w4.heap.size := Nat.le_trans z3 hb4.size
          have C1 : Mem.Blk w4 g 35 #[.int .i64 0, .int .i64 x1, .int .i64 x2, .int .i64 x3] := C3.belowS hb4
          have k1 : w4.cell? ⟨g, 1, none⟩ = some (.int .i64 x1) := C1.cell 1
          have k2 : w4.cell? ⟨g, 2, none⟩ = some (.int .i64 x2) := C1.cell 2
          have k3 : w4.cell? ⟨g, 3, none⟩ = some (.int .i64 x3) := C1.cell 3
          have kf := C1.frozen
          clear hb4 C3 L3 c0 c1 c2 c3 c4 c5 c6 c7 c8 c9 c10 hcl
          rcases hc3 with rfl | rfl | rfl
          · go_wp2_with fail
            go_roundw
            case rel =>
              refine ⟨i + 1, by omega, by go_num, L4.setCell (by simp; omega) _, by simpa using z4, ?_⟩
              have q := C1.set_ 1 (.int .i64 (x1 + 1))
              rw [← Hy1.out, ← Hy2.out, ← Hy3.out, S1.out, S2.out, S3.out]
              simpa using q
            case measure => simp [intOf]; omega
          · go_wp2_with fail
            go_roundw
            case rel =>
              refine ⟨i + 1, by omega, by go_num, L4.setCell (by simp; omega) _, by simpa using z4, ?_⟩
              have q := C1.set_ 2 (.int .i64 (x2 + 1))
              rw [← Hy1.out, ← Hy2.out, ← Hy3.out, S1.out, S2.out, S3.out]
              simpa using q
            case measure => simp [intOf]; omega
          · go_wp2_with fail
            go_roundw
            case rel =>
              refine ⟨i + 1, by omega, by go_num, L4.setCell (by simp; omega) _, by simpa using z4, ?_⟩
              have q := C1.set_ 3 (.int .i64 (x3 + 1))
              rw [← Hy1.out, ← Hy2.out, ← Hy3.out, S1.out, S2.out, S3.out]
              simpa using q
            case measure => simp [intOf]; omega
      · obtain rfl : i = n := by omega
        rw [List.take_of_length_le (by omega)] at hB
        have zr := hbr.size
        have hown0 := Mem.own_lit (w := wr) (base := wr.heap.size) (n := 0) (size := 11) (e := 24) (cs := #[]) (xs := []) rfl (by omega) (by simp) rfl rfl
        go_wp2_with (at_builtin; refine Mem.wpList_app rfl rfl elp (base := wr.heap.size) hown0 rfl rfl (Mem.Sl.alloc (h.below hbr) zr _) (flat_one _) (N := i) (ys := PodV.flat ps) (by omega) (by simp) (by unfold maxLen; omega) (by omega) (by simp) ?_; intro A2 c2 w3 O2 hg2 hat2)
        have L3' : Below wr.heap.size wr w3 := ((Below.refl _ _).alloc (Nat.le_refl _) _).grown hg2 (by simp) (fun k hk => (hown0.lt k hk).1)
        have L3 : Below w.heap.size w w3 := hbr.trans (L3'.mono zr)
        have z3 : g + 1 ≤ w3.heap.size := Nat.le_trans hz L3'.size
        have B3 := hB.belowS L3'
        have S3 : Mem.Sl w3 w3.heap.size 11 A2 i (PodV.flat ps) := by
          obtain ⟨A', c', e1, e2, _⟩ := Mem.own_form O2
          obtain ⟨rfl, _, rfl⟩ : A2 = A' ∧ i = i ∧ c2 = c' := by simpa using e1
          exact e2
        clear hown0 hg2 hat2 L3' hB hbr hz zr O2
        go_wp2_with fail
        refine (count_c A i c ps _ ((h.below L3).more L3.size) (by omega)).mono ?_
        rintro e w4 ⟨rfl, hb4⟩
        have L4 : Below w.heap.size w w4 := L3.trans (hb4.mono L3.size)
        have z4 : g + 1 ≤ w4.heap.size := Nat.le_trans z3 hb4.size
        have B4 := B3.belowS hb4
        have S4 : Mem.Sl w4 w3.heap.size 11 A2 i (PodV.flat ps) := S3.below hb4
        have z34 := hb4.size
        clear hb4 L3 B3 S3
        obtain ⟨g2, hg2⟩ : ∃ g2, g2 = w4.heap.size := ⟨_, rfl⟩
        go_wp2_with fail
        rw [← hg2]
        go_loopw [7] (fun vi wr2 => ∃ j : Nat, j ≤ i ∧ vi = .int .i64 j ∧ Below w4.heap.size w4 wr2 ∧ Mem.Blk wr2 g2 35 #[.int .i64 0, .int .i64 (cnt 1 ps), .int .i64 (cnt 2 ps), .int .i64 (cnt 3 ps)]) (fun j _ => i - (intOf j).toNat)
        case atStart => exact ⟨0, by omega, rfl, (Below.refl _ _).alloc (Nat.le_refl _) _, by rw [hg2]; exact Mem.Blk.new⟩
        case round =>
          obtain ⟨j, hj, rfl, hbr, hB2⟩ := hrel
          clear hg2
          have L5 : Below w.heap.size w wr := L4.trans (hbr.mono L4.size)
          by_cases hjt : j < i
          · obtain ⟨ad, hl, rfl, _, hbk, hat⟩ := PodV.at_ (h.below L5) hjt
            obtain ⟨ad2, _, rfl, _, hbk2, hat2⟩ := PodV.at_ (S4.below (hbr.mono z34)) hjt
            generalize ps[j] = p at *
            obtain ⟨id, prio, crit, r0, r1, r2, l0, l1, l2, img, size⟩ := p
            go_wp2_with fail
            refine Reg.start (S := (fun w' => PodV.At w' (ad.add (j * 11)) ⟨id, prio, crit, r0, r1, r2, l0, l1, l2, img, size⟩ ∧ PodV.At w' (ad2.add (j * 11)) ⟨id, prio, crit, r0, r1, r2, l0, l1, l2, img, size⟩)) (by kernel_rfl) ?_
            refine Reg.takes (n := 0) (by kernel_rfl) (fun _ _ d _ _ h => by cases d <;> exact h) ⟨hat.drew, hat2.drew⟩ [0, 1, 2, 3, 4, 5, 6, 7, 8] _ _ (by kernel_rfl) ?_
            iterate 9 (refine Reg.det_step rfl (fun K' hK' => ?_); go_simp; (first | (refine hK' _ ?_; clear hK' K') | (apply Exists.intro; refine ⟨fun wx hwx => ?_, hK' _ ?_⟩; (first | rfl | (have hA := hwx; intro hB; have c0 := PodV.At.c0 hA; have c1 := PodV.At.c1 hA; have c2 := PodV.At.c2 hA; have c3 := PodV.At.c3 hA; have c4 := PodV.At.c4 hA; have c5 := PodV.At.c5 hA; have c6 := PodV.At.c6 hA; have c7 := PodV.At.c7 hA; have c8 := PodV.At.c8 hA; have c9 := PodV.At.c9 hA; have c10 := PodV.At.c10 hA; have d0 := PodV.At.c0 hB; have d1 := PodV.At.c1 hB; have d2 := PodV.At.c2 hB; have d3 := PodV.At.c3 hB; have d4 := PodV.At.c4 hB; have d5 := PodV.At.c5 hB; have d6 := PodV.At.c6 hB; have d7 := PodV.At.c7 hB; have d8 := PodV.At.c8 hB; have d9 := PodV.At.c9 hB; have d10 := PodV.At.c10 hB;  dsimp only at c0 c1 c2 c3 c4 c5 c6 c7 c8 c9 c10 d0 d1 d2 d3 d4 d5 d6 d7 d8 d9 d10; go_simp; first | done | rfl)); clear hK' K')))
            refine Reg.det_nil ?_
            refine wpAnyH_done (by kernel_rfl) ?_ _
            go_wp2_with fail
            go_roundw
            case rel => exact ⟨j + 1, by omega, by go_num, hbr.drew, hB2⟩
            case measure => simp [intOf]; omega
          · obtain rfl : j = i := by omega
            have B5 := B4.belowS hbr
            have k0 : wr.cell? ⟨g, 0, none⟩ = some (.int .i64 0) := B5.cell 0
            have k1 : wr.cell? ⟨g, 1, none⟩ = some (.int .i64 (cnt 1 ps)) := B5.cell 1
            have k2 : wr.cell? ⟨g, 2, none⟩ = some (.int .i64 (cnt 2 ps)) := B5.cell 2
            have k3 : wr.cell? ⟨g, 3, none⟩ = some (.int .i64 (cnt 3 ps)) := B5.cell 3
            have j0 : wr.cell? ⟨g2, 0, none⟩ = some (.int .i64 0) := hB2.cell 0
            have j1 : wr.cell? ⟨g2, 1, none⟩ = some (.int .i64 (cnt 1 ps)) := hB2.cell 1
            have j2 : wr.cell? ⟨g2, 2, none⟩ = some (.int .i64 (cnt 2 ps)) := hB2.cell 2
            have j3 : wr.cell? ⟨g2, 3, none⟩ = some (.int .i64 (cnt 3 ps)) := hB2.cell 3
            have b1 := cnt_bd 1 ps
            have b2 := cnt_bd 2 ps
            have b3 := cnt_bd 3 ps
            have hs : (cnt 1 ps + cnt 2 ps + cnt 3 ps == (j : Int)) = true := by
              have := Hall.out
              simp; omega
            generalize cnt 1 ps = x1 at *
            generalize cnt 2 ps = x2 at *
            generalize cnt 3 ps = x3 at *
            go_wp2_with fail
            go_ret
            exact ⟨rfl, L5⟩
theorem walk (v1 : Value) (w : World) (h1 : Frame.Arg Try.prog w 33 v1) :
    Calls Try.prog 6 #[v1] w fun e w' => e = .returned (.bool true) ∧ Below w.heap.size w w' := by
  obtain ⟨A, n, c, ps, rfl, hc, hm, hl, hok, hs⟩ := PodV.of_slice h1
  unfold maxLen at hm
  exact core A n c ps w hs hok (by omega)
end qosCounts
end Go.Proofs.Ytgdbpjaebdlnjaa
