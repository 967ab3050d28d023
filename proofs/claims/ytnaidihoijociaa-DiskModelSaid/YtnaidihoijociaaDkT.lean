/- The document's layer 10: put, the walk. -/
import Derived.Test.YtnaidihoijociaaDkS
namespace Go.Proofs.Ytnaidihoijociaa
open Go.RowKit Go.Maps
namespace Dk
open Bs
open Crc (Byte)
def atF (s : ByteArray) (r : List FlV) : Nat := (r.takeWhile (ltF s)).length
def putV (l : List FlV) (f : FlV) : List FlV := (l.filter (neF f.name)).take (atF f.name (l.filter (neF f.name))) ++ f :: (l.filter (neF f.name)).drop (atF f.name (l.filter (neF f.name)))
theorem atF_at {s : ByteArray} : ∀ {r : List FlV} {k : Nat} (hk : k < r.length) (h1 : ∀ (j : Nat) (hj : j < r.length), j < k → ltF s r[j] = true) (h2 : ltF s r[k] = false), atF s r = k
  | [], _, hk, _, _ => by simp at hk
  | x :: r, 0, hk, _, h2 => by
    have : ltF s x = false := h2
    simp [atF, this]
  | x :: r, k + 1, hk, h1, h2 => by
    have h0 : ltF s x = true := h1 0 (by simp) (by omega)
    have := atF_at (s := s) (r := r) (k := k) (by simpa using hk) (fun j hj hjk => h1 (j + 1) (by simpa using hj) (by omega)) h2
    unfold atF at this ⊢
    rw [List.takeWhile_cons, h0, if_pos rfl, List.length_cons, this]
theorem atF_all {s : ByteArray} {r : List FlV} (h : ∀ p ∈ r, ltF s p = true) : atF s r = r.length := by
  unfold atF
  induction r with
  | nil => rfl
  | cons x r ih => rw [List.takeWhile_cons, h x (by simp), if_pos rfl, List.length_cons, ih (fun p hp => h p (by simp [hp])), List.length_cons]
set_option maxRecDepth 100000 in
set_option maxHeartbeats 4000000 in
theorem put_c (A : Option Addr) (n c : Nat) (l : List FlV) (f : FlV) (w : World) (h : Mem.Sl w w.heap.size 2 A n (FlV.flat l)) (hlen : l.length = n) (hn : n ≤ 10000) :
    Calls Try.prog 57 #[.slice A n c, .agg f.arr] w (NewF (putV l f) w) := by
  unfold putV
  obtain ⟨t, bs, bA, bn, bc⟩ := f
  have hb0 : Below w.heap.size w (w.alloc (.cells #[.string t, .slice bA bn bc] 88)) := (Below.refl _ _).alloc (Nat.le_refl _) _
  have HW := Lib.hid (without_c A n c l t _ (h.below hb0 |>.more hb0.size) hlen hn)
  have hlf : (l.filter (neF t)).length ≤ 10000 := by have := List.length_filter_le (neF t) l; omega
  have HS0 := Lib.hid hb0
  clear h hlen hb0
  dsimp only
  unfold FlV.arr
  dsimp only
  go_enter Try.func57, Try.ntmps57
  go_wp2_with fail
  refine HW.out.mono ?_
  rintro e w1 ⟨A1, c1, rfl, hB⟩
  generalize l.filter (neF t) = r at *
  have N1 : Mem.Blk w1 w.heap.size 88 #[.string t, .slice bA bn bc] := Mem.Blk.belowS Mem.Blk.new hB.below
  have HN := Lib.hid N1
  have HB := Lib.hid hB
  generalize hL : r.length = m at *
  have HL := Lib.hid hL
  clear HW hB hL N1
  go_wp2_with fail
  go_loopw [5] (fun vi wr => ∃ k : Nat, k ≤ m ∧ vi = .int .i64 k ∧ Hid (Below w1.heap.size w1 wr) ∧ Hid (∀ (j : Nat) (hj : j < r.length), j < k → ltF t r[j] = true)) (fun i _ => m - (intOf i).toNat)
  case atStart => exact ⟨0, by omega, rfl, Below.refl _ _, fun j hj c => absurd c (by omega)⟩
  case round =>
    obtain ⟨k, hk, rfl, HR, HLT⟩ := hrel
    have N2 : Mem.Blk wr w.heap.size 88 #[.string t, .slice bA bn bc] := Mem.Blk.belowS HN.out HR.out
    obtain ⟨x0, x1⟩ := And.intro (N2.cell 0) (N2.cell 1)
    have HN2 := Lib.hid N2
    clear N2
    by_cases hlt : k < m
    · obtain ⟨ad, hl, rfl, hlb, hlb2, hat⟩ := FlV.at_ (HB.out.row.sl.below HR.out) hlt
      have hlb3 : (ad.add (k * 2)).block < wr.heap.size := Nat.lt_of_lt_of_le hlb2 HR.out.size
      have HAt := Lib.hid hat
      clear hat
      cases hx : ltF t r[k] with
      | true =>
        have hY : Hid (∀ (j : Nat) (hj : j < r.length), j < k + 1 → ltF t r[j] = true) := Lib.hid fun j hj hjk => by
          rcases Nat.lt_succ_iff_lt_or_eq.1 hjk with h | h
          · exact HLT.out j hj h
          · subst h; exact hx
        unfold ltF at hx
        generalize r[k] = p at *
        clear hl hlb hlb2 x0 x1
        go_wp2_with fail
        obtain ⟨Y2, rfl⟩ : ∃ x, x = wr := ⟨_, rfl⟩
        refine Reg.start (S := fun w' => Below Y2.heap.size Y2 w') (by kernel_rfl) ?_
        refine Reg.takes (n := 0) (by kernel_rfl) (fun _ _ d _ _ h => by cases d <;> exact h) (Below.refl _ _).drew [0, 1, 2, 3, 4, 5, 6, 7, 8, 9, 10, 11, 12, 13] _ _ (by kernel_rfl) ?_
        iterate 14 (refine Reg.det_step rfl (fun K' hK' => ?_); go_simp; (first | (refine hK' _ ?_; clear hK' K') | (apply Exists.intro; refine ⟨fun wx hwx => ?_, hK' _ ?_⟩; (first | rfl | (obtain ⟨c0, c1'⟩ := HAt.out.below hwx hlb3; have x0 := Mem.Blk.cell (Mem.Blk.belowS HN2.out hwx) 0; go_simp; first | done | rfl)); clear hK' K')))
        refine Reg.det_nil ?_
        refine wpAnyH_done (by kernel_rfl) ?_ _
        clear hx
        go_wp2_with fail
        go_roundw
        case rel => exact ⟨k + 1, by omega, by go_num, HR.out.drew, hY⟩
        case measure => simp [intOf]; omega
      | false =>
        have hat : Hid (atF t r = k) := Lib.hid (atF_at hl HLT.out hx)
        unfold ltF at hx
        generalize r[k] = p at *
        clear hl hlb hlb2 x0 x1
        go_wp2_with fail
        obtain ⟨Y2, rfl⟩ : ∃ x, x = wr := ⟨_, rfl⟩
        refine Reg.start (S := fun w' => Below Y2.heap.size Y2 w') (by kernel_rfl) ?_
        refine Reg.takes (n := 0) (by kernel_rfl) (fun _ _ d _ _ h => by cases d <;> exact h) (Below.refl _ _).drew [0, 1, 2, 3, 4, 5, 6, 7, 8, 9, 10, 11, 12, 13] _ _ (by kernel_rfl) ?_
        iterate 14 (refine Reg.det_step rfl (fun K' hK' => ?_); go_simp; (first | (refine hK' _ ?_; clear hK' K') | (apply Exists.intro; refine ⟨fun wx hwx => ?_, hK' _ ?_⟩; (first | rfl | (obtain ⟨c0, c1'⟩ := HAt.out.below hwx hlb3; have x0 := Mem.Blk.cell (Mem.Blk.belowS HN2.out hwx) 0; go_simp; first | done | rfl)); clear hK' K')))
        refine Reg.det_nil ?_
        refine wpAnyH_done (by kernel_rfl) ?_ _
        clear hx
        go_wp2_with fail
        obtain ⟨g, off, hg⟩ := HB.out.row.some_of (by have := HB.out.row.le.1; omega)
        cases hg
        have hle := HB.out.row.le
        obtain ⟨Y, hY9⟩ : ∃ x, x = Y2.drew := ⟨_, rfl⟩
        have HY : Hid (Below w1.heap.size w1 Y) := Lib.hid (by rw [hY9]; exact HR.out.drew)
        have HNY : Hid (Mem.Blk Y w.heap.size 88 #[.string t, .slice bA bn bc]) := Lib.hid (by rw [hY9]; exact HN2.out.drew)
        rw [← hY9]
        clear hY9
        have rowY := HB.out.row.keep (fun b hb => HY.out.block b (HB.out.row.lt hb))
        have hkc : k ≤ c1 := by omega
        have q1 := (rowY.cut k (by omega)).sl
        have q3 := (rowY.from_ k (by omega)).sl
        rw [FlV.flat_take] at q1
        rw [FlV.flat_drop] at q3
        have o1 := FlV.flat_one (r.take k)
        have o3 := FlV.flat_one (r.drop k)
        have HFin : Hid (∀ X B d, Bld Y X 88 2 B (k + 1 + (m - k)) d (FlV.flat (r.take k) ++ FlV.cells ⟨t, bs, bA, bn, bc⟩ ++ FlV.flat (r.drop k)) → NewF (r.take (atF t r) ++ ⟨t, bs, bA, bn, bc⟩ :: r.drop (atF t r)) w (.returned (.slice B (k + 1 + (m - k)) d)) X) := Lib.hid fun X B d hb => by
          have hlen : (r.take k ++ (⟨t, bs, bA, bn, bc⟩ : FlV) :: r.drop k).length = k + 1 + (m - k) := by have := HL.out; simp; omega
          rw [hat.out]
          unfold NewF
          rw [hlen]
          have z1 := HS0.out.size
          have z2 := HB.out.below.size
          have z3 := HY.out.size
          refine ⟨B, d, rfl, ((HS0.out.trans (HB.out.below.mono z1)).trans (HY.out.mono (by omega))).trans (hb.below.mono (by omega)), ?_, fun b e => by have := hb.fresh b e; omega⟩
          rw [FlV.flat_app, FlV.flat_cons, ← List.append_assoc]
          exact hb.row
        have hY1 : Below Y.heap.size Y Y.drew := (Below.refl _ _).drew
        refine Reg.start (S := fun w' => Below Y.heap.size Y w') (by kernel_rfl) ?_
        refine Reg.takes (n := 6) (by kernel_rfl) (fun _ _ d _ _ h => by cases d <;> exact h) hY1 [1, 2, 3, 5, 8, 9, 10] _ _ (by kernel_rfl) ?_
        iterate 7 (refine Reg.det_step rfl (fun K' hK' => ?_); go_simp; (first | (refine hK' _ ?_; clear hK' K') | (apply Exists.intro; refine ⟨fun wx hwx => ?_, hK' _ ?_⟩; (first | rfl | (obtain ⟨x0, x1⟩ := And.intro (Mem.Blk.cell (Mem.Blk.belowS HNY.out hwx) 0) (Mem.Blk.cell (Mem.Blk.belowS HNY.out hwx) 1); go_simp; first | done | rfl)); clear hK' K')))
        refine Reg.det_nil ?_
        have e0 : Bld Y (Y.drew.alloc (.cells #[] 88)) 88 2 (some ⟨Y.heap.size, 0, none⟩) 0 0 [] := Bld.empty hY1
        have S0 := e0.below
        refine Reg.two (i := 0) (j := 6) (n := 5) (by kernel_rfl) ?_ ?_
        · refine Reg.val rfl rfl (v := .slice (some ⟨Y.heap.size, 0, none⟩) 0 0) (w' := Y.drew.alloc (.cells #[] 88)) (by go_simp) S0 ?_
          refine Reg.two (i := 4) (j := 6) (n := 4) (by kernel_rfl) ?_ ?_
          · obtain ⟨B1, d1, X1, B2, d2, X2, B3, d3, X3, r1, s1, r2, s2, r3, b3⟩ := put_runs2 (c1 := c1) (c3 := c1 - k) (f := ⟨t, bs, bA, bn, bc⟩) e0 q1 q3 o1 o3 (by omega) (by omega)
            refine Reg.val rfl rfl (v := .slice B1 k d1) (w' := X1) (exec_app rfl (by go_simp) (by go_simp) r1) s1 ?_
            refine Reg.one (i := 6) (n := 3) (by kernel_rfl) ?_
            refine Reg.val rfl rfl (v := .slice (some ⟨X1.heap.size, 0, none⟩) 1 1) (w' := X1.alloc (.cells #[.string t, .slice bA bn bc] 88)) (by go_simp) (s1.alloc s1.size _) ?_
            refine Reg.one (i := 7) (n := 2) (by kernel_rfl) ?_
            refine Reg.val rfl rfl (v := .slice B2 (k + 1) d2) (w' := X2) (exec_app rfl (by go_simp) (by go_simp) r2) s2 ?_
            refine Reg.one (i := 11) (n := 1) (by kernel_rfl) ?_
            refine Reg.val rfl rfl (v := .slice B3 (k + 1 + (m - k)) d3) (w' := X3) (exec_app rfl (by go_simp) (by go_simp) r3) b3.below ?_
            refine Reg.takes (n := 0) (by kernel_rfl) (fun _ _ d _ _ h => by cases d <;> exact h) b3.below [12] _ _ (by kernel_rfl) ?_
            iterate 1 (refine Reg.det_step rfl (fun K' hK' => ?_); go_simp; (first | (refine hK' _ ?_; clear hK' K') | (apply Exists.intro; refine ⟨fun wx hwx => ?_, hK' _ ?_⟩; (first | rfl | (go_simp; first | done | rfl)); clear hK' K')))
            refine Reg.det_nil ?_
            refine wpAnyH_done (by kernel_rfl) ?_ _
            have HE := Lib.hid (HFin.out _ _ _ b3)
            clear r1 r2 r3 s1 s2 b3 q1 q3 o1 o3 HFin
            go_wp2_with fail
            all_goals (go_ret; first | exact HE.out | (have h9 := HE.out; rw [Nat.sub_self] at h9; exact h9))
          · have e1 := e0.free ((Below.refl _ _).alloc (Nat.le_refl _) (.cells #[.string t, .slice bA bn bc] 88))
            obtain ⟨B1, d1, X1, B2, d2, X2, B3, d3, X3, r1, s1, r2, s2, r3, b3⟩ := put_runs (c1 := c1) (c3 := c1 - k) (f := ⟨t, bs, bA, bn, bc⟩) (fb := Y.heap.size + 1) e1 (by have := Mem.Blk.new (w := Y.drew.alloc (.cells #[] 88)) (t := 88) (cs := #[.string t, .slice bA bn bc]); show Mem.Blk _ _ _ #[.string t, .slice bA bn bc]; simpa using this) (by omega) (by omega) q1 q3 o1 o3 (by omega) (by omega)
            refine Reg.val rfl rfl (v := .slice (some ⟨Y.heap.size + 1, 0, none⟩) 1 1) (w' := (Y.drew.alloc (.cells #[] 88)).alloc (.cells #[.string t, .slice bA bn bc] 88)) (by go_simp) e1.below ?_
            refine Reg.one (i := 4) (n := 3) (by kernel_rfl) ?_
            refine Reg.val rfl rfl (v := .slice B1 k d1) (w' := X1) (exec_app rfl (by go_simp) (by go_simp) r1) s1 ?_
            refine Reg.one (i := 7) (n := 2) (by kernel_rfl) ?_
            refine Reg.val rfl rfl (v := .slice B2 (k + 1) d2) (w' := X2) (exec_app rfl (by go_simp) (by go_simp) r2) s2 ?_
            refine Reg.one (i := 11) (n := 1) (by kernel_rfl) ?_
            refine Reg.val rfl rfl (v := .slice B3 (k + 1 + (m - k)) d3) (w' := X3) (exec_app rfl (by go_simp) (by go_simp) r3) b3.below ?_
            refine Reg.takes (n := 0) (by kernel_rfl) (fun _ _ d _ _ h => by cases d <;> exact h) b3.below [12] _ _ (by kernel_rfl) ?_
            iterate 1 (refine Reg.det_step rfl (fun K' hK' => ?_); go_simp; (first | (refine hK' _ ?_; clear hK' K') | (apply Exists.intro; refine ⟨fun wx hwx => ?_, hK' _ ?_⟩; (first | rfl | (go_simp; first | done | rfl)); clear hK' K')))
            refine Reg.det_nil ?_
            refine wpAnyH_done (by kernel_rfl) ?_ _
            have HE := Lib.hid (HFin.out _ _ _ b3)
            clear r1 r2 r3 s1 s2 b3 q1 q3 o1 o3 HFin
            go_wp2_with fail
            all_goals (go_ret; first | exact HE.out | (have h9 := HE.out; rw [Nat.sub_self] at h9; exact h9))
        · have S6 : Below Y.heap.size Y (Y.drew.alloc (.cells #[.string t, .slice bA bn bc] 88)) := hY1.alloc (Nat.le_refl _) _
          refine Reg.val rfl rfl (v := .slice (some ⟨Y.heap.size, 0, none⟩) 1 1) (w' := Y.drew.alloc (.cells #[.string t, .slice bA bn bc] 88)) (by go_simp) S6 ?_
          refine Reg.one (i := 0) (n := 4) (by kernel_rfl) ?_
          have e1 : Bld Y ((Y.drew.alloc (.cells #[.string t, .slice bA bn bc] 88)).alloc (.cells #[] 88)) 88 2 (some ⟨Y.heap.size + 1, 0, none⟩) 0 0 [] := by have := Bld.empty (e := 88) (k := 2) S6; simpa using this
          refine Reg.val rfl rfl (v := .slice (some ⟨Y.heap.size + 1, 0, none⟩) 0 0) (w' := (Y.drew.alloc (.cells #[.string t, .slice bA bn bc] 88)).alloc (.cells #[] 88)) (by go_simp) e1.below ?_
          obtain ⟨B1, d1, X1, B2, d2, X2, B3, d3, X3, r1, s1, r2, s2, r3, b3⟩ := put_runs (c1 := c1) (c3 := c1 - k) (f := ⟨t, bs, bA, bn, bc⟩) (fb := Y.heap.size) e1 (Mem.Blk.alloc (Mem.Blk.new (w := Y.drew))) (by omega) (by omega) q1 q3 o1 o3 (by omega) (by omega)
          refine Reg.one (i := 4) (n := 3) (by kernel_rfl) ?_
          refine Reg.val rfl rfl (v := .slice B1 k d1) (w' := X1) (exec_app rfl (by go_simp) (by go_simp) r1) s1 ?_
          refine Reg.one (i := 7) (n := 2) (by kernel_rfl) ?_
          refine Reg.val rfl rfl (v := .slice B2 (k + 1) d2) (w' := X2) (exec_app rfl (by go_simp) (by go_simp) r2) s2 ?_
          refine Reg.one (i := 11) (n := 1) (by kernel_rfl) ?_
          refine Reg.val rfl rfl (v := .slice B3 (k + 1 + (m - k)) d3) (w' := X3) (exec_app rfl (by go_simp) (by go_simp) r3) b3.below ?_
          refine Reg.takes (n := 0) (by kernel_rfl) (fun _ _ d _ _ h => by cases d <;> exact h) b3.below [12] _ _ (by kernel_rfl) ?_
          iterate 1 (refine Reg.det_step rfl (fun K' hK' => ?_); go_simp; (first | (refine hK' _ ?_; clear hK' K') | (apply Exists.intro; refine ⟨fun wx hwx => ?_, hK' _ ?_⟩; (first | rfl | (go_simp; first | done | rfl)); clear hK' K')))
          refine Reg.det_nil ?_
          refine wpAnyH_done (by kernel_rfl) ?_ _
          have HE := Lib.hid (HFin.out _ _ _ b3)
          clear r1 r2 r3 s1 s2 b3 q1 q3 o1 o3 HFin
          go_wp2_with fail
          all_goals (go_ret; first | exact HE.out | (have h9 := HE.out; rw [Nat.sub_self] at h9; exact h9))
    · obtain rfl : k = m := by omega
      have hat : Hid (atF t r = k) := Lib.hid (by
        rw [← HL.out]
        refine atF_all fun p hp => ?_
        obtain ⟨j, hj, rfl⟩ := List.getElem_of_mem hp
        exact HLT.out j hj (by have := HL.out; omega))
      clear x0 x1
      go_wp2_with fail
      obtain ⟨Y2, rfl⟩ : ∃ x, x = wr := ⟨_, rfl⟩
      refine Reg.start (S := fun w' => Below Y2.heap.size Y2 w') (by kernel_rfl) ?_
      refine Reg.takes (n := 0) (by kernel_rfl) (fun _ _ d _ _ h => by cases d <;> exact h) (Below.refl _ _).drew [0, 1, 2, 3, 4, 5, 6, 7, 8, 9, 10, 11, 12, 13] _ _ (by kernel_rfl) ?_
      iterate 14 (refine Reg.det_step rfl (fun K' hK' => ?_); go_simp; (first | (refine hK' _ ?_; clear hK' K') | (apply Exists.intro; refine ⟨fun wx hwx => ?_, hK' _ ?_⟩; (first | rfl | (skip; go_simp; first | done | rfl)); clear hK' K')))
      refine Reg.det_nil ?_
      refine wpAnyH_done (by kernel_rfl) ?_ _
      go_wp2_with fail
      cases A1 with
      | none =>
        have hc0 : c1 = 0 := by rcases HB.out.row.2.2.2 with ⟨_, e⟩ | ⟨_, _, _, e, _⟩; · exact e
                                cases e
        have hk0 : k = 0 := by have := HB.out.row.le; omega
        subst hc0 hk0
        have hle := HB.out.row.le
        obtain ⟨Y, hY9⟩ : ∃ x, x = Y2.drew := ⟨_, rfl⟩
        have HY : Hid (Below w1.heap.size w1 Y) := Lib.hid (by rw [hY9]; exact HR.out.drew)
        have HNY : Hid (Mem.Blk Y w.heap.size 88 #[.string t, .slice bA bn bc]) := Lib.hid (by rw [hY9]; exact HN2.out.drew)
        rw [← hY9]
        clear hY9
        have rowY := HB.out.row.keep (fun b hb => HY.out.block b (HB.out.row.lt hb))
        have q1 : Mem.Sl Y Y.heap.size 2 none 0 (FlV.flat (r.take 0)) := by rw [List.take_zero]; exact Mem.Sl.nil
        have q3 : Mem.Sl Y Y.heap.size 2 none 0 (FlV.flat (r.drop 0)) := by rw [List.eq_nil_of_length_eq_zero HL.out]; exact Mem.Sl.nil
        have o1 := FlV.flat_one (r.take 0)
        have o3 := FlV.flat_one (r.drop 0)
        have HFin : Hid (∀ X B d, Bld Y X 88 2 B (0 + 1 + 0) d (FlV.flat (r.take 0) ++ FlV.cells ⟨t, bs, bA, bn, bc⟩ ++ FlV.flat (r.drop 0)) → NewF (r.take (atF t r) ++ ⟨t, bs, bA, bn, bc⟩ :: r.drop (atF t r)) w (.returned (.slice B (0 + 1 + 0) d)) X) := Lib.hid fun X B d hb => by
          have hlen : (r.take 0 ++ (⟨t, bs, bA, bn, bc⟩ : FlV) :: r.drop 0).length = 0 + 1 + 0 := by rw [List.eq_nil_of_length_eq_zero HL.out]; rfl
          rw [hat.out]
          unfold NewF
          rw [hlen]
          have z1 := HS0.out.size
          have z2 := HB.out.below.size
          have z3 := HY.out.size
          refine ⟨B, d, rfl, ((HS0.out.trans (HB.out.below.mono z1)).trans (HY.out.mono (by omega))).trans (hb.below.mono (by omega)), ?_, fun b e => by have := hb.fresh b e; omega⟩
          rw [FlV.flat_app, FlV.flat_cons, ← List.append_assoc]
          exact hb.row
        have hY1 : Below Y.heap.size Y Y.drew := (Below.refl _ _).drew
        refine Reg.start (S := fun w' => Below Y.heap.size Y w') (by kernel_rfl) ?_
        refine Reg.takes (n := 6) (by kernel_rfl) (fun _ _ d _ _ h => by cases d <;> exact h) hY1 [1, 2, 3, 5, 8, 9, 10] _ _ (by kernel_rfl) ?_
        iterate 7 (refine Reg.det_step rfl (fun K' hK' => ?_); go_simp; (first | (refine hK' _ ?_; clear hK' K') | (apply Exists.intro; refine ⟨fun wx hwx => ?_, hK' _ ?_⟩; (first | rfl | (obtain ⟨x0, x1⟩ := And.intro (Mem.Blk.cell (Mem.Blk.belowS HNY.out hwx) 0) (Mem.Blk.cell (Mem.Blk.belowS HNY.out hwx) 1); go_simp; first | done | rfl)); clear hK' K')))
        refine Reg.det_nil ?_
        have e0 : Bld Y (Y.drew.alloc (.cells #[] 88)) 88 2 (some ⟨Y.heap.size, 0, none⟩) 0 0 [] := Bld.empty hY1
        have S0 := e0.below
        refine Reg.two (i := 0) (j := 6) (n := 5) (by kernel_rfl) ?_ ?_
        · refine Reg.val rfl rfl (v := .slice (some ⟨Y.heap.size, 0, none⟩) 0 0) (w' := Y.drew.alloc (.cells #[] 88)) (by go_simp) S0 ?_
          refine Reg.two (i := 4) (j := 6) (n := 4) (by kernel_rfl) ?_ ?_
          · obtain ⟨B1, d1, X1, B2, d2, X2, B3, d3, X3, r1, s1, r2, s2, r3, b3⟩ := put_runs2 (c1 := 0) (c3 := 0) (f := ⟨t, bs, bA, bn, bc⟩) e0 q1 q3 o1 o3 (by omega) (by omega)
            refine Reg.val rfl rfl (v := .slice B1 0 d1) (w' := X1) (exec_app rfl (by go_simp) (by go_simp) r1) s1 ?_
            refine Reg.one (i := 6) (n := 3) (by kernel_rfl) ?_
            refine Reg.val rfl rfl (v := .slice (some ⟨X1.heap.size, 0, none⟩) 1 1) (w' := X1.alloc (.cells #[.string t, .slice bA bn bc] 88)) (by go_simp) (s1.alloc s1.size _) ?_
            refine Reg.one (i := 7) (n := 2) (by kernel_rfl) ?_
            refine Reg.val rfl rfl (v := .slice B2 (0 + 1) d2) (w' := X2) (exec_app rfl (by go_simp) (by go_simp) r2) s2 ?_
            refine Reg.one (i := 11) (n := 1) (by kernel_rfl) ?_
            refine Reg.val rfl rfl (v := .slice B3 (0 + 1 + 0) d3) (w' := X3) (exec_app rfl (by go_simp) (by go_simp) r3) b3.below ?_
            refine Reg.takes (n := 0) (by kernel_rfl) (fun _ _ d _ _ h => by cases d <;> exact h) b3.below [12] _ _ (by kernel_rfl) ?_
            iterate 1 (refine Reg.det_step rfl (fun K' hK' => ?_); go_simp; (first | (refine hK' _ ?_; clear hK' K') | (apply Exists.intro; refine ⟨fun wx hwx => ?_, hK' _ ?_⟩; (first | rfl | (go_simp; first | done | rfl)); clear hK' K')))
            refine Reg.det_nil ?_
            refine wpAnyH_done (by kernel_rfl) ?_ _
            have HE := Lib.hid (HFin.out _ _ _ b3)
            clear r1 r2 r3 s1 s2 b3 q1 q3 o1 o3 HFin
            go_wp2_with fail
            all_goals (go_ret; first | exact HE.out | (have h9 := HE.out; rw [Nat.sub_self] at h9; exact h9))
          · have e1 := e0.free ((Below.refl _ _).alloc (Nat.le_refl _) (.cells #[.string t, .slice bA bn bc] 88))
            obtain ⟨B1, d1, X1, B2, d2, X2, B3, d3, X3, r1, s1, r2, s2, r3, b3⟩ := put_runs (c1 := 0) (c3 := 0) (f := ⟨t, bs, bA, bn, bc⟩) (fb := Y.heap.size + 1) e1 (by have := Mem.Blk.new (w := Y.drew.alloc (.cells #[] 88)) (t := 88) (cs := #[.string t, .slice bA bn bc]); show Mem.Blk _ _ _ #[.string t, .slice bA bn bc]; simpa using this) (by omega) (by omega) q1 q3 o1 o3 (by omega) (by omega)
            refine Reg.val rfl rfl (v := .slice (some ⟨Y.heap.size + 1, 0, none⟩) 1 1) (w' := (Y.drew.alloc (.cells #[] 88)).alloc (.cells #[.string t, .slice bA bn bc] 88)) (by go_simp) e1.below ?_
            refine Reg.one (i := 4) (n := 3) (by kernel_rfl) ?_
            refine Reg.val rfl rfl (v := .slice B1 0 d1) (w' := X1) (exec_app rfl (by go_simp) (by go_simp) r1) s1 ?_
            refine Reg.one (i := 7) (n := 2) (by kernel_rfl) ?_
            refine Reg.val rfl rfl (v := .slice B2 (0 + 1) d2) (w' := X2) (exec_app rfl (by go_simp) (by go_simp) r2) s2 ?_
            refine Reg.one (i := 11) (n := 1) (by kernel_rfl) ?_
            refine Reg.val rfl rfl (v := .slice B3 (0 + 1 + 0) d3) (w' := X3) (exec_app rfl (by go_simp) (by go_simp) r3) b3.below ?_
            refine Reg.takes (n := 0) (by kernel_rfl) (fun _ _ d _ _ h => by cases d <;> exact h) b3.below [12] _ _ (by kernel_rfl) ?_
            iterate 1 (refine Reg.det_step rfl (fun K' hK' => ?_); go_simp; (first | (refine hK' _ ?_; clear hK' K') | (apply Exists.intro; refine ⟨fun wx hwx => ?_, hK' _ ?_⟩; (first | rfl | (go_simp; first | done | rfl)); clear hK' K')))
            refine Reg.det_nil ?_
            refine wpAnyH_done (by kernel_rfl) ?_ _
            have HE := Lib.hid (HFin.out _ _ _ b3)
            clear r1 r2 r3 s1 s2 b3 q1 q3 o1 o3 HFin
            go_wp2_with fail
            all_goals (go_ret; first | exact HE.out | (have h9 := HE.out; rw [Nat.sub_self] at h9; exact h9))
        · have S6 : Below Y.heap.size Y (Y.drew.alloc (.cells #[.string t, .slice bA bn bc] 88)) := hY1.alloc (Nat.le_refl _) _
          refine Reg.val rfl rfl (v := .slice (some ⟨Y.heap.size, 0, none⟩) 1 1) (w' := Y.drew.alloc (.cells #[.string t, .slice bA bn bc] 88)) (by go_simp) S6 ?_
          refine Reg.one (i := 0) (n := 4) (by kernel_rfl) ?_
          have e1 : Bld Y ((Y.drew.alloc (.cells #[.string t, .slice bA bn bc] 88)).alloc (.cells #[] 88)) 88 2 (some ⟨Y.heap.size + 1, 0, none⟩) 0 0 [] := by have := Bld.empty (e := 88) (k := 2) S6; simpa using this
          refine Reg.val rfl rfl (v := .slice (some ⟨Y.heap.size + 1, 0, none⟩) 0 0) (w' := (Y.drew.alloc (.cells #[.string t, .slice bA bn bc] 88)).alloc (.cells #[] 88)) (by go_simp) e1.below ?_
          obtain ⟨B1, d1, X1, B2, d2, X2, B3, d3, X3, r1, s1, r2, s2, r3, b3⟩ := put_runs (c1 := 0) (c3 := 0) (f := ⟨t, bs, bA, bn, bc⟩) (fb := Y.heap.size) e1 (Mem.Blk.alloc (Mem.Blk.new (w := Y.drew))) (by omega) (by omega) q1 q3 o1 o3 (by omega) (by omega)
          refine Reg.one (i := 4) (n := 3) (by kernel_rfl) ?_
          refine Reg.val rfl rfl (v := .slice B1 0 d1) (w' := X1) (exec_app rfl (by go_simp) (by go_simp) r1) s1 ?_
          refine Reg.one (i := 7) (n := 2) (by kernel_rfl) ?_
          refine Reg.val rfl rfl (v := .slice B2 (0 + 1) d2) (w' := X2) (exec_app rfl (by go_simp) (by go_simp) r2) s2 ?_
          refine Reg.one (i := 11) (n := 1) (by kernel_rfl) ?_
          refine Reg.val rfl rfl (v := .slice B3 (0 + 1 + 0) d3) (w' := X3) (exec_app rfl (by go_simp) (by go_simp) r3) b3.below ?_
          refine Reg.takes (n := 0) (by kernel_rfl) (fun _ _ d _ _ h => by cases d <;> exact h) b3.below [12] _ _ (by kernel_rfl) ?_
          iterate 1 (refine Reg.det_step rfl (fun K' hK' => ?_); go_simp; (first | (refine hK' _ ?_; clear hK' K') | (apply Exists.intro; refine ⟨fun wx hwx => ?_, hK' _ ?_⟩; (first | rfl | (go_simp; first | done | rfl)); clear hK' K')))
          refine Reg.det_nil ?_
          refine wpAnyH_done (by kernel_rfl) ?_ _
          have HE := Lib.hid (HFin.out _ _ _ b3)
          clear r1 r2 r3 s1 s2 b3 q1 q3 o1 o3 HFin
          go_wp2_with fail
          all_goals (go_ret; first | exact HE.out | (have h9 := HE.out; rw [Nat.sub_self] at h9; exact h9))
      | some ad =>
        obtain ⟨g, off, hg⟩ : ∃ g off, some ad = some ⟨g, off, none⟩ := by
          rcases HB.out.row.2.2.2 with ⟨e, _⟩ | ⟨g, off, _, e, _⟩
          · cases e
          · exact ⟨g, off, e⟩
        cases hg
        have hle := HB.out.row.le
        obtain ⟨Y, hY9⟩ : ∃ x, x = Y2.drew := ⟨_, rfl⟩
        have HY : Hid (Below w1.heap.size w1 Y) := Lib.hid (by rw [hY9]; exact HR.out.drew)
        have HNY : Hid (Mem.Blk Y w.heap.size 88 #[.string t, .slice bA bn bc]) := Lib.hid (by rw [hY9]; exact HN2.out.drew)
        rw [← hY9]
        clear hY9
        have rowY := HB.out.row.keep (fun b hb => HY.out.block b (HB.out.row.lt hb))
        have hkc : k ≤ c1 := by omega
        have q1 := (rowY.cut k (by omega)).sl
        have q3 := (rowY.from_ k (by omega)).sl
        rw [FlV.flat_take] at q1
        rw [FlV.flat_drop] at q3
        have o1 := FlV.flat_one (r.take k)
        have o3 := FlV.flat_one (r.drop k)
        have HFin : Hid (∀ X B d, Bld Y X 88 2 B (k + 1 + (k - k)) d (FlV.flat (r.take k) ++ FlV.cells ⟨t, bs, bA, bn, bc⟩ ++ FlV.flat (r.drop k)) → NewF (r.take (atF t r) ++ ⟨t, bs, bA, bn, bc⟩ :: r.drop (atF t r)) w (.returned (.slice B (k + 1 + (k - k)) d)) X) := Lib.hid fun X B d hb => by
          have hlen : (r.take k ++ (⟨t, bs, bA, bn, bc⟩ : FlV) :: r.drop k).length = k + 1 + (k - k) := by have := HL.out; simp; omega
          rw [hat.out]
          unfold NewF
          rw [hlen]
          have z1 := HS0.out.size
          have z2 := HB.out.below.size
          have z3 := HY.out.size
          refine ⟨B, d, rfl, ((HS0.out.trans (HB.out.below.mono z1)).trans (HY.out.mono (by omega))).trans (hb.below.mono (by omega)), ?_, fun b e => by have := hb.fresh b e; omega⟩
          rw [FlV.flat_app, FlV.flat_cons, ← List.append_assoc]
          exact hb.row
        have hY1 : Below Y.heap.size Y Y.drew := (Below.refl _ _).drew
        refine Reg.start (S := fun w' => Below Y.heap.size Y w') (by kernel_rfl) ?_
        refine Reg.takes (n := 6) (by kernel_rfl) (fun _ _ d _ _ h => by cases d <;> exact h) hY1 [1, 2, 3, 5, 8, 9, 10] _ _ (by kernel_rfl) ?_
        iterate 7 (refine Reg.det_step rfl (fun K' hK' => ?_); go_simp; (first | (refine hK' _ ?_; clear hK' K') | (apply Exists.intro; refine ⟨fun wx hwx => ?_, hK' _ ?_⟩; (first | rfl | (obtain ⟨x0, x1⟩ := And.intro (Mem.Blk.cell (Mem.Blk.belowS HNY.out hwx) 0) (Mem.Blk.cell (Mem.Blk.belowS HNY.out hwx) 1); go_simp; first | done | rfl)); clear hK' K')))
        refine Reg.det_nil ?_
        have e0 : Bld Y (Y.drew.alloc (.cells #[] 88)) 88 2 (some ⟨Y.heap.size, 0, none⟩) 0 0 [] := Bld.empty hY1
        have S0 := e0.below
        refine Reg.two (i := 0) (j := 6) (n := 5) (by kernel_rfl) ?_ ?_
        · refine Reg.val rfl rfl (v := .slice (some ⟨Y.heap.size, 0, none⟩) 0 0) (w' := Y.drew.alloc (.cells #[] 88)) (by go_simp) S0 ?_
          refine Reg.two (i := 4) (j := 6) (n := 4) (by kernel_rfl) ?_ ?_
          · obtain ⟨B1, d1, X1, B2, d2, X2, B3, d3, X3, r1, s1, r2, s2, r3, b3⟩ := put_runs2 (c1 := c1) (c3 := c1 - k) (f := ⟨t, bs, bA, bn, bc⟩) e0 q1 q3 o1 o3 (by omega) (by omega)
            refine Reg.val rfl rfl (v := .slice B1 k d1) (w' := X1) (exec_app rfl (by go_simp) (by go_simp) r1) s1 ?_
            refine Reg.one (i := 6) (n := 3) (by kernel_rfl) ?_
            refine Reg.val rfl rfl (v := .slice (some ⟨X1.heap.size, 0, none⟩) 1 1) (w' := X1.alloc (.cells #[.string t, .slice bA bn bc] 88)) (by go_simp) (s1.alloc s1.size _) ?_
            refine Reg.one (i := 7) (n := 2) (by kernel_rfl) ?_
            refine Reg.val rfl rfl (v := .slice B2 (k + 1) d2) (w' := X2) (exec_app rfl (by go_simp) (by go_simp) r2) s2 ?_
            refine Reg.one (i := 11) (n := 1) (by kernel_rfl) ?_
            refine Reg.val rfl rfl (v := .slice B3 (k + 1 + (k - k)) d3) (w' := X3) (exec_app rfl (by go_simp) (by go_simp) r3) b3.below ?_
            refine Reg.takes (n := 0) (by kernel_rfl) (fun _ _ d _ _ h => by cases d <;> exact h) b3.below [12] _ _ (by kernel_rfl) ?_
            iterate 1 (refine Reg.det_step rfl (fun K' hK' => ?_); go_simp; (first | (refine hK' _ ?_; clear hK' K') | (apply Exists.intro; refine ⟨fun wx hwx => ?_, hK' _ ?_⟩; (first | rfl | (go_simp; first | done | rfl)); clear hK' K')))
            refine Reg.det_nil ?_
            refine wpAnyH_done (by kernel_rfl) ?_ _
            have HE := Lib.hid (HFin.out _ _ _ b3)
            clear r1 r2 r3 s1 s2 b3 q1 q3 o1 o3 HFin
            go_wp2_with fail
            all_goals (go_ret; first | exact HE.out | (have h9 := HE.out; rw [Nat.sub_self] at h9; exact h9))
          · have e1 := e0.free ((Below.refl _ _).alloc (Nat.le_refl _) (.cells #[.string t, .slice bA bn bc] 88))
            obtain ⟨B1, d1, X1, B2, d2, X2, B3, d3, X3, r1, s1, r2, s2, r3, b3⟩ := put_runs (c1 := c1) (c3 := c1 - k) (f := ⟨t, bs, bA, bn, bc⟩) (fb := Y.heap.size + 1) e1 (by have := Mem.Blk.new (w := Y.drew.alloc (.cells #[] 88)) (t := 88) (cs := #[.string t, .slice bA bn bc]); show Mem.Blk _ _ _ #[.string t, .slice bA bn bc]; simpa using this) (by omega) (by omega) q1 q3 o1 o3 (by omega) (by omega)
            refine Reg.val rfl rfl (v := .slice (some ⟨Y.heap.size + 1, 0, none⟩) 1 1) (w' := (Y.drew.alloc (.cells #[] 88)).alloc (.cells #[.string t, .slice bA bn bc] 88)) (by go_simp) e1.below ?_
            refine Reg.one (i := 4) (n := 3) (by kernel_rfl) ?_
            refine Reg.val rfl rfl (v := .slice B1 k d1) (w' := X1) (exec_app rfl (by go_simp) (by go_simp) r1) s1 ?_
            refine Reg.one (i := 7) (n := 2) (by kernel_rfl) ?_
            refine Reg.val rfl rfl (v := .slice B2 (k + 1) d2) (w' := X2) (exec_app rfl (by go_simp) (by go_simp) r2) s2 ?_
            refine Reg.one (i := 11) (n := 1) (by kernel_rfl) ?_
            refine Reg.val rfl rfl (v := .slice B3 (k + 1 + (k - k)) d3) (w' := X3) (exec_app rfl (by go_simp) (by go_simp) r3) b3.below ?_
            refine Reg.takes (n := 0) (by kernel_rfl) (fun _ _ d _ _ h => by cases d <;> exact h) b3.below [12] _ _ (by kernel_rfl) ?_
            iterate 1 (refine Reg.det_step rfl (fun K' hK' => ?_); go_simp; (first | (refine hK' _ ?_; clear hK' K') | (apply Exists.intro; refine ⟨fun wx hwx => ?_, hK' _ ?_⟩; (first | rfl | (go_simp; first | done | rfl)); clear hK' K')))
            refine Reg.det_nil ?_
            refine wpAnyH_done (by kernel_rfl) ?_ _
            have HE := Lib.hid (HFin.out _ _ _ b3)
            clear r1 r2 r3 s1 s2 b3 q1 q3 o1 o3 HFin
            go_wp2_with fail
            all_goals (go_ret; first | exact HE.out | (have h9 := HE.out; rw [Nat.sub_self] at h9; exact h9))
        · have S6 : Below Y.heap.size Y (Y.drew.alloc (.cells #[.string t, .slice bA bn bc] 88)) := hY1.alloc (Nat.le_refl _) _
          refine Reg.val rfl rfl (v := .slice (some ⟨Y.heap.size, 0, none⟩) 1 1) (w' := Y.drew.alloc (.cells #[.string t, .slice bA bn bc] 88)) (by go_simp) S6 ?_
          refine Reg.one (i := 0) (n := 4) (by kernel_rfl) ?_
          have e1 : Bld Y ((Y.drew.alloc (.cells #[.string t, .slice bA bn bc] 88)).alloc (.cells #[] 88)) 88 2 (some ⟨Y.heap.size + 1, 0, none⟩) 0 0 [] := by have := Bld.empty (e := 88) (k := 2) S6; simpa using this
          refine Reg.val rfl rfl (v := .slice (some ⟨Y.heap.size + 1, 0, none⟩) 0 0) (w' := (Y.drew.alloc (.cells #[.string t, .slice bA bn bc] 88)).alloc (.cells #[] 88)) (by go_simp) e1.below ?_
          obtain ⟨B1, d1, X1, B2, d2, X2, B3, d3, X3, r1, s1, r2, s2, r3, b3⟩ := put_runs (c1 := c1) (c3 := c1 - k) (f := ⟨t, bs, bA, bn, bc⟩) (fb := Y.heap.size) e1 (Mem.Blk.alloc (Mem.Blk.new (w := Y.drew))) (by omega) (by omega) q1 q3 o1 o3 (by omega) (by omega)
          refine Reg.one (i := 4) (n := 3) (by kernel_rfl) ?_
          refine Reg.val rfl rfl (v := .slice B1 k d1) (w' := X1) (exec_app rfl (by go_simp) (by go_simp) r1) s1 ?_
          refine Reg.one (i := 7) (n := 2) (by kernel_rfl) ?_
          refine Reg.val rfl rfl (v := .slice B2 (k + 1) d2) (w' := X2) (exec_app rfl (by go_simp) (by go_simp) r2) s2 ?_
          refine Reg.one (i := 11) (n := 1) (by kernel_rfl) ?_
          refine Reg.val rfl rfl (v := .slice B3 (k + 1 + (k - k)) d3) (w' := X3) (exec_app rfl (by go_simp) (by go_simp) r3) b3.below ?_
          refine Reg.takes (n := 0) (by kernel_rfl) (fun _ _ d _ _ h => by cases d <;> exact h) b3.below [12] _ _ (by kernel_rfl) ?_
          iterate 1 (refine Reg.det_step rfl (fun K' hK' => ?_); go_simp; (first | (refine hK' _ ?_; clear hK' K') | (apply Exists.intro; refine ⟨fun wx hwx => ?_, hK' _ ?_⟩; (first | rfl | (go_simp; first | done | rfl)); clear hK' K')))
          refine Reg.det_nil ?_
          refine wpAnyH_done (by kernel_rfl) ?_ _
          have HE := Lib.hid (HFin.out _ _ _ b3)
          clear r1 r2 r3 s1 s2 b3 q1 q3 o1 o3 HFin
          go_wp2_with fail
          all_goals (go_ret; first | exact HE.out | (have h9 := HE.out; rw [Nat.sub_self] at h9; exact h9))
end Dk
end Go.Proofs.Ytnaidihoijociaa
