/- The document's layer 10: rows of files with their bytes; Do. -/
import Derived.Test.YtnaidihoijociaaDkU
namespace Go.Proofs.Ytnaidihoijociaa
open Go.RowKit Go.Maps
namespace Dk
open Bs
open Crc (Byte)
/-- C, and all blocks made since w -/
def ext (w : World) (C : Nat → Prop) : Nat → Prop := fun k => k < w.heap.size → C k
/-- a row of files, and their bytes, in blocks of C -/
structure Fr (w : World) (C : Nat → Prop) (A : Option Addr) (n c : Nat) (l : List FlV) : Prop where
  row : Ro.Row w 88 2 A n c (FlV.flat l)
  len : l.length = n
  hold : ∀ p ∈ l, Hold w C p.bytesA p.bytesn p.bytesc p.bytes
  name : ∀ p ∈ l, p.name.size ≤ maxLen
  rc : ∀ b, Ro.blk A = some b → C b
section
variable {w X w' : World} {C C' : Nat → Prop} {A : Option Addr} {n c : Nat} {l : List FlV} {f : FlV} {e : Ending}
theorem Fr.mono (h : Fr w C A n c l) (hC : ∀ k, k < w.heap.size → C k → C' k) : Fr w C' A n c l :=
  ⟨h.row, h.len, fun p hp => (h.hold p hp).mono hC, h.name, fun b hb => hC b (h.row.lt hb) (h.rc b hb)⟩
theorem Fr.below (h : Fr w C A n c l) (hb : Below w.heap.size w w') : Fr w' C A n c l :=
  ⟨h.row.keep fun b k => hb.block b (h.row.lt k), h.len, fun p hp => (h.hold p hp).below hb, h.name, h.rc⟩
theorem Fr.put (h : Fr w C A n c l) (hb : Below w.heap.size w X) (hf : Hold X (ext w C) f.bytesA f.bytesn f.bytesc f.bytes) (hn : f.name.size ≤ maxLen) (hp : NewF (putV l f) X e w') :
    ∃ A' c', e = .returned (.slice A' (putV l f).length c') ∧ Below w.heap.size w w' ∧ Fr w' (ext w C) A' (putV l f).length c' (putV l f) := by
  obtain ⟨A', c', rfl, hB⟩ := hp
  have hz := hb.size
  have hmem : ∀ p ∈ putV l f, p = f ∨ p ∈ l := by
    intro p hp
    unfold putV at hp
    rcases List.mem_append.1 hp with hp | hp
    · exact .inr (List.mem_filter.1 (List.mem_of_mem_take hp)).1
    · rcases List.mem_cons.1 hp with hp | hp
      · exact .inl hp
      · exact .inr (List.mem_filter.1 (List.mem_of_mem_drop hp)).1
  refine ⟨A', c', rfl, hb.trans (hB.below.mono hz), hB.row, rfl, fun p hp => ?_, fun p hp => ?_, fun b k q => absurd q (by have := hB.fresh b k; omega)⟩
  · rcases hmem p hp with rfl | hp
    · exact hf.below hB.below
    · exact (((h.hold p hp).mono (C' := ext w C) (fun k _ q _ => q)).below hb).below hB.below
  · rcases hmem p hp with rfl | hp
    · exact hn
    · exact h.name p hp
theorem Fr.del (h : Fr w C A n c l) (hb : Below w.heap.size w X) {s : ByteArray} (hp : NewF (l.filter (neF s)) X e w') :
    ∃ A' c', e = .returned (.slice A' (l.filter (neF s)).length c') ∧ Below w.heap.size w w' ∧ Fr w' (ext w C) A' (l.filter (neF s)).length c' (l.filter (neF s)) := by
  obtain ⟨A', c', rfl, hB⟩ := hp
  have hz := hb.size
  exact ⟨A', c', rfl, hb.trans (hB.below.mono hz), hB.row, rfl, fun p hp => (((h.hold p (List.mem_filter.1 hp).1).mono (C' := ext w C) (fun k _ q _ => q)).below hb).below hB.below, fun p hp => h.name p (List.mem_filter.1 hp).1, fun b k q => absurd q (by have := hB.fresh b k; omega)⟩
end
theorem len_putV (l : List FlV) (f : FlV) : (putV l f).length ≤ l.length + 1 := by
  unfold putV
  have := List.length_filter_le (neF f.name) l
  simp
  omega
/-- what Do answers -/
def DoSaid (w : World) (C : Nat → Prop) (x : Files) (N : Nat) (e : Ending) (w' : World) : Prop := ∃ A c l, e = .returned (.slice A l.length c) ∧ Below w.heap.size w w' ∧ Fr w' (ext w C) A l.length c l ∧ fls2 l = x ∧ l.length ≤ N
set_option maxRecDepth 100000 in
set_option maxHeartbeats 4000000 in
theorem rdo_1 {w : World} {C C0 : Nat → Prop} {A bA : Option Addr} {n c bn bc : Nat} {l : List FlV} {nm nt : ByteArray} {bs : List Byte} (h : Fr w C A n c l) (hn : n ≤ 5000) (ho : Hold w C0 bA bn bc bs) (hbn : bn ≤ 100000) (hs : nm.size ≤ maxLen) :
    Calls Try.prog 44 #[.slice A n c, .agg #[.int .i64 1, .string nm, .string nt, .slice bA bn bc]] w (DoSaid w C (app1 (fls2 l) ⟨1, nm, nt, bs⟩) (n + 1)) := by
  have H := Lib.hid h
  have hb0 : Below w.heap.size w (w.alloc (.cells #[.int .i64 1, .string nm, .string nt, .slice bA bn bc] 29)) := (Below.refl _ _).alloc (Nat.le_refl _) _
  have hl := h.len
  obtain ⟨Y, hY⟩ : ∃ x, x = w.alloc (.cells #[.int .i64 1, .string nm, .string nt, .slice bA bn bc] 29) := ⟨_, rfl⟩
  have N0 : Mem.Blk Y w.heap.size 29 #[.int .i64 1, .string nm, .string nt, .slice bA bn bc] := by rw [hY]; exact Mem.Blk.new
  rw [← hY] at hb0
  have hY1 : Below Y.heap.size Y Y.drew := (Below.refl _ _).drew
  have e0 : Bld Y (Y.drew.alloc (.cells #[] 5)) 5 1 (some ⟨Y.heap.size, 0, none⟩) 0 0 [] := Bld.empty hY1
  have S0 := e0.below
  obtain ⟨B1, d1, X1, r1, b1, -⟩ := e0.app (P := Try.prog) (ty := 27) (c2 := bc) elb (((ho.below hb0).sl).below S0) (one_bs _) (by omega) hbn (by decide)
  rw [Nat.zero_add] at r1 b1
  rw [List.nil_append] at b1
  have hbX : Below w.heap.size w X1 := hb0.trans (b1.below.mono hb0.size)
  have HP := Lib.hid (put_c A n c l ⟨nm, bs, B1, bn, d1⟩ X1 ((h.below hbX).row.sl) hl (by omega))
  have HFin : Hid (∀ e X, NewF (putV l ⟨nm, bs, B1, bn, d1⟩) X1 e X → ∃ v, e = .returned v ∧ Below Y.heap.size Y X ∧ DoSaid w C (app1 (fls2 l) ⟨1, nm, nt, bs⟩) (n + 1) (.returned v) X) := Lib.hid fun e X hp => by
    have hz := hb0.size
    have hbX2 : Below X1.heap.size X1 X := by obtain ⟨_, _, _, hB⟩ := hp; exact hB.below
    obtain ⟨A', c', rfl, hb, hF⟩ := h.put hbX (Hold.of_row (bs := bs) b1.row (fun k hk q => absurd q (by have := b1.fresh k hk; omega))) hs hp
    refine ⟨_, rfl, b1.below.trans (hbX2.mono b1.below.size), A', c', _, rfl, hb, hF, ?_, by have := len_putV l ⟨nm, bs, B1, bn, d1⟩; omega⟩
    rw [fls2_put]
    rfl
  have HN := Lib.hid N0
  obtain ⟨x0, -⟩ := And.intro (N0.cell 0) trivial
  have HYe := Lib.hid hY
  have s1 := b1.below
  clear h ho hl N0 b1 hbX hb0 H e0
  go_enter Try.func44, Try.ntmps44
  rw [hY] at x0
  go_wp2_with fail
  rw [← HYe.out]
  clear hY x0
  refine Reg.start (S := fun w' => Below Y.heap.size Y w') (by kernel_rfl) ?_
  refine Reg.takes (n := 5) (by kernel_rfl) (fun _ _ d _ _ h => by cases d <;> exact h) hY1 [0, 1, 2, 4, 5] _ _ (by kernel_rfl) ?_
  iterate 5 (refine Reg.det_step rfl (fun K' hK' => ?_); go_simp; (first | (refine hK' _ ?_; clear hK' K') | (apply Exists.intro; refine ⟨fun wx hwx => ?_, hK' _ ?_⟩; (first | rfl | (obtain ⟨x0, x1⟩ := And.intro (Mem.Blk.cell (Mem.Blk.belowS HN.out hwx) 1) (Mem.Blk.cell (Mem.Blk.belowS HN.out hwx) 3); go_simp; first | done | rfl)); clear hK' K')))
  refine Reg.det_nil ?_
  refine Reg.one (i := 3) (n := 4) (by kernel_rfl) ?_
  refine Reg.val rfl rfl (v := .slice (some ⟨Y.heap.size, 0, none⟩) 0 0) (w' := Y.drew.alloc (.cells #[] 5)) (by go_simp) S0 ?_
  refine Reg.one (i := 6) (n := 3) (by kernel_rfl) ?_
  refine Reg.val rfl rfl (v := .slice B1 bn d1) (w' := X1) (exec_app rfl (by go_simp) (by go_simp) r1) s1 ?_
  refine Reg.takes (n := 2) (by kernel_rfl) (fun _ _ d _ _ h => by cases d <;> exact h) s1 [7] _ _ (by kernel_rfl) ?_
  iterate 1 (refine Reg.det_step rfl (fun K' hK' => ?_); go_simp; (first | (refine hK' _ ?_; clear hK' K') | (apply Exists.intro; refine ⟨fun wx hwx => ?_, hK' _ ?_⟩; (first | rfl | (go_simp; first | done | rfl)); clear hK' K')))
  refine Reg.det_nil ?_
  refine Reg.one (i := 8) (n := 1) (by kernel_rfl) ?_
  refine Reg.call rfl rfl (by go_simp; exact ⟨rfl, rfl⟩) ?_
  refine HP.out.mono ?_
  intro e X hp
  obtain ⟨v, rfl, hbX, hD⟩ := HFin.out e X hp
  have HD := Lib.hid hD
  clear hp hD HP HFin r1
  refine ⟨_, rfl, hbX, ?_⟩
  refine Reg.takes (n := 0) (by kernel_rfl) (fun _ _ d _ _ h => by cases d <;> exact h) hbX [9] _ _ (by kernel_rfl) ?_
  iterate 1 (refine Reg.det_step rfl (fun K' hK' => ?_); go_simp; (first | (refine hK' _ ?_; clear hK' K') | (apply Exists.intro; refine ⟨fun wx hwx => ?_, hK' _ ?_⟩; (first | rfl | (go_simp; first | done | rfl)); clear hK' K')))
  refine Reg.det_nil ?_
  refine wpAnyH_done (by kernel_rfl) ?_ _
  go_wp2_with fail
  go_ret
  exact HD.out
end Dk
end Go.Proofs.Ytnaidihoijociaa
