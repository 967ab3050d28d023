/- Layer 10 (disk): the walk of copy. -/
import Derived.Test.YtnaidihoijociaaDkG
namespace Go.Proofs.Ytnaidihoijociaa
open Go.RowKit Go.Maps
namespace Dk
open Bs
open Crc (Byte)
set_option maxRecDepth 100000 in
set_option maxHeartbeats 4000000 in
theorem cloneo_c {w : World} {A : Option Addr} {n c : Nat} {ps : List OpV} (h : Ro.Row w 29 4 A n c (OpV.flat ps)) (hn : n ≤ 100000) :
    Calls Try.prog 46 #[.slice A n c] w fun e w' => ∃ A' c', e = .returned (.slice A' n c') ∧ Ro.Row w' 29 4 A' n c' (OpV.flat ps) ∧ Below w.heap.size w w' ∧ ∀ b, Ro.blk A' = some b → w.heap.size ≤ b := by
  have hnn : A = none → n = 0 ∧ c = 0 := by
    intro e
    obtain ⟨_, h2, _, ⟨_, h3⟩ | ⟨g, off, cur, e2, _⟩⟩ := h
    · omega
    · rw [e] at e2; cases e2
  cases A with
  | none =>
    obtain ⟨rfl, rfl⟩ := hnn rfl
    have hb : OpV.flat ps = [] := List.eq_nil_of_length_eq_zero (by have := h.len; omega)
    rw [hb]
    have hnil : ∀ w, (binOp .eql 22 (.slice none 0 0) (.slice none 0 0)).run Try.prog w = .ok (.bool true) w := fun w => by kernel_rfl
    clear h hnn
    go_enter Try.func46, Try.ntmps46
    go_wp2_with fail
    go_ret
    exact ⟨_, _, rfl, Ro.Row.nil, Below.refl _ _, fun b hb => by cases hb⟩
  | some ad =>
    have hnew : Ro.Row (w.alloc (.cells #[] 29)) 29 4 (some ⟨w.heap.size, 0, none⟩) 0 0 [] := Ro.Row.new (cs := #[]) rfl (by decide)
    obtain ⟨A', c', w', hr, hR, hO, hb⟩ := Ro.app (P := Try.prog) (ty := 22) (c2 := c) elo hnew (h.sl.alloc (Nat.le_refl _) _) (OpV.flat_one ps) (by unfold maxLen; omega) (by omega)
    simp only [Nat.zero_add, List.nil_append] at hr hR
    have hfin : Hid (Ro.Row w' 29 4 A' n c' (OpV.flat ps) ∧ Below w.heap.size w w' ∧ ∀ b, Ro.blk A' = some b → w.heap.size ≤ b) := by
      refine ⟨hR, ((Ro.Only.refl (fun _ => False) w).alloc _ |>.trans hO (T := fun b => Ro.blk (some ⟨w.heap.size, 0, none⟩) = some b) (fun k hk e => ?_)).below (Nat.le_refl _) (fun _ _ c => c), fun b hb2 => ?_⟩
      · have : w.heap.size = k := by simpa [Ro.blk] using e
        omega
      · rcases hb with hb | hb
        · rw [hb] at hb2
          have : w.heap.size = b := by simpa [Ro.blk] using hb2
          omega
        · rw [hb] at hb2
          have : (w.alloc (.cells #[] 29)).heap.size = b := by simpa using hb2
          simp at this
          omega
    clear h hnew hR hO hb hnn
    have hnil : ∀ w, (binOp .eql 22 (.slice (some ad) n c) (.slice none 0 0)).run Try.prog w = .ok (.bool false) w := fun w => by kernel_rfl
    go_enter Try.func46, Try.ntmps46
    go_wp2_with (at_builtin; refine Ro.wpList_app rfl _ _ _ _ rfl _ _ rfl rfl hr ?_)
    go_ret
    exact ⟨_, _, rfl, hfin.out⟩
/-- a new disk like it: what may be changed of it is new -/
def CopySaid (C : Nat → Prop) (w : World) (s : Ds) (e : Ending) (w' : World) : Prop := ∃ g', e = .returned (.pointer (some ⟨g', 0, none⟩)) ∧ Below w.heap.size w w' ∧ At w' g' s (fun k => w.heap.size ≤ k) (fun k => C k ∧ k < w.heap.size)
set_option maxRecDepth 100000 in
set_option maxHeartbeats 4000000 in
theorem copy_c {w : World} {g : Nat} {s : Ds} {M C : Nat → Prop} (h : At w g s M C) (hs : Good s) :
    Calls Try.prog 27 #[.pointer (some ⟨g, 0, none⟩)] w (CopySaid C w s) := by
  obtain ⟨b, AO, nO, cO, ps, h⟩ := h
  obtain ⟨hl1, hl2⟩ := h.len
  have hno := hs.no
  obtain ⟨es, hes1, hes2, hes3⟩ := h.mp
  have HB := Lib.hid h.blk
  have HR := Lib.hid h.row
  have HOp := Lib.hid h.ops
  have HH := Lib.hid h.hold
  have HE := Lib.hid hes2
  have HF := Lib.hid hes1
  have HC := Lib.hid (Try.clone_c 9 rdr b es.length (dat es) w.drew hes3.drew)
  clear h hs hes1 hes2 hes3
  go_enter Try.func27, Try.ntmps27
  go_wp2_with fail
  refine Reg.start (S := fun w' => Below w.heap.size w w') (by kernel_rfl) ?_
  refine Reg.takes (n := 5) (by kernel_rfl) (fun _ _ d _ _ h => by cases d <;> exact h) (Below.refl _ _).drew [0, 1, 2, 3, 5, 6, 7, 8] _ _ (by kernel_rfl) ?_
  iterate 8 (refine Reg.det_step rfl (fun K' hK' => ?_); go_simp; (first | (refine hK' _ ?_; clear hK' K') | (apply Exists.intro; refine ⟨fun wx hwx => ?_, hK' _ ?_⟩; (first | rfl | (obtain ⟨i0, i1⟩ := And.intro (Mem.Blk.cell (HB.out.below hwx HB.out.lt) 0) (Mem.Blk.cell (HB.out.below hwx HB.out.lt) 1); go_simp; first | done | rfl)); clear hK' K')))
  refine Reg.det_nil ?_
  refine Reg.one (i := 4) (n := 4) (by kernel_rfl) ?_
  refine Reg.call rfl rfl (by go_simp; exact ⟨rfl, rfl⟩) ?_
  refine HC.out.mono ?_
  rintro e w1 ⟨rfl, hown, -, hb1⟩
  have hb1 : Below w.heap.size w w1 := (Below.refl _ _).drew.trans hb1
  have HL1 := Lib.hid hb1
  have HO1 := Lib.hid hown
  have hlt1 : w.heap.size < w1.heap.size := hown.lt
  refine ⟨_, rfl, hb1, ?_⟩
  clear HC hown
  refine Reg.one (i := 9) (n := 3) (by kernel_rfl) ?_
  refine Reg.call rfl rfl (by go_simp; exact ⟨rfl, rfl⟩) ?_
  refine (cloneo_c (ps := ps) (HR.out.keep fun k hk => HL1.out.block k (HR.out.lt hk)) (by omega)).mono ?_
  rintro e w2 ⟨A', c', rfl, hR2, hb2, hf2⟩
  have hz2 := hb2.size
  have hb2' : Below w.heap.size w w2 := HL1.out.trans (hb2.mono HL1.out.size)
  refine ⟨_, rfl, hb2', ?_⟩
  have hal : Below w2.heap.size w2 (w2.alloc (.cells #[.map (some w.heap.size), .slice A' nO c'] 74)) := (Below.refl _ _).alloc (Nat.le_refl _) _
  have hb3 : Below w.heap.size w (w2.alloc (.cells #[.map (some w.heap.size), .slice A' nO c'] 74)) := hb2'.trans (hal.mono hb2'.size)
  have HP : Hid (At (w2.alloc (.cells #[.map (some w.heap.size), .slice A' nO c'] 74)) w2.heap.size s (fun k => w.heap.size ≤ k) (fun k => C k ∧ k < w.heap.size)) := Lib.hid
    ⟨w.heap.size, A', nO, c', ps, Mem.Blk.new, ⟨es, HF.out, fun e he => ((HE.out e he).mono (C' := fun k => C k ∧ k < w.heap.size) (fun k hk hc => ⟨hc, hk⟩)).below hb3, own_heap (own_heap HO1.out (hb2.block _ hlt1)) (hal.block _ (by omega))⟩,
      hR2.keep fun k hk => hal.block k (hR2.lt hk), HOp.out, fun p hp => ((HH.out p hp).mono (C' := fun k => C k ∧ k < w.heap.size) (fun k hk hc => ⟨hc, hk⟩)).below hb3, ⟨by omega, Nat.le_refl _, fun k hk => by have := hf2 k hk; omega⟩, fun k c d => by omega⟩
  clear hR2 hb2 hf2 HO1 HL1 HB HR HOp HH HE HF
  refine Reg.takes (n := 2) (by kernel_rfl) (fun _ _ d _ _ h => by cases d <;> exact h) hb2' [10] _ _ (by kernel_rfl) ?_
  iterate 1 (refine Reg.det_step rfl (fun K' hK' => ?_); go_simp; (first | (refine hK' _ ?_; clear hK' K') | (apply Exists.intro; refine ⟨fun wx hwx => ?_, hK' _ ?_⟩; (first | rfl | (go_simp; first | done | rfl)); clear hK' K')))
  refine Reg.det_nil ?_
  refine Reg.one (i := 11) (n := 1) (by kernel_rfl) ?_
  refine Reg.val rfl rfl (v := .pointer (some ⟨w2.heap.size, 0, none⟩)) (w' := w2.alloc (.cells #[.map (some w.heap.size), .slice A' nO c'] 74)) (by go_simp) hb3 ?_
  refine Reg.takes (n := 0) (by kernel_rfl) (fun _ _ d _ _ h => by cases d <;> exact h) hb3 [12] _ _ (by kernel_rfl) ?_
  iterate 1 (refine Reg.det_step rfl (fun K' hK' => ?_); go_simp; (first | (refine hK' _ ?_; clear hK' K') | (apply Exists.intro; refine ⟨fun wx hwx => ?_, hK' _ ?_⟩; (first | rfl | (go_simp; first | done | rfl)); clear hK' K')))
  refine Reg.det_nil ?_
  refine wpAnyH_done (by kernel_rfl) ?_ _
  go_wp2_with fail
  go_ret
  exact ⟨_, rfl, hb3, HP.out⟩
end Dk
end Go.Proofs.Ytnaidihoijociaa
