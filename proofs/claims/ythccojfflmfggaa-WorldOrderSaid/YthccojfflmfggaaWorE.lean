/- The walks of layer 16 (world): a container is created. -/
import Derived.Test.YthccojfflmfggaaWorD
import Derived.Test.YthccojfflmfggaaReg
namespace Go.Proofs.Ythccojfflmfggaa
open Go.RowKit
namespace Wo
/-- the containers with one more -/
def insB (bx : List ConV) (id : ByteArray) (round : Int) : List ConV := bx.take (Str.pos (ids bx) id) ++ ⟨id, 1, 0, round⟩ :: bx.drop (Str.pos (ids bx) id)
theorem crow_alloc {w : World} {A : Option Addr} {n c : Nat} {bx : List ConV} (h : CRow w A n c bx) (o : Obj) : CRow (w.alloc o) A n c bx := Ro.Row.keep h fun k hk => Below.heap_alloc w o k (Ro.Row.lt h hk)
theorem create_end {w w1 wI : World} {g : Nat} {s : St} {S : Nat → Prop} {AQ AB AI A' : Option Addr} {nq cq nb cb ni ci c' : Nat} {p : ConV} {bx' : List ConV} (h : AtL w g s S AQ nq cq AB nb cb AI ni ci) (hb : Below w.heap.size w w1)
    (hR : CRow wI A' (nb + 1) c' bx') (hO : Ro.Only (fun b => Ro.blk AB = some b) (w1.alloc (.cells p.arr 48)) wI) (hA : Ro.blk A' = Ro.blk AB ∨ ∃ b, Ro.blk A' = some b ∧ (w1.alloc (.cells p.arr 48)).heap.size ≤ b) :
    wI.cell? ⟨g, 2, none⟩ = some (.slice AB nb cb) ∧ (∀ o, wI.frozen? ⟨g, o, none⟩ = false) ∧ Post S w (wI.setCell ⟨g, 2, none⟩ (.slice A' (nb + 1) c')) g { s with bx := bx' } := by
  have hb2 : Below w.heap.size w (w1.alloc (.cells p.arr 48)) := hb.alloc hb.size _
  have h1 := h.keep (w' := w1.alloc (.cells p.arr 48)) (fun k hk _ => hb2.block k hk)
  obtain ⟨q1, q2, q3⟩ := h1.onlyB hO
  have hlt : ∀ k, Ro.blk A' = some k → k < wI.heap.size := fun k hk => Ro.Row.lt hR hk
  have hz := hO.size
  have hz1 := hb2.size
  refine ⟨q1.cell 2, q1.frozen, ?_⟩
  have hnew : ∀ k, Ro.blk A' = some k → ext S w wI k := by
    intro k hk
    rcases hA with hA | ⟨b, hA, hbb⟩
    · exact .inl (h.sb k (by rw [← hA]; exact hk))
    · have : b = k := by rw [hA] at hk; simpa using hk
      exact .inr ⟨by omega, hlt k hk⟩
  have hat : AtL (wI.setCell ⟨g, 2, none⟩ (.slice A' (nb + 1) c')) g { s with bx := bx' } (ext S w wI) AQ nq cq A' (nb + 1) c' AI ni ci :=
    ⟨q1.set_ 2 _, q2.only (Ro.Only.setCell _ _ _) (q2.apartB q1 (by decide)), hR.only (Ro.Only.setCell _ _ _) (hR.apartB q1 (by decide)), q3.only (Ro.Only.setCell _ _ _) (q3.apartB q1 (by decide)), .inl h.sg, fun k hk => .inl (h.sq k hk), hnew, fun k hk => .inl (h.si k hk)⟩
  refine ⟨(show At _ g _ (ext S w wI) from ⟨_, _, _, _, _, _, _, _, _, hat⟩).mono fun k _ c => ?_, ((Ro.Only.of_below hb2).trans hO fun k _ e => h.sb k e).trans (Ro.Only.setCell _ _ _) fun k _ e => by rw [e]; exact h.sg⟩
  rcases c with c | c
  · exact .inl c
  · exact .inr ⟨c.1, by simpa using c.2⟩
set_option maxRecDepth 100000 in
set_option maxHeartbeats 8000000 in
theorem wcreate_c (g : Nat) (s : St) (S : Nat → Prop) (id : ByteArray) (round : Int) (w : World) (h : At w g s S) (hs : Good s) :
    Calls Try.prog 14 #[.pointer (some ⟨g, 0, none⟩), .string id, .int .i64 round] w fun e w' => (Str.has (ids s.bx) id = true → e = .returned (.int .i64 5) ∧ Post S w w' g s) ∧ (Str.has (ids s.bx) id = false → e = .returned (.int .i64 0) ∧ Post S w w' g { s with bx := insB s.bx id round }) := by
  have hat := at_c g s S id w h hs
  cases hh : Str.has (ids s.bx) id
  · obtain ⟨AQ, nq, cq, AB, nb, cb, AI, ni, ci, h⟩ := h
    obtain ⟨_, l1, _⟩ := h.lens
    have hnb := hs.nb
    have hpl : Str.pos (ids s.bx) id ≤ nb := by have := Str.pos_le (ids s.bx) id; rw [ids_len] at this; omega
    rw [hh] at hat
    have Hat := Lib.hid hat
    have hI : Hid (insB s.bx id round = s.bx.take (Str.pos (ids s.bx) id) ++ ⟨id, 1, 0, round⟩ :: s.bx.drop (Str.pos (ids s.bx) id)) := rfl
    obtain ⟨P, hP⟩ : ∃ P, P = Str.pos (ids s.bx) id := ⟨_, rfl⟩
    rw [← hP] at Hat hpl hI
    clear hP
    have m2 : w.cell? ⟨g, 2, none⟩ = some (.slice AB nb cb) := h.blk.cell 2
    have hg := h.blk.lt
    have HL := Lib.hid h
    have sbl : ∀ k, Ro.blk AB = some k → k < w.heap.size := fun k hk => Ro.Row.lt h.b hk
    have SB := Lib.hid sbl
    clear h hs hh hat sbl
    go_enter Try.func14, Try.ntmps14
    go_wp2_with fail
    refine Hat.out.mono ?_
    rintro e w0 ⟨rfl, hb0⟩
    have HL0 : Hid (AtL w0 g s S AQ nq cq AB nb cb AI ni ci) := HL.out.keep fun k hk _ => hb0.block k hk
    have m20 : w0.cell? ⟨g, 2, none⟩ = some (.slice AB nb cb) := (hb0.cell (p := ⟨g, 2, none⟩) hg).trans m2
    have hg0 : g < w0.heap.size := Nat.lt_of_lt_of_le hg hb0.size
    clear m2 Hat
    go_wp2_with fail
    refine Reg.start (S := (fun _ => True)) (by kernel_rfl) ?_
    refine Reg.takes (n := 8) (by kernel_rfl) (fun _ _ d _ _ h => by cases d <;> exact h) trivial [0, 1, 2, 3, 5, 6, 8] _ _ (by kernel_rfl) ?_
    iterate 7 (refine Reg.det_step rfl (fun K' hK' => ?_); go_simp; (first | (refine hK' _ ?_; clear hK' K') | (apply Exists.intro; refine ⟨fun wx hwx => ?_, hK' _ ?_⟩; (first | rfl | (go_simp; first | done | rfl)); clear hK' K')))
    refine Reg.det_nil ?_
    refine Reg.two (i := 4) (j := 7) (n := 7) (by kernel_rfl) ?_ ?_
    · refine Reg.val rfl rfl (v := .slice AB nb cb) (w' := w0.drew) (by go_simp) trivial ?_
      refine Reg.one (i := 7) (n := 6) (by kernel_rfl) ?_
      refine Reg.call rfl rfl (by go_simp; exact ⟨rfl, rfl⟩) ?_
      refine (Box.new_c _).mono ?_
      rintro e w1 ⟨rfl, hb1⟩
      have hb : Below w0.heap.size w0 w1 := (show Below w0.heap.size w0 w0.drew from (Below.refl _ _).drew).trans hb1
      have m21 : w1.cell? ⟨g, 2, none⟩ = some (.slice AB nb cb) := (hb.cell (p := ⟨g, 2, none⟩) hg0).trans m20
      clear hb1
      refine ⟨_, rfl, trivial, ?_⟩
      refine Reg.takes (n := 5) (by kernel_rfl) (fun _ _ d _ _ h => by cases d <;> exact h) trivial [9] _ _ (by kernel_rfl) ?_
      iterate 1 (refine Reg.det_step rfl (fun K' hK' => ?_); go_simp; (first | (refine hK' _ ?_; clear hK' K') | (apply Exists.intro; refine ⟨fun wx hwx => ?_, hK' _ ?_⟩; (first | rfl | (go_simp; first | done | rfl)); clear hK' K')))
      refine Reg.det_nil ?_
      refine Reg.one (i := 10) (n := 4) (by kernel_rfl) ?_
      refine Reg.val rfl rfl (v := .slice (some ⟨w1.heap.size, 0, none⟩) 1 1) (w' := w1.alloc (.cells #[.string id, .int .i64 1, .int .i64 0, .int .i64 round] 48)) (by go_simp) trivial ?_
      refine Reg.one (i := 11) (n := 3) (by kernel_rfl) ?_
      refine Reg.call rfl rfl (by go_simp; exact ⟨rfl, rfl⟩) ?_
      have hL1 : AtL w1 g s S AQ nq cq AB nb cb AI ni ci := HL0.out.keep fun k hk _ => hb.block k hk
      refine (insert_c AB nb cb P w1.heap.size s.bx ⟨id, 1, 0, round⟩ _ (crow_alloc hL1.b _) hpl Mem.Blk.new (fun c => by have := Ro.Row.lt hL1.b c; omega) (by omega)).mono ?_
      rintro e wI ⟨A', c', rfl, hR, hO, hA⟩
      obtain ⟨q1, q2, q3⟩ := create_end (p := ⟨id, 1, 0, round⟩) HL0.out hb hR hO hA
      have Q3 : Hid (Post S w (wI.setCell ⟨g, 2, none⟩ (.slice A' (nb + 1) c')) g { s with bx := insB s.bx id round }) := by
        show Post _ _ _ _ _
        rw [hI.out]
        exact (Post.of_below ⟨_, _, _, _, _, _, _, _, _, HL.out⟩ hb0).trans (q3.mono_S fun _ c => .inl c)
      clear hR hO hA q3 hL1
      refine ⟨_, rfl, trivial, ?_⟩
      refine Reg.takes (n := 1) (by kernel_rfl) (fun _ _ d _ _ h => by cases d <;> exact h) trivial [12, 13] _ _ (by kernel_rfl) ?_
      iterate 2 (refine Reg.det_step rfl (fun K' hK' => ?_); go_simp; (first | (refine hK' _ ?_; clear hK' K') | (apply Exists.intro; refine ⟨fun wx hwx => ?_, hK' _ ?_⟩; (first | rfl | (go_simp; first | done | rfl)); clear hK' K')))
      refine Reg.det_nil ?_
      refine Reg.one (i := 14) (n := 0) (by kernel_rfl) ?_
      refine Reg.skip rfl rfl (w' := wI.setCell ⟨g, 2, none⟩ (.slice A' (nb + 1) c')) (by go_simp) trivial ?_
      refine wpAnyH_done (by kernel_rfl) ?_ _
      go_wp2_with fail
      go_ret
      exact ⟨fun c => (by cases c), fun _ => ⟨rfl, Q3.out⟩⟩
    · refine Reg.call rfl rfl (by go_simp; exact ⟨rfl, rfl⟩) ?_
      refine (Box.new_c _).mono ?_
      rintro e w1 ⟨rfl, hb1⟩
      have hb : Below w0.heap.size w0 w1 := (show Below w0.heap.size w0 w0.drew from (Below.refl _ _).drew).trans hb1
      have m21 : w1.cell? ⟨g, 2, none⟩ = some (.slice AB nb cb) := (hb.cell (p := ⟨g, 2, none⟩) hg0).trans m20
      clear hb1
      refine ⟨_, rfl, trivial, ?_⟩
      refine Reg.takes (n := 6) (by kernel_rfl) (fun _ _ d _ _ h => by cases d <;> exact h) trivial [9] _ _ (by kernel_rfl) ?_
      iterate 1 (refine Reg.det_step rfl (fun K' hK' => ?_); go_simp; (first | (refine hK' _ ?_; clear hK' K') | (apply Exists.intro; refine ⟨fun wx hwx => ?_, hK' _ ?_⟩; (first | rfl | (go_simp; first | done | rfl)); clear hK' K')))
      refine Reg.det_nil ?_
      refine Reg.two (i := 4) (j := 10) (n := 5) (by kernel_rfl) ?_ ?_
      · refine Reg.val rfl rfl (v := .slice AB nb cb) (w' := w1) (by go_simp) trivial ?_
        refine Reg.one (i := 10) (n := 4) (by kernel_rfl) ?_
        refine Reg.val rfl rfl (v := .slice (some ⟨w1.heap.size, 0, none⟩) 1 1) (w' := w1.alloc (.cells #[.string id, .int .i64 1, .int .i64 0, .int .i64 round] 48)) (by go_simp) trivial ?_
        refine Reg.one (i := 11) (n := 3) (by kernel_rfl) ?_
        refine Reg.call rfl rfl (by go_simp; exact ⟨rfl, rfl⟩) ?_
        have hL1 : AtL w1 g s S AQ nq cq AB nb cb AI ni ci := HL0.out.keep fun k hk _ => hb.block k hk
        refine (insert_c AB nb cb P w1.heap.size s.bx ⟨id, 1, 0, round⟩ _ (crow_alloc hL1.b _) hpl Mem.Blk.new (fun c => by have := Ro.Row.lt hL1.b c; omega) (by omega)).mono ?_
        rintro e wI ⟨A', c', rfl, hR, hO, hA⟩
        obtain ⟨q1, q2, q3⟩ := create_end (p := ⟨id, 1, 0, round⟩) HL0.out hb hR hO hA
        have Q3 : Hid (Post S w (wI.setCell ⟨g, 2, none⟩ (.slice A' (nb + 1) c')) g { s with bx := insB s.bx id round }) := by
          show Post _ _ _ _ _
          rw [hI.out]
          exact (Post.of_below ⟨_, _, _, _, _, _, _, _, _, HL.out⟩ hb0).trans (q3.mono_S fun _ c => .inl c)
        clear hR hO hA q3 hL1
        refine ⟨_, rfl, trivial, ?_⟩
        refine Reg.takes (n := 1) (by kernel_rfl) (fun _ _ d _ _ h => by cases d <;> exact h) trivial [12, 13] _ _ (by kernel_rfl) ?_
        iterate 2 (refine Reg.det_step rfl (fun K' hK' => ?_); go_simp; (first | (refine hK' _ ?_; clear hK' K') | (apply Exists.intro; refine ⟨fun wx hwx => ?_, hK' _ ?_⟩; (first | rfl | (go_simp; first | done | rfl)); clear hK' K')))
        refine Reg.det_nil ?_
        refine Reg.one (i := 14) (n := 0) (by kernel_rfl) ?_
        refine Reg.skip rfl rfl (w' := wI.setCell ⟨g, 2, none⟩ (.slice A' (nb + 1) c')) (by go_simp) trivial ?_
        refine wpAnyH_done (by kernel_rfl) ?_ _
        go_wp2_with fail
        go_ret
        exact ⟨fun c => (by cases c), fun _ => ⟨rfl, Q3.out⟩⟩
      · refine Reg.val rfl rfl (v := .slice (some ⟨w1.heap.size, 0, none⟩) 1 1) (w' := w1.alloc (.cells #[.string id, .int .i64 1, .int .i64 0, .int .i64 round] 48)) (by go_simp) trivial ?_
        refine Reg.one (i := 4) (n := 4) (by kernel_rfl) ?_
        have hg1 : g < w1.heap.size := Nat.lt_of_lt_of_le hg0 hb.size
        have m22 : (w1.alloc (.cells #[.string id, .int .i64 1, .int .i64 0, .int .i64 round] 48)).cell? ⟨g, 2, none⟩ = some (.slice AB nb cb) := Mem.keep_alloc m21
        refine Reg.val rfl rfl (v := .slice AB nb cb) (w' := w1.alloc (.cells #[.string id, .int .i64 1, .int .i64 0, .int .i64 round] 48)) (by go_simp) trivial ?_
        refine Reg.one (i := 11) (n := 3) (by kernel_rfl) ?_
        refine Reg.call rfl rfl (by go_simp; exact ⟨rfl, rfl⟩) ?_
        have hL1 : AtL w1 g s S AQ nq cq AB nb cb AI ni ci := HL0.out.keep fun k hk _ => hb.block k hk
        refine (insert_c AB nb cb P w1.heap.size s.bx ⟨id, 1, 0, round⟩ _ (crow_alloc hL1.b _) hpl Mem.Blk.new (fun c => by have := Ro.Row.lt hL1.b c; omega) (by omega)).mono ?_
        rintro e wI ⟨A', c', rfl, hR, hO, hA⟩
        obtain ⟨q1, q2, q3⟩ := create_end (p := ⟨id, 1, 0, round⟩) HL0.out hb hR hO hA
        have Q3 : Hid (Post S w (wI.setCell ⟨g, 2, none⟩ (.slice A' (nb + 1) c')) g { s with bx := insB s.bx id round }) := by
          show Post _ _ _ _ _
          rw [hI.out]
          exact (Post.of_below ⟨_, _, _, _, _, _, _, _, _, HL.out⟩ hb0).trans (q3.mono_S fun _ c => .inl c)
        clear hR hO hA q3 hL1
        refine ⟨_, rfl, trivial, ?_⟩
        refine Reg.takes (n := 1) (by kernel_rfl) (fun _ _ d _ _ h => by cases d <;> exact h) trivial [12, 13] _ _ (by kernel_rfl) ?_
        iterate 2 (refine Reg.det_step rfl (fun K' hK' => ?_); go_simp; (first | (refine hK' _ ?_; clear hK' K') | (apply Exists.intro; refine ⟨fun wx hwx => ?_, hK' _ ?_⟩; (first | rfl | (go_simp; first | done | rfl)); clear hK' K')))
        refine Reg.det_nil ?_
        refine Reg.one (i := 14) (n := 0) (by kernel_rfl) ?_
        refine Reg.skip rfl rfl (w' := wI.setCell ⟨g, 2, none⟩ (.slice A' (nb + 1) c')) (by go_simp) trivial ?_
        refine wpAnyH_done (by kernel_rfl) ?_ _
        go_wp2_with fail
        go_ret
        exact ⟨fun c => (by cases c), fun _ => ⟨rfl, Q3.out⟩⟩
  · rw [hh] at hat
    have Hat := Lib.hid hat
    have HP := Lib.hid (fun w' (hb : Below w.heap.size w w') => Post.of_below h hb)
    generalize Str.pos (ids s.bx) id = P at *
    clear h hs hh hat
    go_enter Try.func14, Try.ntmps14
    go_wp2_with fail
    refine Hat.out.mono ?_
    rintro e w0 ⟨rfl, hb0⟩
    go_wp2_with fail
    go_ret
    exact ⟨fun _ => ⟨rfl, HP.out _ hb0⟩, fun c => (by cases c)⟩
end Wo
end Go.Proofs.Ythccojfflmfggaa
