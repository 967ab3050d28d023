/- Layer 11 (ckpt): the walks of a save's steps. -/
import Derived.Test.YtnaidihoijociaaCkF
namespace Go.Proofs.Ytnaidihoijociaa
open Go.RowKit Go.Maps
namespace Ck
open Dk Bs
open Crc (Byte)
section
variable {W w : World} {g sb b1 b2 b3 n c : Nat} {s : Ds} {K : KL} {R : RL} {m : Option (List Byte)} {v : Int} {A : Option Addr} {fr : List Byte}
def bxS (sb : Nat) : Array Value := #[.pointer (some ⟨sb, 0, none⟩)]
def bxB (A : Option Addr) (n c : Nat) : Array Value := #[.slice A n c]
/-- the three cells that the first step reads -/
structure C3 (b1 b2 sb g : Nat) (A : Option Addr) (n c : Nat) (w : World) : Prop where
  x1 : w.cell? ⟨b1, 0, none⟩ = some (.pointer (some ⟨sb, 0, none⟩))
  x2 : w.cell? ⟨b2, 0, none⟩ = some (.slice A n c)
  x3 : w.cell? ⟨sb, 0, none⟩ = some (.pointer (some ⟨g, 0, none⟩))
theorem CK.c3 (h : CK W w g s K R) (h1 : (b1, 52, bxS sb) ∈ K) (h2 : (b2, 27, bxB A n c) ∈ K) (h3 : (sb, 91, stk g v) ∈ K) : C3 b1 b2 sb g A n c w :=
  ⟨(h.blk h1).cell 0, (h.blk h2).cell 0, (h.blk h3).cell 0⟩
set_option maxRecDepth 100000 in
theorem st1_c (h : CK W w g s K R) (h1 : (b1, 52, bxS sb) ∈ K) (h2 : (b2, 27, bxB A n c) ∈ K) (h3 : (sb, 91, stk g v) ∈ K) (hr : (A, n, fr) ∈ R) (hnc : n ≤ c ∧ c ≤ maxLen) (h0 : 0 < n) (hn : n ≤ 100000) (hs : Fits 10 s) :
    Calls Try.prog 67 #[.pointer (some ⟨b1, 0, none⟩), .pointer (some ⟨b2, 0, none⟩)] w fun e w' => e = .returned (.tuple #[]) ∧ CK W w' g (doS s ⟨1, tT, t0, fr⟩) K R := by
  have hB := h.row hr
  have ho : Hold w (fun _ => True) A n c fr := ⟨hB, hnc, fun e => (by obtain ⟨ad, e2, _⟩ := hB.2 h0; rw [e] at e2; cases e2), fun _ _ _ => trivial⟩
  have hbY : Below w.heap.size w w.drew := (Below.refl _ _).drew
  have HY := Lib.hid (h.c3 h1 h2 h3)
  have HC := Lib.hid (fun (X : World) (s' : Ds) (hX : CK W X g s' K R) => hX.c3 h1 h2 h3)
  have HD := Lib.hid ((h.below hbY).does (kind := 1) (name := tT) (nto := t0) hs (by omega) (ho.below hbY) (show (4 : Nat) ≤ maxLen by decide) (show (0 : Nat) ≤ maxLen by decide) hn)
  have y0 : C3 b1 b2 sb g A n c w.drew := ⟨HY.out.x1, HY.out.x2, HY.out.x3⟩
  clear h h1 h2 h3 hr hnc h0 hn hs hB ho hbY
  go_enter Try.func67, Try.ntmps67
  go_wp2_with fail
  refine Reg.start (S := C3 b1 b2 sb g A n c) (by kernel_rfl) ?_
  refine Reg.takes (n := 1) (by kernel_rfl) (fun _ _ d _ _ h => by cases d <;> exact h) y0 [0, 1, 2, 3, 4, 5] _ _ (by kernel_rfl) ?_
  iterate 6 (refine Reg.det_step rfl (fun K' hK' => ?_); go_simp; (first | (refine hK' _ ?_; clear hK' K') | (apply Exists.intro; refine ⟨fun wx hwx => ?_, hK' _ ?_⟩; (first | rfl | (obtain ⟨x1, x2, x3⟩ := hwx; go_simp; first | done | rfl)); clear hK' K')))
  refine Reg.det_nil ?_
  refine Reg.one (i := 6) (n := 0) (by kernel_rfl) ?_
  refine Reg.call rfl rfl (by go_simp; exact ⟨rfl, rfl⟩) ?_
  refine HD.out.mono ?_
  rintro e w1 ⟨rfl, hS⟩
  have HS := Lib.hid hS
  refine ⟨_, rfl, HC.out w1 _ hS, ?_⟩
  refine wpAnyH_done (by kernel_rfl) ?_ _
  clear hS HD
  go_wp2_with fail
  exact bodyPost_end (results_none rfl _ _ _) rfl ⟨rfl, HS.out⟩
set_option maxRecDepth 100000 in
theorem st3_c (h : CK W w g s K R) (h1 : (b1, 52, bxS sb) ∈ K) (h3 : (sb, 91, stk g v) ∈ K) (hs : Fits 10 s) :
    Calls Try.prog 68 #[.pointer (some ⟨b1, 0, none⟩)] w fun e w' => e = .returned (.tuple #[]) ∧ CK W w' g (doS s ⟨2, tT, tM, []⟩) K R := by
  have x1 : w.cell? ⟨b1, 0, none⟩ = some (.pointer (some ⟨sb, 0, none⟩)) := (h.blk h1).cell 0
  have x3 : w.cell? ⟨sb, 0, none⟩ = some (.pointer (some ⟨g, 0, none⟩)) := (h.blk h3).cell 0
  have HD := Lib.hid (h.does (kind := 2) (name := tT) (nto := tM) hs (by omega) (Hold.none w (fun _ => True)) (show (4 : Nat) ≤ maxLen by decide) (show (4 : Nat) ≤ maxLen by decide) (by omega))
  clear h h1 h3 hs
  go_enter Try.func68, Try.ntmps68
  go_wp2_with fail
  refine HD.out.mono ?_
  rintro e w1 ⟨rfl, hS⟩
  have HS := Lib.hid hS
  clear hS HD
  go_wp2_with fail
  exact bodyPost_end (results_none rfl _ _ _) rfl ⟨rfl, HS.out⟩
set_option maxRecDepth 100000 in
theorem st4_c (h : CK W w g s ((sb, 91, stk g v) :: K) R) (h1 : (b1, 52, bxS sb) ∈ K) (hK : ∀ x ∈ K, x.1 ≠ sb) (hs : Fits 10 s) (hv : 0 ≤ v ∧ v ≤ 9000000000) :
    Calls Try.prog 69 #[.pointer (some ⟨b1, 0, none⟩)] w fun e w' => e = .returned (.tuple #[]) ∧ CK W w' g ⟨Dk.look s, []⟩ ((sb, 91, stk g (v + 1)) :: K) R := by
  have x1 : w.cell? ⟨b1, 0, none⟩ = some (.pointer (some ⟨sb, 0, none⟩)) := (h.blk (List.mem_cons_of_mem _ h1)).cell 0
  have x3 : w.cell? ⟨sb, 0, none⟩ = some (.pointer (some ⟨g, 0, none⟩)) := (h.blk (List.mem_cons_self ..)).cell 0
  have HD := Lib.hid (h.sync hs (by omega))
  have HK := Lib.hid hK
  have H1 := Lib.hid h1
  clear h h1 hs hK
  go_enter Try.func69, Try.ntmps69
  go_wp2_with fail
  refine HD.out.mono ?_
  rintro e w1 ⟨rfl, hS⟩
  have HS := Lib.hid (hS.set 1 (.int .i64 (v + 1)) (List.mem_cons_self ..) (K' := K) (fun x hx => ⟨List.mem_cons_of_mem _ hx, HK.out x hx⟩) (by decide))
  have hb := hS.blk (List.mem_cons_self ..)
  clear x1 x3
  have x1 : w1.cell? ⟨b1, 0, none⟩ = some (.pointer (some ⟨sb, 0, none⟩)) := (hS.blk (List.mem_cons_of_mem _ H1.out)).cell 0
  have x4 : w1.cell? ⟨sb, 1, none⟩ = some (.int .i64 v) := hb.cell 1
  have xf := hb.frozen 1
  clear hS HD hb HK H1
  have hw : IntKind.i64.wrap (v + 1) = v + 1 := by unfold IntKind.wrap; simp [IntKind.bits, IntKind.signed]; omega
  go_wp2_with fail
  exact bodyPost_end (results_none rfl _ _ _) rfl ⟨rfl, HS.out⟩
def fnS (g b1 b2 : Nat) : Array Value := #[.func (.func 67) #[] #[.pointer (some ⟨b1, 0, none⟩), .pointer (some ⟨b2, 0, none⟩)], .func (.func 21) #[.pointer (some ⟨g, 0, none⟩)] #[], .func (.func 68) #[] #[.pointer (some ⟨b1, 0, none⟩)], .func (.func 69) #[] #[.pointer (some ⟨b1, 0, none⟩)]]
set_option maxRecDepth 100000 in
theorem steps_w (w : World) (h3 : Mem.Blk w sb 91 (stk g v)) :
    Calls Try.prog 53 #[.pointer (some ⟨sb, 0, none⟩), .slice A n c] w fun e w' => e = .returned (.slice (some ⟨w.heap.size + 2, 0, none⟩) 4 4) ∧ w' = ((w.alloc (.cells (bxS sb) 52)).alloc (.cells (bxB A n c) 27)).alloc (.cells (fnS g w.heap.size (w.heap.size + 1)) 1) := by
  have hmf : ∀ (fn : Fn) (first cap : Array Value) (w : World), (Instr.makeFunc fn first cap).run Try.prog w = .ok (.func fn first cap) w := fun _ _ _ _ => rfl
  have x3 : w.cell? ⟨sb, 0, none⟩ = some (.pointer (some ⟨g, 0, none⟩)) := h3.cell 0
  have y3 : ((w.alloc (.cells #[.pointer (some ⟨sb, 0, none⟩)] 52)).alloc (.cells #[.slice A n c] 27)).cell? ⟨sb, 0, none⟩ = some (.pointer (some ⟨g, 0, none⟩)) := Mem.keep_alloc (Mem.keep_alloc x3)
  clear h3
  unfold bxS bxB fnS
  go_enter Try.func53, Try.ntmps53
  go_wp2_with fail
  go_ret
  exact ⟨rfl, rfl⟩
end
end Ck
end Go.Proofs.Ytnaidihoijociaa
