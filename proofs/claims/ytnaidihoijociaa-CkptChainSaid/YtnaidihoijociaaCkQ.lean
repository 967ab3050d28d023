/- Layer 11 (ckpt): the walks of Part, Steps, Save. -/
import Derived.Test.YtnaidihoijociaaCkP
namespace Go.Proofs.Ytnaidihoijociaa
open Go.RowKit Go.Maps
namespace Ck
open Dk Bs
open Crc (Byte frame)
def ver (v : Int) (k : Nat) : Int := if 4 ≤ k then v + 1 else v
section
variable {W w : World} {g sb n c : Nat} {K : KL} {R : RL} {m : Option (List Byte)} {v : Int} {A : Option Addr} {body : List Byte}
/-- the blocks that a save makes -/
def kStp (g sb b : Nat) (A : Option Addr) (n c : Nat) : KL := [(b, 52, bxS sb), (b + 1, 27, bxB A n c), (b + 2, 1, fnS g b (b + 1))]
theorem steps_k {s : Ds} (h : CK W w g s ((sb, 91, stk g v) :: K) R) :
    CK W (((w.alloc (.cells (bxS sb) 52)).alloc (.cells (bxB A n c) 27)).alloc (.cells (fnS g w.heap.size (w.heap.size + 1)) 1)) g s ((sb, 91, stk g v) :: (kStp g sb w.heap.size A n c ++ K)) R ∧ ∀ x ∈ kStp g sb w.heap.size A n c, x.1 ≠ sb := by
  have hlt := h.lt _ (List.mem_cons_self ..)
  have n1 : Mem.Blk (w.alloc (.cells (bxS sb) 52)) w.heap.size 52 (bxS sb) := Mem.Blk.new
  have h1 := h.addK ((Below.refl _ _).alloc (Nat.le_refl _) _) n1 (Nat.le_refl _)
  have e1 : (w.alloc (.cells (bxS sb) 52)).heap.size = w.heap.size + 1 := by simp
  have n2 : Mem.Blk ((w.alloc (.cells (bxS sb) 52)).alloc (.cells (bxB A n c) 27)) (w.heap.size + 1) 27 (bxB A n c) := by
    have := Mem.Blk.new (w := w.alloc (.cells (bxS sb) 52)) (t := 27) (cs := bxB A n c)
    rwa [e1] at this
  have h2 := h1.addK ((Below.refl _ _).alloc (Nat.le_refl _) _) n2 (by omega)
  have e2 : ((w.alloc (.cells (bxS sb) 52)).alloc (.cells (bxB A n c) 27)).heap.size = w.heap.size + 2 := by simp
  have n3 : Mem.Blk (((w.alloc (.cells (bxS sb) 52)).alloc (.cells (bxB A n c) 27)).alloc (.cells (fnS g w.heap.size (w.heap.size + 1)) 1)) (w.heap.size + 2) 1 (fnS g w.heap.size (w.heap.size + 1)) := by
    have := Mem.Blk.new (w := (w.alloc (.cells (bxS sb) 52)).alloc (.cells (bxB A n c) 27)) (t := 1) (cs := fnS g w.heap.size (w.heap.size + 1))
    rwa [e2] at this
  have h3 := h2.addK ((Below.refl _ _).alloc (Nat.le_refl _) _) n3 (by omega)
  refine ⟨h3.sub (fun x hx => ?_) (fun x hx => hx), fun x hx => ?_⟩
  · unfold kStp at hx
    simp only [List.cons_append, List.nil_append, List.mem_cons] at hx ⊢
    rcases hx with hx | hx | hx | hx | hx <;> simp [hx]
  · have hlt' : sb < w.heap.size := hlt
    unfold kStp at hx
    simp only [List.mem_cons, List.not_mem_nil, or_false] at hx
    rcases hx with rfl | rfl | rfl <;> (show _ ≠ _; dsimp only; omega)
set_option maxRecDepth 100000 in
set_option maxHeartbeats 4000000 in
theorem part_c (h : CK W w g ⟨fsOf m none, []⟩ ((sb, 91, stk g v) :: K) R) (hK : ∀ x ∈ K, x.1 ≠ sb) (hv : 0 ≤ v ∧ v < 4294967295) (hm : Lim m) (hB : Bs w w.heap.size A n body) (hn : n ≤ 90000) (q : Int) (r : Nat) (hr : r ≤ 4) (hq : min (max q 0) 4 = (r : Int)) :
    Calls Try.prog 37 #[.pointer (some ⟨sb, 0, none⟩), .slice A n c, .int .i64 q] w fun e w' => e = .returned (.int .i64 0) ∧ CK W w' g (stepS (frame (v + 1) body) m r) ((sb, 91, stk g (ver v r)) :: K) R := by
  have hl := hB.len
  have x1 : w.cell? ⟨sb, 1, none⟩ = some (.int .i64 v) := (h.blk (List.mem_cons_self ..)).cell 1
  have hw : IntKind.i64.wrap (v + 1) = v + 1 := by unfold IntKind.wrap; simp [IntKind.bits, IntKind.signed]; omega
  have HP := Lib.hid (Crc.fput_c (v + 1) A n c body w (by omega) (by omega) (by omega) hB)
  have H := Lib.hid h
  have HK := Lib.hid hK
  have HM := Lib.hid hm
  have HL : Hid ((frame (v + 1) body).length = n + 16) := Lib.hid (by rw [Crc.frame_len, hl])
  have hx4 : max q 0 = max q 0 := rfl
  clear h hK hm hB hx4
  go_enter Try.func37, Try.ntmps37
  go_wp2_with fail
  refine HP.out.mono ?_
  rintro e w1 ⟨A1, c1, rfl, hO, hb1⟩
  rw [hl] at hO ⊢
  obtain ⟨A9, c9, e9, hrow, hfr⟩ := row_of_own hO
  cases e9
  have H1 := Lib.hid (H.out.addRow hb1 (show BRow w1 A1 (n + 16) c1 (frame (v + 1) body) from hrow) hfr)
  have hc1 : n + 16 ≤ c1 ∧ c1 ≤ maxLen := hrow.le
  have HS := Lib.hid (steps_w (A := A1) (n := n + 16) (c := c1) w1 (H1.out.blk (List.mem_cons_self ..)))
  clear HP H hb1 hO hrow hfr x1
  obtain ⟨fr, hfr9⟩ : ∃ fr, frame (v + 1) body = fr := ⟨_, rfl⟩
  rw [hfr9] at H1 HL
  have HFR := Lib.hid hfr9
  clear hfr9
  go_wp2_with fail
  refine HS.out.mono ?_
  rintro e w2 ⟨rfl, hw2⟩
  obtain ⟨h2, hne⟩ := steps_k (A := A1) (n := n + 16) (c := c1) H1.out
  rw [← hw2] at h2
  have H2 := Lib.hid h2
  have HNe := Lib.hid hne
  generalize w1.heap.size = b at *
  clear hw2 h2 hne HS H1
  go_wp2_with fail
  go_loopw [36] (fun vi wr => ∃ k : Nat, k ≤ r ∧ vi = .int .i64 k ∧ Hid (CK W wr g (stepS fr m k) ((sb, 91, stk g (ver v k)) :: (kStp g sb b A1 (n + 16) c1 ++ K)) ((A1, n + 16, fr) :: R))) (fun i _ => r - (intOf i).toNat)
  case atStart => exact ⟨0, by omega, rfl, H2⟩
  case round =>
    clear H2
    obtain ⟨k, hk, rfl, HX⟩ := hrel
    by_cases hlt : k < r
    · have y0 : ∀ i, wr.cell? ⟨b + 2, i, none⟩ = (fnS g b (b + 1))[i]? := fun i => (HX.out.blk (b := b + 2) (t := 1) (cs := fnS g b (b + 1)) (by simp [kStp])).cell i
      have hF := fits_step HM.out (show fr.length ≤ 100000 by have := HL.out; omega) k
      have HFt := Lib.hid (hF.mono (show 4 ≤ 10 by omega))
      clear hF
      have hk4 : k = 0 ∨ k = 1 ∨ k = 2 ∨ k = 3 := by omega
      rcases hk4 with rfl | rfl | rfl | rfl
      · rw [show ((0 : Nat) : Int) = (0 : Int) from rfl]
        replace y0 : wr.cell? ⟨b + 2, 0, none⟩ = some (.func (.func 67) #[] #[.pointer (some ⟨b, 0, none⟩), .pointer (some ⟨b + 1, 0, none⟩)]) := y0 0
        go_wp2_with fail
        refine (st1_c (A := A1) (b1 := b) (b2 := b + 1) (sb := sb) (v := ver v 0) (fr := fr) HX.out (by simp [kStp]) (by simp [kStp]) (by simp) (by simp) hc1 (by omega) (by omega) HFt.out).mono ?_
        rintro e w3 ⟨rfl, hS⟩
        have H3 : Hid (CK W w3 g (stepS fr m 1) ((sb, 91, stk g (ver v 1)) :: (kStp g sb b A1 (n + 16) c1 ++ K)) ((A1, n + 16, fr) :: R)) := Lib.hid (by rw [← step0]; exact hS)
        clear hS HX y0
        go_wp2_with fail
        go_roundw
        case rel => exact ⟨1, by omega, by go_num, H3⟩
        case measure => simp [intOf]; omega
      · rw [show ((1 : Nat) : Int) = (1 : Int) from rfl]
        replace y0 : wr.cell? ⟨b + 2, 1, none⟩ = some (.func (.func 21) #[.pointer (some ⟨g, 0, none⟩)] #[]) := y0 1
        go_wp2_with fail
        refine (HX.out.sync HFt.out (by omega)).mono ?_
        rintro e w3 ⟨rfl, hS⟩
        have H3 : Hid (CK W w3 g (stepS fr m 2) ((sb, 91, stk g (ver v 2)) :: (kStp g sb b A1 (n + 16) c1 ++ K)) ((A1, n + 16, fr) :: R)) := Lib.hid (by rw [← step1]; exact hS)
        clear hS HX y0
        go_wp2_with fail
        go_roundw
        case rel => exact ⟨2, by omega, by go_num, H3⟩
        case measure => simp [intOf]; omega
      · rw [show ((2 : Nat) : Int) = (2 : Int) from rfl]
        replace y0 : wr.cell? ⟨b + 2, 2, none⟩ = some (.func (.func 68) #[] #[.pointer (some ⟨b, 0, none⟩)]) := y0 2
        go_wp2_with fail
        refine (st3_c (b1 := b) (sb := sb) (v := ver v 2) HX.out (by simp [kStp]) (by simp) HFt.out).mono ?_
        rintro e w3 ⟨rfl, hS⟩
        have H3 : Hid (CK W w3 g (stepS fr m 3) ((sb, 91, stk g (ver v 3)) :: (kStp g sb b A1 (n + 16) c1 ++ K)) ((A1, n + 16, fr) :: R)) := Lib.hid (by rw [← step2]; exact hS)
        clear hS HX y0
        go_wp2_with fail
        go_roundw
        case rel => exact ⟨3, by omega, by go_num, H3⟩
        case measure => simp [intOf]; omega
      · rw [show ((3 : Nat) : Int) = (3 : Int) from rfl]
        replace y0 : wr.cell? ⟨b + 2, 3, none⟩ = some (.func (.func 69) #[] #[.pointer (some ⟨b, 0, none⟩)]) := y0 3
        go_wp2_with fail
        refine (st4_c (b1 := b) (v := ver v 3) HX.out (by simp [kStp]) (fun x hx => (List.mem_append.1 hx).elim (HNe.out x) (HK.out x)) HFt.out (by unfold ver; rw [if_neg (by omega)]; omega)).mono ?_
        rintro e w3 ⟨rfl, hS⟩
        have H3 : Hid (CK W w3 g (stepS fr m 4) ((sb, 91, stk g (ver v 4)) :: (kStp g sb b A1 (n + 16) c1 ++ K)) ((A1, n + 16, fr) :: R)) := Lib.hid (by rw [← step3]; exact hS)
        clear hS HX y0
        go_wp2_with fail
        go_roundw
        case rel => exact ⟨4, by omega, by go_num, H3⟩
        case measure => simp [intOf]; omega
    · obtain rfl : k = r := by omega
      have HE := Lib.hid (HX.out.sub (K' := (sb, 91, stk g (ver v k)) :: K) (R' := R) (fun x hx => by
        rcases List.mem_cons.1 hx with rfl | hx
        · exact List.mem_cons_self ..
        · exact List.mem_cons_of_mem _ (List.mem_append_right _ hx)) (fun x hx => List.mem_cons_of_mem _ hx))
      clear HX HL HM HK HNe
      go_wp2_with fail
      go_ret
      exact ⟨rfl, by rw [HFR.out]; exact HE.out⟩
set_option maxRecDepth 100000 in
theorem steps_n (w : World) : Calls Try.prog 47 #[] w fun e w' => e = .returned (.int .i64 4) ∧ Below w.heap.size w w' := by
  have HN := Lib.hid ((Fm.start (W := w) (Below.refl _ _)).news (j := 1) rfl (by decide))
  go_enter Try.func47, Try.ntmps47
  go_wp2_with fail
  refine HN.out.mono ?_
  rintro e w1 ⟨g1, col1, rfl, -, -, hb1⟩
  have hS : Hid (Below w.heap.size w (w1.alloc (.cells (stk g1 0) 91))) := Lib.hid (hb1.alloc hb1.size _)
  have HS := Lib.hid (steps_w (A := none) (n := 0) (c := 0) (w1.alloc (.cells (stk g1 0) 91)) (Mem.Blk.new (w := w1)))
  have HF : Hid (∀ X : World, Below w.heap.size w X → Below w.heap.size w (((X.alloc (.cells (bxS w1.heap.size) 52)).alloc (.cells (bxB none 0 0) 27)).alloc (.cells (fnS g1 X.heap.size (X.heap.size + 1)) 1))) := Lib.hid fun X hX => ((hX.alloc hX.size _).alloc (by have := hX.size; simp; omega) _).alloc (by have := hX.size; simp; omega) _
  clear HN hb1
  unfold stk at hS HS
  go_wp2_with fail
  refine HS.out.mono ?_
  rintro e w2 ⟨rfl, hw2⟩
  have HE : Hid (Below w.heap.size w w2) := Lib.hid (by rw [hw2]; exact HF.out _ hS.out)
  clear hw2 HS HF hS
  go_wp2_with fail
  go_ret
  exact ⟨rfl, HE.out⟩
set_option maxRecDepth 100000 in
theorem save_c (h : CK W w g ⟨fsOf m none, []⟩ ((sb, 91, stk g v) :: K) R) (hK : ∀ x ∈ K, x.1 ≠ sb) (hv : 0 ≤ v ∧ v < 4294967295) (hm : Lim m) (hB : Bs w w.heap.size A n body) (hn : n ≤ 90000) :
    Calls Try.prog 34 #[.pointer (some ⟨sb, 0, none⟩), .slice A n c] w fun e w' => e = .returned (.int .i64 0) ∧ CK W w' g ⟨fsOf (some (frame (v + 1) body)) none, []⟩ ((sb, 91, stk g (v + 1)) :: K) R := by
  have HP := Lib.hid (fun (X : World) (hX : Below w.heap.size w X) => part_c (c := c) (h.below hX) hK hv hm ((hB.below hX).more hX.size) hn 4 4 (by omega) rfl)
  clear h hK hm hB
  go_enter Try.func34, Try.ntmps34
  go_wp2_with fail
  refine (steps_n _).mono ?_
  rintro e w1 ⟨rfl, hb1⟩
  have HQ := Lib.hid (HP.out w1 hb1)
  clear HP hb1
  go_wp2_with fail
  refine HQ.out.mono ?_
  rintro e w2 ⟨rfl, hS⟩
  have HS := Lib.hid hS
  clear HQ hS
  go_wp2_with fail
  go_ret
  exact ⟨rfl, HS.out⟩
/-- the last version: no save -/
theorem part_no (w : World) (h : Mem.Blk w sb 91 (stk g 4294967295)) :
    Calls Try.prog 37 #[.pointer (some ⟨sb, 0, none⟩), .slice none 0 0, .int .i64 4] w fun e w' => e = .returned (.int .i64 1) ∧ Below w.heap.size w w' := by
  have x1 : w.cell? ⟨sb, 1, none⟩ = some (.int .i64 4294967295) := h.cell 1
  have HP := Lib.hid (Crc.fput_no 4294967296 none 0 0 w (by omega) (by omega))
  clear h
  go_enter Try.func37, Try.ntmps37
  go_wp2_with fail
  refine HP.out.mono ?_
  rintro e w1 ⟨rfl, hw⟩
  subst hw
  go_wp2_with fail
  go_ret
  exact ⟨rfl, Below.refl _ _⟩
theorem save_no (h : CK W w g ⟨fsOf m none, []⟩ ((sb, 91, stk g v) :: K) R) (hv : v = 4294967295) :
    Calls Try.prog 34 #[.pointer (some ⟨sb, 0, none⟩), .slice none 0 0] w fun e w' => e = .returned (.int .i64 1) ∧ Below w.heap.size w w' := by
  subst hv
  have HB := Lib.hid (h.blk (List.mem_cons_self ..))
  clear h
  go_enter Try.func34, Try.ntmps34
  go_wp2_with fail
  refine (steps_n _).mono ?_
  rintro e w1 ⟨rfl, hb1⟩
  have HP := Lib.hid (part_no w1 (HB.out.belowS hb1))
  have H1 := Lib.hid hb1
  clear hb1 HB
  go_wp2_with fail
  refine HP.out.mono ?_
  rintro e w2 ⟨rfl, hb2⟩
  have H2 := Lib.hid (H1.out.trans (hb2.mono H1.out.size))
  clear hb2 HP H1
  go_wp2_with fail
  go_ret
  exact ⟨rfl, H2.out⟩
end
end Ck
end Go.Proofs.Ytnaidihoijociaa
