/- GraceSignals: the walk. -/
import Derived.Test.YtjfbnobijlkicaaGraceG
namespace Go.Proofs.Ytjfbnobijlkicaa
open Go.RowKit
namespace graceSignals
open Grc
theorem edge_pos {t : ThrV} {cap : Int} (h : RightT t) (h0 : 1 ≤ cap) (h1 : cap ≤ 9223372036854775807) : 0 < edgeT t cap := by
  unfold edgeT
  split
  · rename_i hp
    obtain ⟨_, _, _, _, s2⟩ := Wide.share_facts cap t.pct h1
    have hclip : Wide.clip t.pct = t.pct := by have := h.p1; unfold Wide.clip; (repeat' split) <;> omega
    have q := s2 0 (by omega)
    rw [hclip, Wide.below_iff, decide_eq_decide] at q
    refine q.1 ?_
    have e1 : Sat.num 0 = 0 := by decide
    have e2 : Sat.num cap = cap := by unfold Sat.num; split <;> omega
    have e3 : Sat.num t.pct = t.pct := by unfold Sat.num; split <;> omega
    rw [e1, e2, e3]
    simpa using Int.mul_pos (show 0 < cap by omega) hp
  · rcases h.one with ⟨_, h⟩ | ⟨h, _⟩
    · exact h
    · omega
theorem sig_edge {cap s : Int} (h0 : 1 ≤ cap) (h1 : cap ≤ 9223372036854775807) : ∀ (ths : List ThrV) (bs : List Bool) (x y z : Bool) (e : Int), (∀ t ∈ ths, RightT t) → 0 ≤ e →
    (s = 0 → x = decide (0 < e) → (sigF ths bs x y z).1 = decide (0 < edgeF cap s ths bs e)) ∧
    (s = 1 → y = decide (0 < e) → (sigF ths bs x y z).2.1 = decide (0 < edgeF cap s ths bs e)) ∧
    (s = 2 → z = decide (0 < e) → (sigF ths bs x y z).2.2 = decide (0 < edgeF cap s ths bs e)) := by
  intro ths
  induction ths with
  | nil => intro bs x y z e _ he; cases bs <;> exact ⟨fun _ h => h, fun _ h => h, fun _ h => h⟩
  | cons t ts ih =>
    intro bs x y z e hr he
    cases bs with
    | nil => exact ⟨fun _ h => h, fun _ h => h, fun _ h => h⟩
    | cons b bs =>
      simp only [sigF, edgeF]
      have hp := edge_pos (hr t List.mem_cons_self) h0 h1
      have hm : 0 ≤ (if b = true ∧ t.sig = s then max e (edgeT t cap) else e) := by split <;> omega
      have hd : ∀ v : Bool, v = decide (0 < e) → (v || (decide (t.sig = s) && b)) = decide (0 < (if b = true ∧ t.sig = s then max e (edgeT t cap) else e)) := by
        intro v hv
        by_cases hs : b = true ∧ t.sig = s
        · rw [if_pos hs, hs.1, decide_eq_true hs.2, decide_eq_true (by omega)]; simp
        · rw [if_neg hs, hv]
          have : (decide (t.sig = s) && b) = false := by
            cases b <;> simp at hs ⊢
            exact hs
          rw [this, Bool.or_false]
      obtain ⟨i0, i1, i2⟩ := ih bs (x || (decide (t.sig = 0) && b)) (y || (decide (t.sig = 1) && b)) (z || (decide (t.sig = 2) && b)) _ (fun u hu => hr u (List.mem_cons_of_mem _ hu)) hm
      refine ⟨fun hs hv => i0 hs ?_, fun hs hv => i1 hs ?_, fun hs hv => i2 hs ?_⟩
      · have := hd x hv; rw [hs] at this ⊢; exact this
      · have := hd y hv; rw [hs] at this ⊢; exact this
      · have := hd z hv; rw [hs] at this ⊢; exact this
set_option maxRecDepth 100000 in
set_option maxHeartbeats 8000000 in
theorem core (p : CfgV) (ths : List ThrV) (S : Option Addr) (m sc : Nat) (bs : List Bool) (w : World) (hp : p.ok w w.heap.size ths) (hb : Mem.Sl w w.heap.size 1 S m (bs.map Value.bool)) (hm : m ≤ 9223372036854775807) :
    Calls Try.prog 10 #[.agg p.arr, .slice S m sc] w fun e w' => e = .returned (.bool true) ∧ Below w.heap.size w w' := by
  have heb := run_eqb3
  have hright : Hid (∀ w', Below w.heap.size w w' → Calls Try.prog 39 #[.agg p.arr] w' (OkSaid (RightC p ths) w')) := fun w' hb => rcright_c p ths w' ((hp.below hb).more hb.size)
  have hsig : Hid (RightC p ths → m = p.n → ∀ w', Below w.heap.size w w' → Calls Try.prog 40 #[.agg p.arr, .slice S m sc] w' (SigSaid (sigF ths bs false false false) w')) := by
    rintro hr rfl w' hbw
    exact signals_c p ths S sc bs w' ((hp.below hbw).more hbw.size) (by have := hr.n; omega) hr.each ((hb.below hbw).more hbw.size)
  have hrsig : Hid (RightC p ths → m = p.n → ∀ w', Below w.heap.size w w' → Calls Try.prog 41 #[.agg p.arr, .slice S m sc] w' (SigSaid (sigF ths bs false false false) w')) := by
    rintro hr rfl w' hbw
    exact rsignals_c p ths S sc bs w' ((hp.below hbw).more hbw.size) (by have := hr.n; omega) hr.each ((hb.below hbw).more hbw.size)
  have hedge : Hid (RightC p ths → m = p.n → ∀ (s : Int) (w' : World), (s = 0 ∨ s = 1 ∨ s = 2) → Below w.heap.size w w' → Calls Try.prog 42 #[.agg p.arr, .slice S m sc, .int .i64 s] w' fun e w2 => e = .returned (.int .i64 (edgeF (pick3 p.c0 p.c1 p.c2 s) s ths bs 0)) ∧ Below w'.heap.size w' w2) := by
    rintro hr rfl s w' hs hbw
    exact edge_c p ths S sc bs s w' ((hp.below hbw).more hbw.size) (by have := hr.n; omega) hs ((hb.below hbw).more hbw.size)
  have hredge : Hid (RightC p ths → m = p.n → ∀ (s : Int) (w' : World), Below w.heap.size w w' → Calls Try.prog 43 #[.agg p.arr, .slice S m sc, .int .i64 s] w' fun e w2 => e = .returned (.int .i64 (edgeF (pick3 p.c0 p.c1 p.c2 s) s ths bs 0)) ∧ Below w'.heap.size w' w2) := by
    rintro hr rfl s w' hbw
    exact redge_c p ths S sc bs s w' ((hp.below hbw).more hbw.size) (by have := hr.n; omega) hr ((hb.below hbw).more hbw.size)
  have hlaw : Hid (RightC p ths → (sigF ths bs false false false).1 = decide (0 < edgeF p.c0 0 ths bs 0) ∧ (sigF ths bs false false false).2.1 = decide (0 < edgeF p.c1 1 ths bs 0) ∧ (sigF ths bs false false false).2.2 = decide (0 < edgeF p.c2 2 ths bs 0)) := by
    intro hr
    exact ⟨(sig_edge hr.c0 hp.c0.2 ths bs false false false 0 hr.each (by omega)).1 rfl (by simp), (sig_edge hr.c1 hp.c1.2 ths bs false false false 0 hr.each (by omega)).2.1 rfl (by simp), (sig_edge hr.c2 hp.c2.2 ths bs false false false 0 hr.each (by omega)).2.2 rfl (by simp)⟩
  clear hp hb
  obtain ⟨FP, hFP⟩ : ∃ FP : Prop, FP = RightC p ths := ⟨_, rfl⟩
  rw [← hFP] at hright hsig hrsig hedge hredge hlaw
  clear hFP
  have hedge0 : Hid (FP → m = p.n → ∀ (w' : World), Below w.heap.size w w' → Calls Try.prog 42 #[.agg p.arr, .slice S m sc, .int .i64 0] w' fun e w2 => e = .returned (.int .i64 (edgeF p.c0 0 ths bs 0)) ∧ Below w'.heap.size w' w2) := fun a b w' h => hedge.out a b 0 w' (.inl rfl) h
  have hedge1 : Hid (FP → m = p.n → ∀ (w' : World), Below w.heap.size w w' → Calls Try.prog 42 #[.agg p.arr, .slice S m sc, .int .i64 1] w' fun e w2 => e = .returned (.int .i64 (edgeF p.c1 1 ths bs 0)) ∧ Below w'.heap.size w' w2) := fun a b w' h => hedge.out a b 1 w' (.inr (.inl rfl)) h
  have hedge2 : Hid (FP → m = p.n → ∀ (w' : World), Below w.heap.size w w' → Calls Try.prog 42 #[.agg p.arr, .slice S m sc, .int .i64 2] w' fun e w2 => e = .returned (.int .i64 (edgeF p.c2 2 ths bs 0)) ∧ Below w'.heap.size w' w2) := fun a b w' h => hedge.out a b 2 w' (.inr (.inr rfl)) h
  have hredge0 : Hid (FP → m = p.n → ∀ (w' : World), Below w.heap.size w w' → Calls Try.prog 43 #[.agg p.arr, .slice S m sc, .int .i64 0] w' fun e w2 => e = .returned (.int .i64 (edgeF p.c0 0 ths bs 0)) ∧ Below w'.heap.size w' w2) := fun a b w' h => hredge.out a b 0 w' h
  have hredge1 : Hid (FP → m = p.n → ∀ (w' : World), Below w.heap.size w w' → Calls Try.prog 43 #[.agg p.arr, .slice S m sc, .int .i64 1] w' fun e w2 => e = .returned (.int .i64 (edgeF p.c1 1 ths bs 0)) ∧ Below w'.heap.size w' w2) := fun a b w' h => hredge.out a b 1 w' h
  have hredge2 : Hid (FP → m = p.n → ∀ (w' : World), Below w.heap.size w w' → Calls Try.prog 43 #[.agg p.arr, .slice S m sc, .int .i64 2] w' fun e w2 => e = .returned (.int .i64 (edgeF p.c2 2 ths bs 0)) ∧ Below w'.heap.size w' w2) := fun a b w' h => hredge.out a b 2 w' h
  clear hedge hredge
  generalize edgeF p.c0 0 ths bs 0 = E0 at *
  generalize edgeF p.c1 1 ths bs 0 = E1 at *
  generalize edgeF p.c2 2 ths bs 0 = E2 at *
  generalize sigF ths bs false false false = FF at *
  obtain ⟨x, y, z⟩ := FF
  dsimp only at hlaw
  obtain ⟨k0, k1, k2, a0, a1, a2, A, n, c, per, ret, age, dead⟩ := p
  unfold CfgV.arr at hright hsig hrsig hedge0 hedge1 hedge2 hredge0 hredge1 hredge2 ⊢
  dsimp only at hright hsig hrsig hedge0 hedge1 hedge2 hredge0 hredge1 hredge2 ⊢
  go_enter Try.func10, Try.ntmps10
  go_wp2_with fail
  refine (gawake_c _).mono ?_
  rintro e w1 ⟨rfl, hb1⟩
  have L1 : Below w.heap.size w w1 := ((Below.refl _ _).alloc (Nat.le_refl _) _).trans (hb1.mono (by simp <;> omega))
  have C1 : Mem.Blk w1 w.heap.size 47 #[.int .i64 k0, .int .i64 k1, .int .i64 k2, .int .i64 a0, .int .i64 a1, .int .i64 a2, .slice A n c, .int .i64 per, .int .i64 ret, .int .i64 age, .int .i64 dead] := Mem.Blk.new.belowS hb1
  clear hb1
  have m0 : w1.cell? ⟨w.heap.size, 0, none⟩ = some (.int .i64 k0) := C1.cell 0
  have m1 : w1.cell? ⟨w.heap.size, 1, none⟩ = some (.int .i64 k1) := C1.cell 1
  have m2 : w1.cell? ⟨w.heap.size, 2, none⟩ = some (.int .i64 k2) := C1.cell 2
  have m3 : w1.cell? ⟨w.heap.size, 3, none⟩ = some (.int .i64 a0) := C1.cell 3
  have m4 : w1.cell? ⟨w.heap.size, 4, none⟩ = some (.int .i64 a1) := C1.cell 4
  have m5 : w1.cell? ⟨w.heap.size, 5, none⟩ = some (.int .i64 a2) := C1.cell 5
  have m6 : w1.cell? ⟨w.heap.size, 6, none⟩ = some (.slice A n c) := C1.cell 6
  have m7 : w1.cell? ⟨w.heap.size, 7, none⟩ = some (.int .i64 per) := C1.cell 7
  have m8 : w1.cell? ⟨w.heap.size, 8, none⟩ = some (.int .i64 ret) := C1.cell 8
  have m9 : w1.cell? ⟨w.heap.size, 9, none⟩ = some (.int .i64 age) := C1.cell 9
  have m10 : w1.cell? ⟨w.heap.size, 10, none⟩ = some (.int .i64 dead) := C1.cell 10
  go_wp2_with fail
  refine (hright.out _ L1).mono ?_
  rintro e w2 ⟨b, rfl, hfb, hb2⟩
  have L2 : Below w.heap.size w w2 := L1.trans (hb2.mono L1.size)
  have C2 := C1.belowS hb2
  clear hb2 C1 L1 m0 m1 m2 m3 m4 m5 m6 m7 m8 m9 m10
  cases b with
  | false =>
    clear hfb
    go_wp2_with fail
    refine (gawake_c _).mono ?_
    rintro e w9 ⟨rfl, hb9⟩
    go_wp2_with fail
    go_ret
    exact ⟨rfl, L2.trans (hb9.mono L2.size)⟩
  | true =>
    have HF := Lib.hid (hfb rfl)
    clear hfb hright
    have m0 : w2.cell? ⟨w.heap.size, 0, none⟩ = some (.int .i64 k0) := C2.cell 0
    have m1 : w2.cell? ⟨w.heap.size, 1, none⟩ = some (.int .i64 k1) := C2.cell 1
    have m2 : w2.cell? ⟨w.heap.size, 2, none⟩ = some (.int .i64 k2) := C2.cell 2
    have m3 : w2.cell? ⟨w.heap.size, 3, none⟩ = some (.int .i64 a0) := C2.cell 3
    have m4 : w2.cell? ⟨w.heap.size, 4, none⟩ = some (.int .i64 a1) := C2.cell 4
    have m5 : w2.cell? ⟨w.heap.size, 5, none⟩ = some (.int .i64 a2) := C2.cell 5
    have m6 : w2.cell? ⟨w.heap.size, 6, none⟩ = some (.slice A n c) := C2.cell 6
    have m7 : w2.cell? ⟨w.heap.size, 7, none⟩ = some (.int .i64 per) := C2.cell 7
    have m8 : w2.cell? ⟨w.heap.size, 8, none⟩ = some (.int .i64 ret) := C2.cell 8
    have m9 : w2.cell? ⟨w.heap.size, 9, none⟩ = some (.int .i64 age) := C2.cell 9
    have m10 : w2.cell? ⟨w.heap.size, 10, none⟩ = some (.int .i64 dead) := C2.cell 10
    have hor : m ≠ n ∨ m = n := by omega
    rcases hor with hq | rfl
    · have dd : ((m : Int) == (n : Int)) = false := by simp; omega
      have Hq := Lib.hid hq
      clear hq
      go_wp2_with fail
      refine (gawake_c _).mono ?_
      rintro e w9 ⟨rfl, hb9⟩
      go_wp2_with fail
      go_ret
      exact ⟨rfl, L2.trans (hb9.mono L2.size)⟩
    have HL := Lib.hid (hlaw.out HF.out)
    clear hlaw
    go_wp2_with fail
    refine (hsig.out HF.out (by first | rfl | trivial) _ L2).mono ?_
    rintro e w3 ⟨rfl, hb3⟩
    dsimp only
    have L3 : Below w.heap.size w w3 := L2.trans (hb3.mono L2.size)
    have C3 : Mem.Blk w3 w.heap.size 47 #[.int .i64 k0, .int .i64 k1, .int .i64 k2, .int .i64 a0, .int .i64 a1, .int .i64 a2, .slice A m c, .int .i64 per, .int .i64 ret, .int .i64 age, .int .i64 dead] := C2.belowS hb3
    clear hb3 C2 L2 hsig m0 m1 m2 m3 m4 m5 m6 m7 m8 m9 m10
    go_wp2_with fail
    obtain ⟨X, hX⟩ : ∃ X, X = World.drew (w3.alloc (.cells #[.bool x, .bool y, .bool z] 58)) := ⟨_, rfl⟩
    have LX : Below w.heap.size w X := by rw [hX]; exact (L3.alloc L3.size _).drew
    have zX : w3.heap.size < X.heap.size := by rw [hX]; simp
    have zC : w.heap.size < w3.heap.size := C3.lt
    have TX : Mem.Blk X w3.heap.size 58 #[.bool x, .bool y, .bool z] := by rw [hX]; exact Mem.Blk.new.drew
    have BX : Mem.Blk X w.heap.size 47 #[.int .i64 k0, .int .i64 k1, .int .i64 k2, .int .i64 a0, .int .i64 a1, .int .i64 a2, .slice A m c, .int .i64 per, .int .i64 ret, .int .i64 age, .int .i64 dead] := by rw [hX]; exact C3.alloc.drew
    have SX : (fun w' => Mem.Blk w' w.heap.size 47 #[.int .i64 k0, .int .i64 k1, .int .i64 k2, .int .i64 a0, .int .i64 a1, .int .i64 a2, .slice A m c, .int .i64 per, .int .i64 ret, .int .i64 age, .int .i64 dead] ∧ Mem.Blk w' w3.heap.size 58 #[.bool x, .bool y, .bool z]) X := ⟨BX, TX⟩
    refine Reg.start (S := (fun w' => Mem.Blk w' w.heap.size 47 #[.int .i64 k0, .int .i64 k1, .int .i64 k2, .int .i64 a0, .int .i64 a1, .int .i64 a2, .slice A m c, .int .i64 per, .int .i64 ret, .int .i64 age, .int .i64 dead] ∧ Mem.Blk w' w3.heap.size 58 #[.bool x, .bool y, .bool z])) (by kernel_rfl) ?_
    rw [← hX]
    clear hX
    refine Reg.takes (n := 2) (by kernel_rfl) (fun _ _ d _ _ h => by cases d <;> exact h) SX [0, 1, 2] _ _ (by kernel_rfl) ?_
    iterate 3 (refine Reg.det_step rfl (fun K' hK' => ?_); go_simp; (first | (refine hK' _ ?_; clear hK' K') | (apply Exists.intro; refine ⟨fun wx hwx => ?_, hK' _ ?_⟩; (first | rfl | (have hA := hwx; intro hB; have m0 : wx.cell? ⟨w.heap.size, 0, none⟩ = some (.int .i64 k0) := Mem.Blk.cell hA 0; have m1 : wx.cell? ⟨w.heap.size, 1, none⟩ = some (.int .i64 k1) := Mem.Blk.cell hA 1; have m2 : wx.cell? ⟨w.heap.size, 2, none⟩ = some (.int .i64 k2) := Mem.Blk.cell hA 2; have m3 : wx.cell? ⟨w.heap.size, 3, none⟩ = some (.int .i64 a0) := Mem.Blk.cell hA 3; have m4 : wx.cell? ⟨w.heap.size, 4, none⟩ = some (.int .i64 a1) := Mem.Blk.cell hA 4; have m5 : wx.cell? ⟨w.heap.size, 5, none⟩ = some (.int .i64 a2) := Mem.Blk.cell hA 5; have m6 : wx.cell? ⟨w.heap.size, 6, none⟩ = some (.slice A m c) := Mem.Blk.cell hA 6; have m7 : wx.cell? ⟨w.heap.size, 7, none⟩ = some (.int .i64 per) := Mem.Blk.cell hA 7; have m8 : wx.cell? ⟨w.heap.size, 8, none⟩ = some (.int .i64 ret) := Mem.Blk.cell hA 8; have m9 : wx.cell? ⟨w.heap.size, 9, none⟩ = some (.int .i64 age) := Mem.Blk.cell hA 9; have m10 : wx.cell? ⟨w.heap.size, 10, none⟩ = some (.int .i64 dead) := Mem.Blk.cell hA 10; have n0 : wx.cell? ⟨w3.heap.size, 0, none⟩ = some (.bool x) := Mem.Blk.cell hB 0; have n1 : wx.cell? ⟨w3.heap.size, 1, none⟩ = some (.bool y) := Mem.Blk.cell hB 1; have n2 : wx.cell? ⟨w3.heap.size, 2, none⟩ = some (.bool z) := Mem.Blk.cell hB 2; go_simp; first | done | rfl)); clear hK' K')))
    refine Reg.det_nil ?_
    refine Reg.one (i := 3) (n := 1) (by kernel_rfl) ?_
    refine Reg.call rfl rfl (by go_simp; exact ⟨rfl, rfl⟩) ?_
    refine (hrsig.out HF.out (by first | rfl | trivial) _ LX).mono ?_
    rintro e w4 ⟨rfl, hb4⟩
    dsimp only
    have L4 : Below w.heap.size w w4 := LX.trans (hb4.mono LX.size)
    have C4 := BX.belowS hb4
    have D4 := TX.belowS hb4
    have zG : w3.heap.size < w4.heap.size := by have := hb4.size; omega
    have S4 : (fun w' => Mem.Blk w' w.heap.size 47 #[.int .i64 k0, .int .i64 k1, .int .i64 k2, .int .i64 a0, .int .i64 a1, .int .i64 a2, .slice A m c, .int .i64 per, .int .i64 ret, .int .i64 age, .int .i64 dead] ∧ Mem.Blk w' w3.heap.size 58 #[.bool x, .bool y, .bool z]) w4 := ⟨C4, D4⟩
    refine ⟨_, rfl, S4, ?_⟩
    refine Reg.takes (n := 0) (by kernel_rfl) (fun _ _ d _ _ h => by cases d <;> exact h) S4 [4] _ _ (by kernel_rfl) ?_
    iterate 1 (refine Reg.det_step rfl (fun K' hK' => ?_); go_simp; (first | (refine hK' _ ?_; clear hK' K') | (apply Exists.intro; refine ⟨fun wx hwx => ?_, hK' _ ?_⟩; (first | rfl | (have hA := hwx; intro hB; have m0 : wx.cell? ⟨w.heap.size, 0, none⟩ = some (.int .i64 k0) := Mem.Blk.cell hA 0; have m1 : wx.cell? ⟨w.heap.size, 1, none⟩ = some (.int .i64 k1) := Mem.Blk.cell hA 1; have m2 : wx.cell? ⟨w.heap.size, 2, none⟩ = some (.int .i64 k2) := Mem.Blk.cell hA 2; have m3 : wx.cell? ⟨w.heap.size, 3, none⟩ = some (.int .i64 a0) := Mem.Blk.cell hA 3; have m4 : wx.cell? ⟨w.heap.size, 4, none⟩ = some (.int .i64 a1) := Mem.Blk.cell hA 4; have m5 : wx.cell? ⟨w.heap.size, 5, none⟩ = some (.int .i64 a2) := Mem.Blk.cell hA 5; have m6 : wx.cell? ⟨w.heap.size, 6, none⟩ = some (.slice A m c) := Mem.Blk.cell hA 6; have m7 : wx.cell? ⟨w.heap.size, 7, none⟩ = some (.int .i64 per) := Mem.Blk.cell hA 7; have m8 : wx.cell? ⟨w.heap.size, 8, none⟩ = some (.int .i64 ret) := Mem.Blk.cell hA 8; have m9 : wx.cell? ⟨w.heap.size, 9, none⟩ = some (.int .i64 age) := Mem.Blk.cell hA 9; have m10 : wx.cell? ⟨w.heap.size, 10, none⟩ = some (.int .i64 dead) := Mem.Blk.cell hA 10; have n0 : wx.cell? ⟨w3.heap.size, 0, none⟩ = some (.bool x) := Mem.Blk.cell hB 0; have n1 : wx.cell? ⟨w3.heap.size, 1, none⟩ = some (.bool y) := Mem.Blk.cell hB 1; have n2 : wx.cell? ⟨w3.heap.size, 2, none⟩ = some (.bool z) := Mem.Blk.cell hB 2; go_simp; first | done | rfl)); clear hK' K')))
    refine Reg.det_nil ?_
    refine wpAnyH_done (by kernel_rfl) ?_ _
    clear hb4 C3 L3 BX TX SX S4 LX
    go_wp2_with fail
    have he0 := hedge0.out HF.out (by first | rfl | trivial)
    have he1 := hedge1.out HF.out (by first | rfl | trivial)
    have he2 := hedge2.out HF.out (by first | rfl | trivial)
    have hr0 := hredge0.out HF.out (by first | rfl | trivial)
    have hr1 := hredge1.out HF.out (by first | rfl | trivial)
    have hr2 := hredge2.out HF.out (by first | rfl | trivial)
    have He0 := Lib.hid he0
    have He1 := Lib.hid he1
    have He2 := Lib.hid he2
    have Hr0 := Lib.hid hr0
    have Hr1 := Lib.hid hr1
    have Hr2 := Lib.hid hr2
    clear he0 he1 he2 hr0 hr1 hr2 hedge0 hedge1 hedge2 hredge0 hredge1 hredge2 hrsig heb
    generalize w3.heap.size = g at *
    go_loopw [6] (fun vi wr => ∃ k : Nat, k ≤ 3 ∧ vi = .int .i64 k ∧ Below w.heap.size w wr ∧ g < wr.heap.size ∧ Mem.Blk wr w.heap.size 47 #[.int .i64 k0, .int .i64 k1, .int .i64 k2, .int .i64 a0, .int .i64 a1, .int .i64 a2, .slice A m c, .int .i64 per, .int .i64 ret, .int .i64 age, .int .i64 dead] ∧ Mem.Blk wr g 58 #[.bool x, .bool y, .bool z]) (fun i _ => 3 - (intOf i).toNat)
    case atStart => exact ⟨0, by omega, rfl, L4, zG, C4, D4⟩
    case round =>
      clear L4 zG C4 D4 zX
      obtain ⟨k, hk, rfl, hbr, hg, B0, B1⟩ := hrel
      by_cases hlt : k < 3
      · have hor : k = 0 ∨ k = 1 ∨ k = 2 := by omega
        rcases hor with rfl | rfl | rfl
        · rw [show ((0 : Nat) : Int) = (0 : Int) from rfl]
          have hv := HL.out.1
          have hor : (0 < E0 ∧ x = true) ∨ (E0 ≤ 0 ∧ x = false) := by
            by_cases h : 0 < E0
            · exact .inl ⟨h, by rw [hv]; simp [h]⟩
            · exact .inr ⟨by omega, by rw [hv]; simp; omega⟩
          clear hv
          rcases hor with ⟨hE, rfl⟩ | ⟨hE, rfl⟩
          · have dd : decide (0 < E0) = true := by simp; omega
            have m0 : wr.cell? ⟨w.heap.size, 0, none⟩ = some (.int .i64 k0) := B0.cell 0
            have m1 : wr.cell? ⟨w.heap.size, 1, none⟩ = some (.int .i64 k1) := B0.cell 1
            have m2 : wr.cell? ⟨w.heap.size, 2, none⟩ = some (.int .i64 k2) := B0.cell 2
            have m3 : wr.cell? ⟨w.heap.size, 3, none⟩ = some (.int .i64 a0) := B0.cell 3
            have m4 : wr.cell? ⟨w.heap.size, 4, none⟩ = some (.int .i64 a1) := B0.cell 4
            have m5 : wr.cell? ⟨w.heap.size, 5, none⟩ = some (.int .i64 a2) := B0.cell 5
            have m6 : wr.cell? ⟨w.heap.size, 6, none⟩ = some (.slice A m c) := B0.cell 6
            have m7 : wr.cell? ⟨w.heap.size, 7, none⟩ = some (.int .i64 per) := B0.cell 7
            have m8 : wr.cell? ⟨w.heap.size, 8, none⟩ = some (.int .i64 ret) := B0.cell 8
            have m9 : wr.cell? ⟨w.heap.size, 9, none⟩ = some (.int .i64 age) := B0.cell 9
            have m10 : wr.cell? ⟨w.heap.size, 10, none⟩ = some (.int .i64 dead) := B0.cell 10
            go_wp2_with fail
            refine (He0.out _ hbr).mono ?_
            rintro e w5 ⟨rfl, hb5⟩
            have L5 : Below w.heap.size w w5 := hbr.trans (hb5.mono hbr.size)
            have C5 := B0.belowS hb5
            have D5 := B1.belowS hb5
            have g5 : g < w5.heap.size := by have := hb5.size; omega
            clear hb5 hbr B0 B1 hg m0 m1 m2 m3 m4 m5 m6 m7 m8 m9 m10
            have m0 : w5.cell? ⟨w.heap.size, 0, none⟩ = some (.int .i64 k0) := C5.cell 0
            have m1 : w5.cell? ⟨w.heap.size, 1, none⟩ = some (.int .i64 k1) := C5.cell 1
            have m2 : w5.cell? ⟨w.heap.size, 2, none⟩ = some (.int .i64 k2) := C5.cell 2
            have m3 : w5.cell? ⟨w.heap.size, 3, none⟩ = some (.int .i64 a0) := C5.cell 3
            have m4 : w5.cell? ⟨w.heap.size, 4, none⟩ = some (.int .i64 a1) := C5.cell 4
            have m5 : w5.cell? ⟨w.heap.size, 5, none⟩ = some (.int .i64 a2) := C5.cell 5
            have m6 : w5.cell? ⟨w.heap.size, 6, none⟩ = some (.slice A m c) := C5.cell 6
            have m7 : w5.cell? ⟨w.heap.size, 7, none⟩ = some (.int .i64 per) := C5.cell 7
            have m8 : w5.cell? ⟨w.heap.size, 8, none⟩ = some (.int .i64 ret) := C5.cell 8
            have m9 : w5.cell? ⟨w.heap.size, 9, none⟩ = some (.int .i64 age) := C5.cell 9
            have m10 : w5.cell? ⟨w.heap.size, 10, none⟩ = some (.int .i64 dead) := C5.cell 10
            go_wp2_with fail
            refine (Hr0.out _ L5).mono ?_
            rintro e w6 ⟨rfl, hb6⟩
            have L6 : Below w.heap.size w w6 := L5.trans (hb6.mono L5.size)
            have C6 := C5.belowS hb6
            have D6 := D5.belowS hb6
            have g6 : g < w6.heap.size := by have := hb6.size; omega
            clear hb6 L5 C5 D5 g5 m0 m1 m2 m3 m4 m5 m6 m7 m8 m9 m10
            have n0 : w6.cell? ⟨g, 0, none⟩ = some (.bool true) := D6.cell 0
            go_wp2_with fail
            go_roundw
            case rel => exact ⟨1, by omega, rfl, L6, g6, C6, D6⟩
            case measure => simp [intOf]
          · have dd : decide (0 < E0) = false := by simp; omega
            have m0 : wr.cell? ⟨w.heap.size, 0, none⟩ = some (.int .i64 k0) := B0.cell 0
            have m1 : wr.cell? ⟨w.heap.size, 1, none⟩ = some (.int .i64 k1) := B0.cell 1
            have m2 : wr.cell? ⟨w.heap.size, 2, none⟩ = some (.int .i64 k2) := B0.cell 2
            have m3 : wr.cell? ⟨w.heap.size, 3, none⟩ = some (.int .i64 a0) := B0.cell 3
            have m4 : wr.cell? ⟨w.heap.size, 4, none⟩ = some (.int .i64 a1) := B0.cell 4
            have m5 : wr.cell? ⟨w.heap.size, 5, none⟩ = some (.int .i64 a2) := B0.cell 5
            have m6 : wr.cell? ⟨w.heap.size, 6, none⟩ = some (.slice A m c) := B0.cell 6
            have m7 : wr.cell? ⟨w.heap.size, 7, none⟩ = some (.int .i64 per) := B0.cell 7
            have m8 : wr.cell? ⟨w.heap.size, 8, none⟩ = some (.int .i64 ret) := B0.cell 8
            have m9 : wr.cell? ⟨w.heap.size, 9, none⟩ = some (.int .i64 age) := B0.cell 9
            have m10 : wr.cell? ⟨w.heap.size, 10, none⟩ = some (.int .i64 dead) := B0.cell 10
            go_wp2_with fail
            refine (He0.out _ hbr).mono ?_
            rintro e w5 ⟨rfl, hb5⟩
            have L5 : Below w.heap.size w w5 := hbr.trans (hb5.mono hbr.size)
            have C5 := B0.belowS hb5
            have D5 := B1.belowS hb5
            have g5 : g < w5.heap.size := by have := hb5.size; omega
            clear hb5 hbr B0 B1 hg m0 m1 m2 m3 m4 m5 m6 m7 m8 m9 m10
            have m0 : w5.cell? ⟨w.heap.size, 0, none⟩ = some (.int .i64 k0) := C5.cell 0
            have m1 : w5.cell? ⟨w.heap.size, 1, none⟩ = some (.int .i64 k1) := C5.cell 1
            have m2 : w5.cell? ⟨w.heap.size, 2, none⟩ = some (.int .i64 k2) := C5.cell 2
            have m3 : w5.cell? ⟨w.heap.size, 3, none⟩ = some (.int .i64 a0) := C5.cell 3
            have m4 : w5.cell? ⟨w.heap.size, 4, none⟩ = some (.int .i64 a1) := C5.cell 4
            have m5 : w5.cell? ⟨w.heap.size, 5, none⟩ = some (.int .i64 a2) := C5.cell 5
            have m6 : w5.cell? ⟨w.heap.size, 6, none⟩ = some (.slice A m c) := C5.cell 6
            have m7 : w5.cell? ⟨w.heap.size, 7, none⟩ = some (.int .i64 per) := C5.cell 7
            have m8 : w5.cell? ⟨w.heap.size, 8, none⟩ = some (.int .i64 ret) := C5.cell 8
            have m9 : w5.cell? ⟨w.heap.size, 9, none⟩ = some (.int .i64 age) := C5.cell 9
            have m10 : w5.cell? ⟨w.heap.size, 10, none⟩ = some (.int .i64 dead) := C5.cell 10
            go_wp2_with fail
            refine (Hr0.out _ L5).mono ?_
            rintro e w6 ⟨rfl, hb6⟩
            have L6 : Below w.heap.size w w6 := L5.trans (hb6.mono L5.size)
            have C6 := C5.belowS hb6
            have D6 := D5.belowS hb6
            have g6 : g < w6.heap.size := by have := hb6.size; omega
            clear hb6 L5 C5 D5 g5 m0 m1 m2 m3 m4 m5 m6 m7 m8 m9 m10
            have n0 : w6.cell? ⟨g, 0, none⟩ = some (.bool false) := D6.cell 0
            go_wp2_with fail
            go_roundw
            case rel => exact ⟨1, by omega, rfl, L6, g6, C6, D6⟩
            case measure => simp [intOf]
        · rw [show ((1 : Nat) : Int) = (1 : Int) from rfl]
          have hv := HL.out.2.1
          have hor : (0 < E1 ∧ y = true) ∨ (E1 ≤ 0 ∧ y = false) := by
            by_cases h : 0 < E1
            · exact .inl ⟨h, by rw [hv]; simp [h]⟩
            · exact .inr ⟨by omega, by rw [hv]; simp; omega⟩
          clear hv
          rcases hor with ⟨hE, rfl⟩ | ⟨hE, rfl⟩
          · have dd : decide (0 < E1) = true := by simp; omega
            have m0 : wr.cell? ⟨w.heap.size, 0, none⟩ = some (.int .i64 k0) := B0.cell 0
            have m1 : wr.cell? ⟨w.heap.size, 1, none⟩ = some (.int .i64 k1) := B0.cell 1
            have m2 : wr.cell? ⟨w.heap.size, 2, none⟩ = some (.int .i64 k2) := B0.cell 2
            have m3 : wr.cell? ⟨w.heap.size, 3, none⟩ = some (.int .i64 a0) := B0.cell 3
            have m4 : wr.cell? ⟨w.heap.size, 4, none⟩ = some (.int .i64 a1) := B0.cell 4
            have m5 : wr.cell? ⟨w.heap.size, 5, none⟩ = some (.int .i64 a2) := B0.cell 5
            have m6 : wr.cell? ⟨w.heap.size, 6, none⟩ = some (.slice A m c) := B0.cell 6
            have m7 : wr.cell? ⟨w.heap.size, 7, none⟩ = some (.int .i64 per) := B0.cell 7
            have m8 : wr.cell? ⟨w.heap.size, 8, none⟩ = some (.int .i64 ret) := B0.cell 8
            have m9 : wr.cell? ⟨w.heap.size, 9, none⟩ = some (.int .i64 age) := B0.cell 9
            have m10 : wr.cell? ⟨w.heap.size, 10, none⟩ = some (.int .i64 dead) := B0.cell 10
            go_wp2_with fail
            refine (He1.out _ hbr).mono ?_
            rintro e w5 ⟨rfl, hb5⟩
            have L5 : Below w.heap.size w w5 := hbr.trans (hb5.mono hbr.size)
            have C5 := B0.belowS hb5
            have D5 := B1.belowS hb5
            have g5 : g < w5.heap.size := by have := hb5.size; omega
            clear hb5 hbr B0 B1 hg m0 m1 m2 m3 m4 m5 m6 m7 m8 m9 m10
            have m0 : w5.cell? ⟨w.heap.size, 0, none⟩ = some (.int .i64 k0) := C5.cell 0
            have m1 : w5.cell? ⟨w.heap.size, 1, none⟩ = some (.int .i64 k1) := C5.cell 1
            have m2 : w5.cell? ⟨w.heap.size, 2, none⟩ = some (.int .i64 k2) := C5.cell 2
            have m3 : w5.cell? ⟨w.heap.size, 3, none⟩ = some (.int .i64 a0) := C5.cell 3
            have m4 : w5.cell? ⟨w.heap.size, 4, none⟩ = some (.int .i64 a1) := C5.cell 4
            have m5 : w5.cell? ⟨w.heap.size, 5, none⟩ = some (.int .i64 a2) := C5.cell 5
            have m6 : w5.cell? ⟨w.heap.size, 6, none⟩ = some (.slice A m c) := C5.cell 6
            have m7 : w5.cell? ⟨w.heap.size, 7, none⟩ = some (.int .i64 per) := C5.cell 7
            have m8 : w5.cell? ⟨w.heap.size, 8, none⟩ = some (.int .i64 ret) := C5.cell 8
            have m9 : w5.cell? ⟨w.heap.size, 9, none⟩ = some (.int .i64 age) := C5.cell 9
            have m10 : w5.cell? ⟨w.heap.size, 10, none⟩ = some (.int .i64 dead) := C5.cell 10
            go_wp2_with fail
            refine (Hr1.out _ L5).mono ?_
            rintro e w6 ⟨rfl, hb6⟩
            have L6 : Below w.heap.size w w6 := L5.trans (hb6.mono L5.size)
            have C6 := C5.belowS hb6
            have D6 := D5.belowS hb6
            have g6 : g < w6.heap.size := by have := hb6.size; omega
            clear hb6 L5 C5 D5 g5 m0 m1 m2 m3 m4 m5 m6 m7 m8 m9 m10
            have n1 : w6.cell? ⟨g, 1, none⟩ = some (.bool true) := D6.cell 1
            go_wp2_with fail
            go_roundw
            case rel => exact ⟨2, by omega, rfl, L6, g6, C6, D6⟩
            case measure => simp [intOf]
          · have dd : decide (0 < E1) = false := by simp; omega
            have m0 : wr.cell? ⟨w.heap.size, 0, none⟩ = some (.int .i64 k0) := B0.cell 0
            have m1 : wr.cell? ⟨w.heap.size, 1, none⟩ = some (.int .i64 k1) := B0.cell 1
            have m2 : wr.cell? ⟨w.heap.size, 2, none⟩ = some (.int .i64 k2) := B0.cell 2
            have m3 : wr.cell? ⟨w.heap.size, 3, none⟩ = some (.int .i64 a0) := B0.cell 3
            have m4 : wr.cell? ⟨w.heap.size, 4, none⟩ = some (.int .i64 a1) := B0.cell 4
            have m5 : wr.cell? ⟨w.heap.size, 5, none⟩ = some (.int .i64 a2) := B0.cell 5
            have m6 : wr.cell? ⟨w.heap.size, 6, none⟩ = some (.slice A m c) := B0.cell 6
            have m7 : wr.cell? ⟨w.heap.size, 7, none⟩ = some (.int .i64 per) := B0.cell 7
            have m8 : wr.cell? ⟨w.heap.size, 8, none⟩ = some (.int .i64 ret) := B0.cell 8
            have m9 : wr.cell? ⟨w.heap.size, 9, none⟩ = some (.int .i64 age) := B0.cell 9
            have m10 : wr.cell? ⟨w.heap.size, 10, none⟩ = some (.int .i64 dead) := B0.cell 10
            go_wp2_with fail
            refine (He1.out _ hbr).mono ?_
            rintro e w5 ⟨rfl, hb5⟩
            have L5 : Below w.heap.size w w5 := hbr.trans (hb5.mono hbr.size)
            have C5 := B0.belowS hb5
            have D5 := B1.belowS hb5
            have g5 : g < w5.heap.size := by have := hb5.size; omega
            clear hb5 hbr B0 B1 hg m0 m1 m2 m3 m4 m5 m6 m7 m8 m9 m10
            have m0 : w5.cell? ⟨w.heap.size, 0, none⟩ = some (.int .i64 k0) := C5.cell 0
            have m1 : w5.cell? ⟨w.heap.size, 1, none⟩ = some (.int .i64 k1) := C5.cell 1
            have m2 : w5.cell? ⟨w.heap.size, 2, none⟩ = some (.int .i64 k2) := C5.cell 2
            have m3 : w5.cell? ⟨w.heap.size, 3, none⟩ = some (.int .i64 a0) := C5.cell 3
            have m4 : w5.cell? ⟨w.heap.size, 4, none⟩ = some (.int .i64 a1) := C5.cell 4
            have m5 : w5.cell? ⟨w.heap.size, 5, none⟩ = some (.int .i64 a2) := C5.cell 5
            have m6 : w5.cell? ⟨w.heap.size, 6, none⟩ = some (.slice A m c) := C5.cell 6
            have m7 : w5.cell? ⟨w.heap.size, 7, none⟩ = some (.int .i64 per) := C5.cell 7
            have m8 : w5.cell? ⟨w.heap.size, 8, none⟩ = some (.int .i64 ret) := C5.cell 8
            have m9 : w5.cell? ⟨w.heap.size, 9, none⟩ = some (.int .i64 age) := C5.cell 9
            have m10 : w5.cell? ⟨w.heap.size, 10, none⟩ = some (.int .i64 dead) := C5.cell 10
            go_wp2_with fail
            refine (Hr1.out _ L5).mono ?_
            rintro e w6 ⟨rfl, hb6⟩
            have L6 : Below w.heap.size w w6 := L5.trans (hb6.mono L5.size)
            have C6 := C5.belowS hb6
            have D6 := D5.belowS hb6
            have g6 : g < w6.heap.size := by have := hb6.size; omega
            clear hb6 L5 C5 D5 g5 m0 m1 m2 m3 m4 m5 m6 m7 m8 m9 m10
            have n1 : w6.cell? ⟨g, 1, none⟩ = some (.bool false) := D6.cell 1
            go_wp2_with fail
            go_roundw
            case rel => exact ⟨2, by omega, rfl, L6, g6, C6, D6⟩
            case measure => simp [intOf]
        · rw [show ((2 : Nat) : Int) = (2 : Int) from rfl]
          have hv := HL.out.2.2
          have hor : (0 < E2 ∧ z = true) ∨ (E2 ≤ 0 ∧ z = false) := by
            by_cases h : 0 < E2
            · exact .inl ⟨h, by rw [hv]; simp [h]⟩
            · exact .inr ⟨by omega, by rw [hv]; simp; omega⟩
          clear hv
          rcases hor with ⟨hE, rfl⟩ | ⟨hE, rfl⟩
          · have dd : decide (0 < E2) = true := by simp; omega
            have m0 : wr.cell? ⟨w.heap.size, 0, none⟩ = some (.int .i64 k0) := B0.cell 0
            have m1 : wr.cell? ⟨w.heap.size, 1, none⟩ = some (.int .i64 k1) := B0.cell 1
            have m2 : wr.cell? ⟨w.heap.size, 2, none⟩ = some (.int .i64 k2) := B0.cell 2
            have m3 : wr.cell? ⟨w.heap.size, 3, none⟩ = some (.int .i64 a0) := B0.cell 3
            have m4 : wr.cell? ⟨w.heap.size, 4, none⟩ = some (.int .i64 a1) := B0.cell 4
            have m5 : wr.cell? ⟨w.heap.size, 5, none⟩ = some (.int .i64 a2) := B0.cell 5
            have m6 : wr.cell? ⟨w.heap.size, 6, none⟩ = some (.slice A m c) := B0.cell 6
            have m7 : wr.cell? ⟨w.heap.size, 7, none⟩ = some (.int .i64 per) := B0.cell 7
            have m8 : wr.cell? ⟨w.heap.size, 8, none⟩ = some (.int .i64 ret) := B0.cell 8
            have m9 : wr.cell? ⟨w.heap.size, 9, none⟩ = some (.int .i64 age) := B0.cell 9
            have m10 : wr.cell? ⟨w.heap.size, 10, none⟩ = some (.int .i64 dead) := B0.cell 10
            go_wp2_with fail
            refine (He2.out _ hbr).mono ?_
            rintro e w5 ⟨rfl, hb5⟩
            have L5 : Below w.heap.size w w5 := hbr.trans (hb5.mono hbr.size)
            have C5 := B0.belowS hb5
            have D5 := B1.belowS hb5
            have g5 : g < w5.heap.size := by have := hb5.size; omega
            clear hb5 hbr B0 B1 hg m0 m1 m2 m3 m4 m5 m6 m7 m8 m9 m10
            have m0 : w5.cell? ⟨w.heap.size, 0, none⟩ = some (.int .i64 k0) := C5.cell 0
            have m1 : w5.cell? ⟨w.heap.size, 1, none⟩ = some (.int .i64 k1) := C5.cell 1
            have m2 : w5.cell? ⟨w.heap.size, 2, none⟩ = some (.int .i64 k2) := C5.cell 2
            have m3 : w5.cell? ⟨w.heap.size, 3, none⟩ = some (.int .i64 a0) := C5.cell 3
            have m4 : w5.cell? ⟨w.heap.size, 4, none⟩ = some (.int .i64 a1) := C5.cell 4
            have m5 : w5.cell? ⟨w.heap.size, 5, none⟩ = some (.int .i64 a2) := C5.cell 5
            have m6 : w5.cell? ⟨w.heap.size, 6, none⟩ = some (.slice A m c) := C5.cell 6
            have m7 : w5.cell? ⟨w.heap.size, 7, none⟩ = some (.int .i64 per) := C5.cell 7
            have m8 : w5.cell? ⟨w.heap.size, 8, none⟩ = some (.int .i64 ret) := C5.cell 8
            have m9 : w5.cell? ⟨w.heap.size, 9, none⟩ = some (.int .i64 age) := C5.cell 9
            have m10 : w5.cell? ⟨w.heap.size, 10, none⟩ = some (.int .i64 dead) := C5.cell 10
            go_wp2_with fail
            refine (Hr2.out _ L5).mono ?_
            rintro e w6 ⟨rfl, hb6⟩
            have L6 : Below w.heap.size w w6 := L5.trans (hb6.mono L5.size)
            have C6 := C5.belowS hb6
            have D6 := D5.belowS hb6
            have g6 : g < w6.heap.size := by have := hb6.size; omega
            clear hb6 L5 C5 D5 g5 m0 m1 m2 m3 m4 m5 m6 m7 m8 m9 m10
            have n2 : w6.cell? ⟨g, 2, none⟩ = some (.bool true) := D6.cell 2
            go_wp2_with fail
            go_roundw
            case rel => exact ⟨3, by omega, rfl, L6, g6, C6, D6⟩
            case measure => simp [intOf]
          · have dd : decide (0 < E2) = false := by simp; omega
            have m0 : wr.cell? ⟨w.heap.size, 0, none⟩ = some (.int .i64 k0) := B0.cell 0
            have m1 : wr.cell? ⟨w.heap.size, 1, none⟩ = some (.int .i64 k1) := B0.cell 1
            have m2 : wr.cell? ⟨w.heap.size, 2, none⟩ = some (.int .i64 k2) := B0.cell 2
            have m3 : wr.cell? ⟨w.heap.size, 3, none⟩ = some (.int .i64 a0) := B0.cell 3
            have m4 : wr.cell? ⟨w.heap.size, 4, none⟩ = some (.int .i64 a1) := B0.cell 4
            have m5 : wr.cell? ⟨w.heap.size, 5, none⟩ = some (.int .i64 a2) := B0.cell 5
            have m6 : wr.cell? ⟨w.heap.size, 6, none⟩ = some (.slice A m c) := B0.cell 6
            have m7 : wr.cell? ⟨w.heap.size, 7, none⟩ = some (.int .i64 per) := B0.cell 7
            have m8 : wr.cell? ⟨w.heap.size, 8, none⟩ = some (.int .i64 ret) := B0.cell 8
            have m9 : wr.cell? ⟨w.heap.size, 9, none⟩ = some (.int .i64 age) := B0.cell 9
            have m10 : wr.cell? ⟨w.heap.size, 10, none⟩ = some (.int .i64 dead) := B0.cell 10
            go_wp2_with fail
            refine (He2.out _ hbr).mono ?_
            rintro e w5 ⟨rfl, hb5⟩
            have L5 : Below w.heap.size w w5 := hbr.trans (hb5.mono hbr.size)
            have C5 := B0.belowS hb5
            have D5 := B1.belowS hb5
            have g5 : g < w5.heap.size := by have := hb5.size; omega
            clear hb5 hbr B0 B1 hg m0 m1 m2 m3 m4 m5 m6 m7 m8 m9 m10
            have m0 : w5.cell? ⟨w.heap.size, 0, none⟩ = some (.int .i64 k0) := C5.cell 0
            have m1 : w5.cell? ⟨w.heap.size, 1, none⟩ = some (.int .i64 k1) := C5.cell 1
            have m2 : w5.cell? ⟨w.heap.size, 2, none⟩ = some (.int .i64 k2) := C5.cell 2
            have m3 : w5.cell? ⟨w.heap.size, 3, none⟩ = some (.int .i64 a0) := C5.cell 3
            have m4 : w5.cell? ⟨w.heap.size, 4, none⟩ = some (.int .i64 a1) := C5.cell 4
            have m5 : w5.cell? ⟨w.heap.size, 5, none⟩ = some (.int .i64 a2) := C5.cell 5
            have m6 : w5.cell? ⟨w.heap.size, 6, none⟩ = some (.slice A m c) := C5.cell 6
            have m7 : w5.cell? ⟨w.heap.size, 7, none⟩ = some (.int .i64 per) := C5.cell 7
            have m8 : w5.cell? ⟨w.heap.size, 8, none⟩ = some (.int .i64 ret) := C5.cell 8
            have m9 : w5.cell? ⟨w.heap.size, 9, none⟩ = some (.int .i64 age) := C5.cell 9
            have m10 : w5.cell? ⟨w.heap.size, 10, none⟩ = some (.int .i64 dead) := C5.cell 10
            go_wp2_with fail
            refine (Hr2.out _ L5).mono ?_
            rintro e w6 ⟨rfl, hb6⟩
            have L6 : Below w.heap.size w w6 := L5.trans (hb6.mono L5.size)
            have C6 := C5.belowS hb6
            have D6 := D5.belowS hb6
            have g6 : g < w6.heap.size := by have := hb6.size; omega
            clear hb6 L5 C5 D5 g5 m0 m1 m2 m3 m4 m5 m6 m7 m8 m9 m10
            have n2 : w6.cell? ⟨g, 2, none⟩ = some (.bool false) := D6.cell 2
            go_wp2_with fail
            go_roundw
            case rel => exact ⟨3, by omega, rfl, L6, g6, C6, D6⟩
            case measure => simp [intOf]
      · obtain rfl : k = 3 := by omega
        rw [show ((3 : Nat) : Int) = (3 : Int) from rfl]
        go_wp2_with fail
        go_ret
        exact ⟨rfl, hbr⟩
theorem walk (v1 v2 : Value) (w : World) (h1 : Frame.Arg Try.prog w 47 v1) (h2 : Frame.Arg Try.prog w 53 v2) :
    Calls Try.prog 10 #[v1, v2] w fun e w' => e = .returned (.bool true) ∧ Below w.heap.size w w' := by
  obtain ⟨p, ths, rfl, hp⟩ := CfgV.of_arg h1
  obtain ⟨S, m, sc, bs, rfl, hms, hsm, hz⟩ := h2.bools Try.underlying53 Try.underlying4 (by kernel_rfl)
  unfold maxLen at hsm
  exact core p ths S m sc bs w hp hz.2 (by omega)
end graceSignals
end Go.Proofs.Ytjfbnobijlkicaa
