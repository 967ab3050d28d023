/- QosMore: the walk. -/
import Derived.Test.YtgdbpjaebdlnjaaQosCounts
namespace Go.Proofs.Ytgdbpjaebdlnjaa
open Go.RowKit
namespace Qos
open Wide Sat
theorem upTo_mono {f g : Nat → Bool} (h : ∀ k, f k = true → g k = true) : (n : Nat) → upTo f n ≤ upTo g n
  | 0 => Nat.le_refl _
  | k + 1 => by
    have ih := upTo_mono h k
    have hk := upTo_le f k
    unfold upTo
    split
    · rw [if_pos (h _ (by assumption))]; exact Nat.le_refl _
    · split <;> omega
theorem thou_mono {a b m : Int} (h : a ≤ b) : thou a m ≤ thou b m := by
  refine upTo_mono (fun k hk => ?_) 1000
  rw [fits_iff] at hk ⊢
  simp only [decide_eq_true_eq] at hk ⊢
  have : num a ≤ num b := by unfold num; (repeat' split) <;> omega
  omega
theorem more_facts (id img : ByteArray) (prio r0 r1 r2 size more l m : Int) (crit : Bool) (h0 : 0 ≤ r0) (h1 : 0 ≤ r1) (h2 : 0 ≤ r2) (hm : 0 ≤ more) (hl : 0 < l) (hc : cls ⟨id, prio, crit, r0, r1, r2, 0, 0, 0, img, size⟩ = 2) :
    cls ⟨id, prio, crit, r0, r1 + more, r2, 0, 0, 0, img, size⟩ = 2 ∧ score ⟨id, prio, crit, r0, r1 + more, r2, 0, 0, 0, img, size⟩ m ≤ score ⟨id, prio, crit, r0, r1, r2, 0, 0, 0, img, size⟩ m ∧ score ⟨id, prio, crit, r0, r1, r2, 0, 0, l, img, size⟩ m = score ⟨id, prio, crit, r0, r1, r2, 0, 0, 0, img, size⟩ m := by
  have e0 : ¬ (r0 = 0 ∧ r1 = 0 ∧ r2 = 0) := by
    intro h
    obtain ⟨rfl, rfl, rfl⟩ := h
    simp [cls] at hc
  have e1 : cls ⟨id, prio, crit, r0, r1 + more, r2, 0, 0, 0, img, size⟩ = 2 := by
    unfold cls; simp; omega
  have e2 : cls ⟨id, prio, crit, r0, r1, r2, 0, 0, l, img, size⟩ = 2 := by
    unfold cls; simp; omega
  refine ⟨e1, ?_, ?_⟩
  · unfold score
    rw [e1, hc]
    have := thou_mono (a := r1) (b := r1 + more) (m := m) (by omega)
    dsimp only
    split <;> omega
  · unfold score
    rw [e2, hc]
theorem cls_free (id img : ByteArray) (prio r0 r1 r2 size : Int) (crit : Bool) : cls ⟨id, prio, crit, r0, r1, r2, 0, 0, 0, img, size⟩ = 2 ∨ cls ⟨id, prio, crit, r0, r1, r2, 0, 0, 0, img, size⟩ = 3 := by
  unfold cls; simp
  by_cases h : r0 = 0 ∧ r1 = 0 ∧ r2 = 0
  · simp [h]
  · exact .inl (fun a b c => h ⟨a, b, c⟩)
end Qos
/-- three pods in three blocks -/
structure Three (w : World) (g1 g2 g3 : Nat) (p q r : PodV) : Prop where
  a : PodV.AtB w g1 p
  b : PodV.AtB w g2 q
  c : PodV.AtB w g3 r
theorem Three.below {w w' : World} {g1 g2 g3 : Nat} {p q r : PodV} (h : Three w g1 g2 g3 p q r) (hb : Below w.heap.size w w') (h1 : g1 < w.heap.size) (h2 : g2 < w.heap.size) (h3 : g3 < w.heap.size) : Three w' g1 g2 g3 p q r :=
  ⟨h.a.below hb h1, h.b.below hb h2, h.c.below hb h3⟩
theorem Three.drew {w : World} {g1 g2 g3 : Nat} {p q r : PodV} (h : Three w g1 g2 g3 p q r) : Three w.drew g1 g2 g3 p q r :=
  ⟨⟨h.a.c0, h.a.c1, h.a.c2, h.a.c3, h.a.c4, h.a.c5, h.a.c6, h.a.c7, h.a.c8, h.a.c9, h.a.c10⟩, ⟨h.b.c0, h.b.c1, h.b.c2, h.b.c3, h.b.c4, h.b.c5, h.b.c6, h.b.c7, h.b.c8, h.b.c9, h.b.c10⟩, ⟨h.c.c0, h.c.c1, h.c.c2, h.c.c3, h.c.c4, h.c.c5, h.c.c6, h.c.c7, h.c.c8, h.c.c9, h.c.c10⟩⟩
namespace qosMore
open Qos
set_option maxRecDepth 100000 in
set_option maxHeartbeats 4000000 in
theorem walk (v1 v2 v3 : Value) (w : World) (h1 : Frame.Arg Try.prog w 24 v1) (h2 : Frame.Arg Try.prog w 3 v2) (h3 : Frame.Arg Try.prog w 3 v3) :
    Calls Try.prog 5 #[v1, v2, v3] w fun e w' => e = .returned (.bool true) ∧ Below w.heap.size w w' := by
  obtain ⟨p, rfl, hp⟩ := PodV.of_arg h1
  obtain ⟨more, rfl, hmo⟩ := h2.int Try.underlying3
  obtain ⟨m, rfl, hm⟩ := h3.int Try.underlying3
  have hmo := Frame.bd_i64 hmo
  have hm := Frame.bd_i64 hm
  have Hm : Hid (I64 m) := hm
  obtain ⟨hm0, hm1⟩ := hm
  obtain ⟨hmo0, hmo1⟩ := hmo
  have Hp := Lib.hid hp
  have hsm : Hid (∀ w, Calls Try.prog 14 #[.agg p.arr] w (AnyBb w)) := fun w => small_c p w hp
  have hri : Hid (∀ w, Calls Try.prog 15 #[.agg p.arr] w (RightSaid p w)) := fun w => right_c p w hp
  unfold RightSaid at hri
  have hF : RightF p → 0 ≤ p.r0 ∧ 0 ≤ p.r1 ∧ 0 ≤ p.r2 := fun h => ⟨h.r0, h.r1, h.r2⟩
  obtain ⟨F, hFF⟩ : ∃ F : Prop, F = RightF p := ⟨_, rfl⟩
  rw [← hFF] at hri hF
  have HF0 := Lib.hid hF
  have hb0 := hp.r0
  have hb1 := hp.r1
  have hb2 := hp.r2
  clear h1 h2 h3 hFF hF hp
  obtain ⟨id, prio, crit, r0, r1, r2, l0, l1, l2, img, size⟩ := p
  unfold I64 at hb0 hb1 hb2
  unfold PodV.arr at hsm hri ⊢
  dsimp only at hsm hri HF0 hb0 hb1 hb2 ⊢
  obtain ⟨a0, a0'⟩ := hb0
  obtain ⟨a1, a1'⟩ := hb1
  obtain ⟨a2, a2'⟩ := hb2
  go_enter Try.func5, Try.ntmps5
  go_wp2_with fail
  refine (qawake_c _).mono ?_
  rintro e w1 ⟨rfl, hb1⟩
  have L1 : Below w.heap.size w w1 := ((Below.refl _ _).alloc (Nat.le_refl _) _).trans (hb1.mono (by simp))
  have B1 : Mem.Blk w1 w.heap.size 24 (PodV.arr ⟨id, prio, crit, r0, r1, r2, l0, l1, l2, img, size⟩) := Mem.Blk.new.belowS hb1
  clear hb1
  obtain ⟨c0, c1, c2, c3, c4, c5, c6, c7, c8, c9, c10⟩ := PodV.of_blk B1
  dsimp only at c0 c1 c2 c3 c4 c5 c6 c7 c8 c9 c10
  go_wp2_with fail
  refine (hsm.out _).mono ?_
  rintro e w2 ⟨b, rfl, hb2⟩
  have L2 : Below w.heap.size w w2 := L1.trans (hb2.mono L1.size)
  have B2 : Mem.Blk w2 w.heap.size 24 (PodV.arr ⟨id, prio, crit, r0, r1, r2, l0, l1, l2, img, size⟩) := B1.belowS hb2
  clear hb2 L1 B1 c0 c1 c2 c3 c4 c5 c6 c7 c8 c9 c10
  cases b with
  | false =>
    obtain ⟨c0, c1, c2, c3, c4, c5, c6, c7, c8, c9, c10⟩ := PodV.of_blk B2
    dsimp only at c0 c1 c2 c3 c4 c5 c6 c7 c8 c9 c10
    go_wp2_with fail
    refine (qawake_c _).mono ?_
    rintro e w9 ⟨rfl, hb9⟩
    go_wp2_with fail
    go_ret
    exact ⟨rfl, L2.trans (hb9.mono L2.size)⟩
  | true =>
    obtain ⟨c0, c1, c2, c3, c4, c5, c6, c7, c8, c9, c10⟩ := PodV.of_blk B2
    dsimp only at c0 c1 c2 c3 c4 c5 c6 c7 c8 c9 c10
    go_wp2_with fail
    refine (hri.out _).mono ?_
    rintro e w3 ⟨b, rfl, hfb, hb3⟩
    have L3 : Below w.heap.size w w3 := L2.trans (hb3.mono L2.size)
    have B3 : Mem.Blk w3 w.heap.size 24 (PodV.arr ⟨id, prio, crit, r0, r1, r2, l0, l1, l2, img, size⟩) := B2.belowS hb3
    clear hb3 L2 B2 c0 c1 c2 c3 c4 c5 c6 c7 c8 c9 c10
    have hor : b = false ∨ b = true ∧ (m < 1 ∨ 1 ≤ m ∧ (more < 0 ∨ 0 ≤ more ∧ (1000000000 < r1 ∨ r1 ≤ 1000000000 ∧ (1000000000 < more ∨ more ≤ 1000000000)))) := by cases b <;> simp <;> omega
    rcases hor with rfl | ⟨rfl, x1 | ⟨x1, x2 | ⟨x2, x3 | ⟨x3, x4 | x4⟩⟩⟩⟩
    · clear hfb
      obtain ⟨c0, c1, c2, c3, c4, c5, c6, c7, c8, c9, c10⟩ := PodV.of_blk B3
      dsimp only at c0 c1 c2 c3 c4 c5 c6 c7 c8 c9 c10
      go_wp2_with fail
      refine (qawake_c _).mono ?_
      rintro e w9 ⟨rfl, hb9⟩
      go_wp2_with fail
      go_ret
      exact ⟨rfl, L3.trans (hb9.mono L3.size)⟩
    · clear hfb
      obtain ⟨c0, c1, c2, c3, c4, c5, c6, c7, c8, c9, c10⟩ := PodV.of_blk B3
      dsimp only at c0 c1 c2 c3 c4 c5 c6 c7 c8 c9 c10
      go_wp2_with fail
      refine (qawake_c _).mono ?_
      rintro e w9 ⟨rfl, hb9⟩
      go_wp2_with fail
      go_ret
      exact ⟨rfl, L3.trans (hb9.mono L3.size)⟩
    · clear hfb
      obtain ⟨c0, c1, c2, c3, c4, c5, c6, c7, c8, c9, c10⟩ := PodV.of_blk B3
      dsimp only at c0 c1 c2 c3 c4 c5 c6 c7 c8 c9 c10
      go_wp2_with fail
      refine (qawake_c _).mono ?_
      rintro e w9 ⟨rfl, hb9⟩
      go_wp2_with fail
      go_ret
      exact ⟨rfl, L3.trans (hb9.mono L3.size)⟩
    · clear hfb
      obtain ⟨c0, c1, c2, c3, c4, c5, c6, c7, c8, c9, c10⟩ := PodV.of_blk B3
      dsimp only at c0 c1 c2 c3 c4 c5 c6 c7 c8 c9 c10
      go_wp2_with fail
      refine (qawake_c _).mono ?_
      rintro e w9 ⟨rfl, hb9⟩
      go_wp2_with fail
      go_ret
      exact ⟨rfl, L3.trans (hb9.mono L3.size)⟩
    · clear hfb
      obtain ⟨c0, c1, c2, c3, c4, c5, c6, c7, c8, c9, c10⟩ := PodV.of_blk B3
      dsimp only at c0 c1 c2 c3 c4 c5 c6 c7 c8 c9 c10
      go_wp2_with fail
      refine (qawake_c _).mono ?_
      rintro e w9 ⟨rfl, hb9⟩
      go_wp2_with fail
      go_ret
      exact ⟨rfl, L3.trans (hb9.mono L3.size)⟩
    · obtain ⟨y0, y1, y2⟩ := HF0.out (hfb rfl)
      clear hfb hri hsm
      obtain ⟨c0, c1, c2, c3, c4, c5, c6, c7, c8, c9, c10⟩ := PodV.of_blk B3
      dsimp only at c0 c1 c2 c3 c4 c5 c6 c7 c8 c9 c10
      have kf := B3.frozen
      have B4 : Mem.Blk (((w3.setCell ⟨w.heap.size, 6, none⟩ (.int .i64 0)).setCell ⟨w.heap.size, 7, none⟩ (.int .i64 0)).setCell ⟨w.heap.size, 8, none⟩ (.int .i64 0)) w.heap.size 24 (PodV.arr ⟨id, prio, crit, r0, r1, r2, 0, 0, 0, img, size⟩) := by
        have q := ((B3.set_ 6 (.int .i64 0)).set_ 7 (.int .i64 0)).set_ 8 (.int .i64 0)
        simpa [PodV.arr] using q
      have L4 : Below w.heap.size w (((w3.setCell ⟨w.heap.size, 6, none⟩ (.int .i64 0)).setCell ⟨w.heap.size, 7, none⟩ (.int .i64 0)).setCell ⟨w.heap.size, 8, none⟩ (.int .i64 0)) := ((L3.setCell (by simp) _).setCell (by simp) _).setCell (by simp) _
      have hcl : Hid (∀ w, Calls Try.prog 16 #[.agg #[.string id, .int .i64 prio, .bool crit, .int .i64 r0, .int .i64 r1, .int .i64 r2, .int .i64 0, .int .i64 0, .int .i64 0, .string img, .int .i64 size]] w (ClassSaid ⟨id, prio, crit, r0, r1, r2, 0, 0, 0, img, size⟩ w)) := fun w => class_c ⟨id, prio, crit, r0, r1, r2, 0, 0, 0, img, size⟩ w
      have hfree := cls_free id img prio r0 r1 r2 size crit
      have Hmf := Lib.hid (fun l hl hc => more_facts id img prio r0 r1 r2 size more l m crit y0 y1 y2 x2 hl hc)
      unfold ClassSaid at hcl
      obtain ⟨cp, hcp⟩ : ∃ cp, cp = cls ⟨id, prio, crit, r0, r1, r2, 0, 0, 0, img, size⟩ := ⟨_, rfl⟩
      rw [← hcp] at hfree hcl Hmf
      have Hcp := Lib.hid hcp
      clear hcp
      go_wp2_with fail
      refine (hcl.out _).mono ?_
      rintro e w5 ⟨rfl, hb5⟩
      have L5 := L4.trans (hb5.mono L4.size)
      have B5 := B4.belowS hb5
      clear hb5 L4 B4 B3 L3 c0 c1 c2 c3 c4 c5 c6 c7 c8 c9 c10 kf
      obtain ⟨c0, c1, c2, c3, c4, c5, c6, c7, c8, c9, c10⟩ := PodV.of_blk B5
      dsimp only at c0 c1 c2 c3 c4 c5 c6 c7 c8 c9 c10
      rcases hfree with rfl | rfl
      · have hor : r2 = 9223372036854775807 ∨ r2 < 9223372036854775807 := by omega
        rcases hor with hr | hr
        · have d0 : (r2 == 9223372036854775807) = true := by simp [hr]
          obtain ⟨f1, f2, f3⟩ := Hmf.out r2 (by omega) rfl
          have hsQ : Hid (∀ w, Calls Try.prog 17 #[.agg (PodV.arr ⟨id, prio, crit, r0, r1 + more, r2, 0, 0, 0, img, size⟩), .int .i64 m] w (ScoreSaid ⟨id, prio, crit, r0, r1 + more, r2, 0, 0, 0, img, size⟩ m w)) := fun w => score_c ⟨id, prio, crit, r0, r1 + more, r2, 0, 0, 0, img, size⟩ m w ⟨Hp.out.prio, Hp.out.r0, (by unfold I64; dsimp only; omega), Hp.out.r2, (by unfold I64; dsimp only; omega), (by unfold I64; dsimp only; omega), (by unfold I64; dsimp only; omega), Hp.out.size, Hp.out.id, Hp.out.img⟩ Hm.out
          have hsP : Hid (∀ w, Calls Try.prog 17 #[.agg (PodV.arr ⟨id, prio, crit, r0, r1, r2, 0, 0, 0, img, size⟩), .int .i64 m] w (ScoreSaid ⟨id, prio, crit, r0, r1, r2, 0, 0, 0, img, size⟩ m w)) := fun w => score_c ⟨id, prio, crit, r0, r1, r2, 0, 0, 0, img, size⟩ m w ⟨Hp.out.prio, Hp.out.r0, Hp.out.r1, Hp.out.r2, (by unfold I64; dsimp only; omega), (by unfold I64; dsimp only; omega), (by unfold I64; dsimp only; omega), Hp.out.size, Hp.out.id, Hp.out.img⟩ Hm.out
          have hsR : Hid (∀ w, Calls Try.prog 17 #[.agg (PodV.arr ⟨id, prio, crit, r0, r1, r2, 0, 0, r2, img, size⟩), .int .i64 m] w (ScoreSaid ⟨id, prio, crit, r0, r1, r2, 0, 0, r2, img, size⟩ m w)) := fun w => score_c ⟨id, prio, crit, r0, r1, r2, 0, 0, r2, img, size⟩ m w ⟨Hp.out.prio, Hp.out.r0, Hp.out.r1, Hp.out.r2, (by unfold I64; dsimp only; omega), (by unfold I64; dsimp only; omega), (by unfold I64; dsimp only; omega), Hp.out.size, Hp.out.id, Hp.out.img⟩ Hm.out
          have hcQ : Hid (∀ w, Calls Try.prog 16 #[.agg (PodV.arr ⟨id, prio, crit, r0, r1 + more, r2, 0, 0, 0, img, size⟩)] w (ClassSaid ⟨id, prio, crit, r0, r1 + more, r2, 0, 0, 0, img, size⟩ w)) := fun w => class_c ⟨id, prio, crit, r0, r1 + more, r2, 0, 0, 0, img, size⟩ w
          unfold ClassSaid at hcQ
          unfold ScoreSaid at hsQ hsP hsR
          unfold PodV.arr at hcQ hsQ hsP hsR
          dsimp only at hcQ hsQ hsP hsR
          rw [f1] at hcQ
          rw [f3] at hsR
          generalize score ⟨id, prio, crit, r0, r1, r2, 0, 0, 0, img, size⟩ m = sP at *
          generalize score ⟨id, prio, crit, r0, r1 + more, r2, 0, 0, 0, img, size⟩ m = sQ at *
          have d1 : decide (sQ ≤ sP) = true := by simpa using f2
          clear f1 f2 f3 Hmf hcl Hcp Hp Hm HF0
          have zb := B5.lt
          subst hr
          go_wp2_with fail
          clear c0 c1 c2 c3 c4 c5 c6 c7 c8 c9 c10
          have zz := L5.size
          have H3 : Three ((w5.alloc (.cells (PodV.arr ⟨id, prio, crit, r0, r1 + more, 9223372036854775807, 0, 0, 0, img, size⟩) 24)).alloc (.cells (PodV.arr ⟨id, prio, crit, r0, r1, 9223372036854775807, 0, 0, 9223372036854775807, img, size⟩) 24)) w.heap.size w5.heap.size (w5.heap.size + 1) ⟨id, prio, crit, r0, r1, 9223372036854775807, 0, 0, 0, img, size⟩ ⟨id, prio, crit, r0, r1 + more, 9223372036854775807, 0, 0, 0, img, size⟩ ⟨id, prio, crit, r0, r1, 9223372036854775807, 0, 0, 9223372036854775807, img, size⟩ := by
            refine ⟨PodV.of_blk B5.alloc.alloc, PodV.of_blk (Mem.Blk.new (t := 24) (cs := PodV.arr ⟨id, prio, crit, r0, r1 + more, 9223372036854775807, 0, 0, 0, img, size⟩)).alloc, ?_⟩
            have q := Mem.Blk.new (w := w5.alloc (.cells (PodV.arr ⟨id, prio, crit, r0, r1 + more, 9223372036854775807, 0, 0, 0, img, size⟩) 24)) (t := 24) (cs := PodV.arr ⟨id, prio, crit, r0, r1, 9223372036854775807, 0, 0, 9223372036854775807, img, size⟩)
            rw [World.size_alloc] at q
            exact PodV.of_blk q
          have LW : Below w.heap.size w ((w5.alloc (.cells (PodV.arr ⟨id, prio, crit, r0, r1 + more, 9223372036854775807, 0, 0, 0, img, size⟩) 24)).alloc (.cells (PodV.arr ⟨id, prio, crit, r0, r1, 9223372036854775807, 0, 0, 9223372036854775807, img, size⟩) 24)) := (L5.alloc zz _).alloc (by simp; omega) _
          have zW : w5.heap.size + 2 ≤ (((w5.alloc (.cells (PodV.arr ⟨id, prio, crit, r0, r1 + more, 9223372036854775807, 0, 0, 0, img, size⟩) 24)).alloc (.cells (PodV.arr ⟨id, prio, crit, r0, r1, 9223372036854775807, 0, 0, 9223372036854775807, img, size⟩) 24))).heap.size := by simp
          refine Reg.start (S := (fun w' => Three w' w.heap.size w5.heap.size (w5.heap.size + 1) ⟨id, prio, crit, r0, r1, 9223372036854775807, 0, 0, 0, img, size⟩ ⟨id, prio, crit, r0, r1 + more, 9223372036854775807, 0, 0, 0, img, size⟩ ⟨id, prio, crit, r0, r1, 9223372036854775807, 0, 0, 9223372036854775807, img, size⟩)) (by kernel_rfl) ?_
          refine Reg.takes (n := 21) (by kernel_rfl) (fun _ _ d _ _ h => by cases d <;> exact h) H3.drew [0] _ _ (by kernel_rfl) ?_
          iterate 1 (refine Reg.det_step rfl (fun K' hK' => ?_); go_simp; (first | (refine hK' _ ?_; clear hK' K') | (apply Exists.intro; refine ⟨fun wx hwx => ?_, hK' _ ?_⟩; (first | rfl | (have hA := Three.a hwx; have hB := Three.b hwx; have hC := Three.c hwx; have c0 := PodV.AtB.c0 hA; have c1 := PodV.AtB.c1 hA; have c2 := PodV.AtB.c2 hA; have c3 := PodV.AtB.c3 hA; have c4 := PodV.AtB.c4 hA; have c5 := PodV.AtB.c5 hA; have c6 := PodV.AtB.c6 hA; have c7 := PodV.AtB.c7 hA; have c8 := PodV.AtB.c8 hA; have c9 := PodV.AtB.c9 hA; have c10 := PodV.AtB.c10 hA; have d0 := PodV.AtB.c0 hB; have d1 := PodV.AtB.c1 hB; have d2 := PodV.AtB.c2 hB; have d3 := PodV.AtB.c3 hB; have d4 := PodV.AtB.c4 hB; have d5 := PodV.AtB.c5 hB; have d6 := PodV.AtB.c6 hB; have d7 := PodV.AtB.c7 hB; have d8 := PodV.AtB.c8 hB; have d9 := PodV.AtB.c9 hB; have d10 := PodV.AtB.c10 hB; have e0 := PodV.AtB.c0 hC; have e1 := PodV.AtB.c1 hC; have e2 := PodV.AtB.c2 hC; have e3 := PodV.AtB.c3 hC; have e4 := PodV.AtB.c4 hC; have e5 := PodV.AtB.c5 hC; have e6 := PodV.AtB.c6 hC; have e7 := PodV.AtB.c7 hC; have e8 := PodV.AtB.c8 hC; have e9 := PodV.AtB.c9 hC; have e10 := PodV.AtB.c10 hC; dsimp only at c0 c1 c2 c3 c4 c5 c6 c7 c8 c9 c10 d0 d1 d2 d3 d4 d5 d6 d7 d8 d9 d10 e0 e1 e2 e3 e4 e5 e6 e7 e8 e9 e10; go_simp; first | done | rfl)); clear hK' K')))
          refine Reg.det_nil ?_
          refine Reg.one (i := 1) (n := 20) (by kernel_rfl) ?_
          refine Reg.call rfl rfl (by go_simp; exact ⟨rfl, rfl⟩) ?_
          refine (hcQ.out _).mono ?_
          rintro e x1 ⟨rfl, hx1⟩
          have LX1 : Below w.heap.size w x1 := LW.drew.trans (hx1.mono (by simp; omega))
          have zX1 : w5.heap.size + 2 ≤ x1.heap.size := Nat.le_trans zW hx1.size
          have T1 := Three.below H3.drew hx1 (by simp <;> omega) (by simp <;> omega) (by simp <;> omega)
          refine ⟨_, rfl, T1, ?_⟩
          refine Reg.takes (n := 14) (by kernel_rfl) (fun _ _ d _ _ h => by cases d <;> exact h) T1 [2, 3, 4, 5, 7, 8] _ _ (by kernel_rfl) ?_
          iterate 6 (refine Reg.det_step rfl (fun K' hK' => ?_); go_simp; (first | (refine hK' _ ?_; clear hK' K') | (apply Exists.intro; refine ⟨fun wx hwx => ?_, hK' _ ?_⟩; (first | rfl | (have hA := Three.a hwx; have hB := Three.b hwx; have hC := Three.c hwx; have c0 := PodV.AtB.c0 hA; have c1 := PodV.AtB.c1 hA; have c2 := PodV.AtB.c2 hA; have c3 := PodV.AtB.c3 hA; have c4 := PodV.AtB.c4 hA; have c5 := PodV.AtB.c5 hA; have c6 := PodV.AtB.c6 hA; have c7 := PodV.AtB.c7 hA; have c8 := PodV.AtB.c8 hA; have c9 := PodV.AtB.c9 hA; have c10 := PodV.AtB.c10 hA; have d0 := PodV.AtB.c0 hB; have d1 := PodV.AtB.c1 hB; have d2 := PodV.AtB.c2 hB; have d3 := PodV.AtB.c3 hB; have d4 := PodV.AtB.c4 hB; have d5 := PodV.AtB.c5 hB; have d6 := PodV.AtB.c6 hB; have d7 := PodV.AtB.c7 hB; have d8 := PodV.AtB.c8 hB; have d9 := PodV.AtB.c9 hB; have d10 := PodV.AtB.c10 hB; have e0 := PodV.AtB.c0 hC; have e1 := PodV.AtB.c1 hC; have e2 := PodV.AtB.c2 hC; have e3 := PodV.AtB.c3 hC; have e4 := PodV.AtB.c4 hC; have e5 := PodV.AtB.c5 hC; have e6 := PodV.AtB.c6 hC; have e7 := PodV.AtB.c7 hC; have e8 := PodV.AtB.c8 hC; have e9 := PodV.AtB.c9 hC; have e10 := PodV.AtB.c10 hC; dsimp only at c0 c1 c2 c3 c4 c5 c6 c7 c8 c9 c10 d0 d1 d2 d3 d4 d5 d6 d7 d8 d9 d10 e0 e1 e2 e3 e4 e5 e6 e7 e8 e9 e10; go_simp; first | done | rfl)); clear hK' K')))
          refine Reg.det_nil ?_
          refine Reg.one (i := 6) (n := 13) (by kernel_rfl) ?_
          refine Reg.call rfl rfl (by go_simp; exact ⟨rfl, rfl⟩) ?_
          refine (hsQ.out _).mono ?_
          rintro e x2 ⟨rfl, hx2⟩
          have LX2 : Below w.heap.size w x2 := LX1.trans (hx2.mono LX1.size)
          have zX2 : w5.heap.size + 2 ≤ x2.heap.size := Nat.le_trans zX1 hx2.size
          have T2 := Three.below T1 hx2 (by omega) (by omega) (by omega)
          refine ⟨_, rfl, T2, ?_⟩
          refine Reg.one (i := 9) (n := 12) (by kernel_rfl) ?_
          refine Reg.call rfl rfl (by go_simp; exact ⟨rfl, rfl⟩) ?_
          refine (hsP.out _).mono ?_
          rintro e x3 ⟨rfl, hx3⟩
          have LX3 : Below w.heap.size w x3 := LX2.trans (hx3.mono LX2.size)
          have zX3 : w5.heap.size + 2 ≤ x3.heap.size := Nat.le_trans zX2 hx3.size
          have T3 := Three.below T2 hx3 (by omega) (by omega) (by omega)
          refine ⟨_, rfl, T3, ?_⟩
          refine Reg.takes (n := 5) (by kernel_rfl) (fun _ _ d _ _ h => by cases d <;> exact h) T3 [10, 11, 12, 13, 14, 16, 17] _ _ (by kernel_rfl) ?_
          iterate 7 (refine Reg.det_step rfl (fun K' hK' => ?_); go_simp; (first | (refine hK' _ ?_; clear hK' K') | (apply Exists.intro; refine ⟨fun wx hwx => ?_, hK' _ ?_⟩; (first | rfl | (have hA := Three.a hwx; have hB := Three.b hwx; have hC := Three.c hwx; have c0 := PodV.AtB.c0 hA; have c1 := PodV.AtB.c1 hA; have c2 := PodV.AtB.c2 hA; have c3 := PodV.AtB.c3 hA; have c4 := PodV.AtB.c4 hA; have c5 := PodV.AtB.c5 hA; have c6 := PodV.AtB.c6 hA; have c7 := PodV.AtB.c7 hA; have c8 := PodV.AtB.c8 hA; have c9 := PodV.AtB.c9 hA; have c10 := PodV.AtB.c10 hA; have d0 := PodV.AtB.c0 hB; have d1 := PodV.AtB.c1 hB; have d2 := PodV.AtB.c2 hB; have d3 := PodV.AtB.c3 hB; have d4 := PodV.AtB.c4 hB; have d5 := PodV.AtB.c5 hB; have d6 := PodV.AtB.c6 hB; have d7 := PodV.AtB.c7 hB; have d8 := PodV.AtB.c8 hB; have d9 := PodV.AtB.c9 hB; have d10 := PodV.AtB.c10 hB; have e0 := PodV.AtB.c0 hC; have e1 := PodV.AtB.c1 hC; have e2 := PodV.AtB.c2 hC; have e3 := PodV.AtB.c3 hC; have e4 := PodV.AtB.c4 hC; have e5 := PodV.AtB.c5 hC; have e6 := PodV.AtB.c6 hC; have e7 := PodV.AtB.c7 hC; have e8 := PodV.AtB.c8 hC; have e9 := PodV.AtB.c9 hC; have e10 := PodV.AtB.c10 hC; dsimp only at c0 c1 c2 c3 c4 c5 c6 c7 c8 c9 c10 d0 d1 d2 d3 d4 d5 d6 d7 d8 d9 d10 e0 e1 e2 e3 e4 e5 e6 e7 e8 e9 e10; go_simp; first | done | rfl)); clear hK' K')))
          refine Reg.det_nil ?_
          refine Reg.one (i := 15) (n := 4) (by kernel_rfl) ?_
          refine Reg.call rfl rfl (by go_simp; exact ⟨rfl, rfl⟩) ?_
          refine (hsR.out _).mono ?_
          rintro e x4 ⟨rfl, hx4⟩
          have LX4 : Below w.heap.size w x4 := LX3.trans (hx4.mono LX3.size)
          have zX4 : w5.heap.size + 2 ≤ x4.heap.size := Nat.le_trans zX3 hx4.size
          have T4 := Three.below T3 hx4 (by omega) (by omega) (by omega)
          refine ⟨_, rfl, T4, ?_⟩
          refine Reg.one (i := 18) (n := 3) (by kernel_rfl) ?_
          refine Reg.call rfl rfl (by go_simp; exact ⟨rfl, rfl⟩) ?_
          refine (hsP.out _).mono ?_
          rintro e x5 ⟨rfl, hx5⟩
          have LX5 : Below w.heap.size w x5 := LX4.trans (hx5.mono LX4.size)
          have zX5 : w5.heap.size + 2 ≤ x5.heap.size := Nat.le_trans zX4 hx5.size
          have T5 := Three.below T4 hx5 (by omega) (by omega) (by omega)
          refine ⟨_, rfl, T5, ?_⟩
          refine Reg.takes (n := 0) (by kernel_rfl) (fun _ _ d _ _ h => by cases d <;> exact h) T5 [19, 20, 21] _ _ (by kernel_rfl) ?_
          iterate 3 (refine Reg.det_step rfl (fun K' hK' => ?_); go_simp; (first | (refine hK' _ ?_; clear hK' K') | (apply Exists.intro; refine ⟨fun wx hwx => ?_, hK' _ ?_⟩; (first | rfl | (have hA := Three.a hwx; have hB := Three.b hwx; have hC := Three.c hwx; have c0 := PodV.AtB.c0 hA; have c1 := PodV.AtB.c1 hA; have c2 := PodV.AtB.c2 hA; have c3 := PodV.AtB.c3 hA; have c4 := PodV.AtB.c4 hA; have c5 := PodV.AtB.c5 hA; have c6 := PodV.AtB.c6 hA; have c7 := PodV.AtB.c7 hA; have c8 := PodV.AtB.c8 hA; have c9 := PodV.AtB.c9 hA; have c10 := PodV.AtB.c10 hA; have d0 := PodV.AtB.c0 hB; have d1 := PodV.AtB.c1 hB; have d2 := PodV.AtB.c2 hB; have d3 := PodV.AtB.c3 hB; have d4 := PodV.AtB.c4 hB; have d5 := PodV.AtB.c5 hB; have d6 := PodV.AtB.c6 hB; have d7 := PodV.AtB.c7 hB; have d8 := PodV.AtB.c8 hB; have d9 := PodV.AtB.c9 hB; have d10 := PodV.AtB.c10 hB; have e0 := PodV.AtB.c0 hC; have e1 := PodV.AtB.c1 hC; have e2 := PodV.AtB.c2 hC; have e3 := PodV.AtB.c3 hC; have e4 := PodV.AtB.c4 hC; have e5 := PodV.AtB.c5 hC; have e6 := PodV.AtB.c6 hC; have e7 := PodV.AtB.c7 hC; have e8 := PodV.AtB.c8 hC; have e9 := PodV.AtB.c9 hC; have e10 := PodV.AtB.c10 hC; dsimp only at c0 c1 c2 c3 c4 c5 c6 c7 c8 c9 c10 d0 d1 d2 d3 d4 d5 d6 d7 d8 d9 d10 e0 e1 e2 e3 e4 e5 e6 e7 e8 e9 e10; go_simp; first | done | rfl)); clear hK' K')))
          refine Reg.det_nil ?_
          refine wpAnyH_done (by kernel_rfl) ?_ _
          go_wp2_with fail
          go_ret
          exact ⟨rfl, LX5⟩
        · have d0 : (r2 == 9223372036854775807) = false := by simp; omega
          obtain ⟨f1, f2, f3⟩ := Hmf.out (r2 + 1) (by omega) rfl
          have hsQ : Hid (∀ w, Calls Try.prog 17 #[.agg (PodV.arr ⟨id, prio, crit, r0, r1 + more, r2, 0, 0, 0, img, size⟩), .int .i64 m] w (ScoreSaid ⟨id, prio, crit, r0, r1 + more, r2, 0, 0, 0, img, size⟩ m w)) := fun w => score_c ⟨id, prio, crit, r0, r1 + more, r2, 0, 0, 0, img, size⟩ m w ⟨Hp.out.prio, Hp.out.r0, (by unfold I64; dsimp only; omega), Hp.out.r2, (by unfold I64; dsimp only; omega), (by unfold I64; dsimp only; omega), (by unfold I64; dsimp only; omega), Hp.out.size, Hp.out.id, Hp.out.img⟩ Hm.out
          have hsP : Hid (∀ w, Calls Try.prog 17 #[.agg (PodV.arr ⟨id, prio, crit, r0, r1, r2, 0, 0, 0, img, size⟩), .int .i64 m] w (ScoreSaid ⟨id, prio, crit, r0, r1, r2, 0, 0, 0, img, size⟩ m w)) := fun w => score_c ⟨id, prio, crit, r0, r1, r2, 0, 0, 0, img, size⟩ m w ⟨Hp.out.prio, Hp.out.r0, Hp.out.r1, Hp.out.r2, (by unfold I64; dsimp only; omega), (by unfold I64; dsimp only; omega), (by unfold I64; dsimp only; omega), Hp.out.size, Hp.out.id, Hp.out.img⟩ Hm.out
          have hsR : Hid (∀ w, Calls Try.prog 17 #[.agg (PodV.arr ⟨id, prio, crit, r0, r1, r2, 0, 0, (r2 + 1), img, size⟩), .int .i64 m] w (ScoreSaid ⟨id, prio, crit, r0, r1, r2, 0, 0, (r2 + 1), img, size⟩ m w)) := fun w => score_c ⟨id, prio, crit, r0, r1, r2, 0, 0, (r2 + 1), img, size⟩ m w ⟨Hp.out.prio, Hp.out.r0, Hp.out.r1, Hp.out.r2, (by unfold I64; dsimp only; omega), (by unfold I64; dsimp only; omega), (by unfold I64; dsimp only; omega), Hp.out.size, Hp.out.id, Hp.out.img⟩ Hm.out
          have hcQ : Hid (∀ w, Calls Try.prog 16 #[.agg (PodV.arr ⟨id, prio, crit, r0, r1 + more, r2, 0, 0, 0, img, size⟩)] w (ClassSaid ⟨id, prio, crit, r0, r1 + more, r2, 0, 0, 0, img, size⟩ w)) := fun w => class_c ⟨id, prio, crit, r0, r1 + more, r2, 0, 0, 0, img, size⟩ w
          unfold ClassSaid at hcQ
          unfold ScoreSaid at hsQ hsP hsR
          unfold PodV.arr at hcQ hsQ hsP hsR
          dsimp only at hcQ hsQ hsP hsR
          rw [f1] at hcQ
          rw [f3] at hsR
          generalize score ⟨id, prio, crit, r0, r1, r2, 0, 0, 0, img, size⟩ m = sP at *
          generalize score ⟨id, prio, crit, r0, r1 + more, r2, 0, 0, 0, img, size⟩ m = sQ at *
          have d1 : decide (sQ ≤ sP) = true := by simpa using f2
          clear f1 f2 f3 Hmf hcl Hcp Hp Hm HF0
          have zb := B5.lt
          go_wp2_with fail
          clear c0 c1 c2 c3 c4 c5 c6 c7 c8 c9 c10
          have zz := L5.size
          have H3 : Three ((w5.alloc (.cells (PodV.arr ⟨id, prio, crit, r0, r1 + more, r2, 0, 0, 0, img, size⟩) 24)).alloc (.cells (PodV.arr ⟨id, prio, crit, r0, r1, r2, 0, 0, (r2 + 1), img, size⟩) 24)) w.heap.size w5.heap.size (w5.heap.size + 1) ⟨id, prio, crit, r0, r1, r2, 0, 0, 0, img, size⟩ ⟨id, prio, crit, r0, r1 + more, r2, 0, 0, 0, img, size⟩ ⟨id, prio, crit, r0, r1, r2, 0, 0, (r2 + 1), img, size⟩ := by
            refine ⟨PodV.of_blk B5.alloc.alloc, PodV.of_blk (Mem.Blk.new (t := 24) (cs := PodV.arr ⟨id, prio, crit, r0, r1 + more, r2, 0, 0, 0, img, size⟩)).alloc, ?_⟩
            have q := Mem.Blk.new (w := w5.alloc (.cells (PodV.arr ⟨id, prio, crit, r0, r1 + more, r2, 0, 0, 0, img, size⟩) 24)) (t := 24) (cs := PodV.arr ⟨id, prio, crit, r0, r1, r2, 0, 0, (r2 + 1), img, size⟩)
            rw [World.size_alloc] at q
            exact PodV.of_blk q
          have LW : Below w.heap.size w ((w5.alloc (.cells (PodV.arr ⟨id, prio, crit, r0, r1 + more, r2, 0, 0, 0, img, size⟩) 24)).alloc (.cells (PodV.arr ⟨id, prio, crit, r0, r1, r2, 0, 0, (r2 + 1), img, size⟩) 24)) := (L5.alloc zz _).alloc (by simp; omega) _
          have zW : w5.heap.size + 2 ≤ (((w5.alloc (.cells (PodV.arr ⟨id, prio, crit, r0, r1 + more, r2, 0, 0, 0, img, size⟩) 24)).alloc (.cells (PodV.arr ⟨id, prio, crit, r0, r1, r2, 0, 0, (r2 + 1), img, size⟩) 24))).heap.size := by simp
          refine Reg.start (S := (fun w' => Three w' w.heap.size w5.heap.size (w5.heap.size + 1) ⟨id, prio, crit, r0, r1, r2, 0, 0, 0, img, size⟩ ⟨id, prio, crit, r0, r1 + more, r2, 0, 0, 0, img, size⟩ ⟨id, prio, crit, r0, r1, r2, 0, 0, (r2 + 1), img, size⟩)) (by kernel_rfl) ?_
          refine Reg.takes (n := 21) (by kernel_rfl) (fun _ _ d _ _ h => by cases d <;> exact h) H3.drew [0] _ _ (by kernel_rfl) ?_
          iterate 1 (refine Reg.det_step rfl (fun K' hK' => ?_); go_simp; (first | (refine hK' _ ?_; clear hK' K') | (apply Exists.intro; refine ⟨fun wx hwx => ?_, hK' _ ?_⟩; (first | rfl | (have hA := Three.a hwx; have hB := Three.b hwx; have hC := Three.c hwx; have c0 := PodV.AtB.c0 hA; have c1 := PodV.AtB.c1 hA; have c2 := PodV.AtB.c2 hA; have c3 := PodV.AtB.c3 hA; have c4 := PodV.AtB.c4 hA; have c5 := PodV.AtB.c5 hA; have c6 := PodV.AtB.c6 hA; have c7 := PodV.AtB.c7 hA; have c8 := PodV.AtB.c8 hA; have c9 := PodV.AtB.c9 hA; have c10 := PodV.AtB.c10 hA; have d0 := PodV.AtB.c0 hB; have d1 := PodV.AtB.c1 hB; have d2 := PodV.AtB.c2 hB; have d3 := PodV.AtB.c3 hB; have d4 := PodV.AtB.c4 hB; have d5 := PodV.AtB.c5 hB; have d6 := PodV.AtB.c6 hB; have d7 := PodV.AtB.c7 hB; have d8 := PodV.AtB.c8 hB; have d9 := PodV.AtB.c9 hB; have d10 := PodV.AtB.c10 hB; have e0 := PodV.AtB.c0 hC; have e1 := PodV.AtB.c1 hC; have e2 := PodV.AtB.c2 hC; have e3 := PodV.AtB.c3 hC; have e4 := PodV.AtB.c4 hC; have e5 := PodV.AtB.c5 hC; have e6 := PodV.AtB.c6 hC; have e7 := PodV.AtB.c7 hC; have e8 := PodV.AtB.c8 hC; have e9 := PodV.AtB.c9 hC; have e10 := PodV.AtB.c10 hC; dsimp only at c0 c1 c2 c3 c4 c5 c6 c7 c8 c9 c10 d0 d1 d2 d3 d4 d5 d6 d7 d8 d9 d10 e0 e1 e2 e3 e4 e5 e6 e7 e8 e9 e10; go_simp; first | done | rfl)); clear hK' K')))
          refine Reg.det_nil ?_
          refine Reg.one (i := 1) (n := 20) (by kernel_rfl) ?_
          refine Reg.call rfl rfl (by go_simp; exact ⟨rfl, rfl⟩) ?_
          refine (hcQ.out _).mono ?_
          rintro e x1 ⟨rfl, hx1⟩
          have LX1 : Below w.heap.size w x1 := LW.drew.trans (hx1.mono (by simp; omega))
          have zX1 : w5.heap.size + 2 ≤ x1.heap.size := Nat.le_trans zW hx1.size
          have T1 := Three.below H3.drew hx1 (by simp <;> omega) (by simp <;> omega) (by simp <;> omega)
          refine ⟨_, rfl, T1, ?_⟩
          refine Reg.takes (n := 14) (by kernel_rfl) (fun _ _ d _ _ h => by cases d <;> exact h) T1 [2, 3, 4, 5, 7, 8] _ _ (by kernel_rfl) ?_
          iterate 6 (refine Reg.det_step rfl (fun K' hK' => ?_); go_simp; (first | (refine hK' _ ?_; clear hK' K') | (apply Exists.intro; refine ⟨fun wx hwx => ?_, hK' _ ?_⟩; (first | rfl | (have hA := Three.a hwx; have hB := Three.b hwx; have hC := Three.c hwx; have c0 := PodV.AtB.c0 hA; have c1 := PodV.AtB.c1 hA; have c2 := PodV.AtB.c2 hA; have c3 := PodV.AtB.c3 hA; have c4 := PodV.AtB.c4 hA; have c5 := PodV.AtB.c5 hA; have c6 := PodV.AtB.c6 hA; have c7 := PodV.AtB.c7 hA; have c8 := PodV.AtB.c8 hA; have c9 := PodV.AtB.c9 hA; have c10 := PodV.AtB.c10 hA; have d0 := PodV.AtB.c0 hB; have d1 := PodV.AtB.c1 hB; have d2 := PodV.AtB.c2 hB; have d3 := PodV.AtB.c3 hB; have d4 := PodV.AtB.c4 hB; have d5 := PodV.AtB.c5 hB; have d6 := PodV.AtB.c6 hB; have d7 := PodV.AtB.c7 hB; have d8 := PodV.AtB.c8 hB; have d9 := PodV.AtB.c9 hB; have d10 := PodV.AtB.c10 hB; have e0 := PodV.AtB.c0 hC; have e1 := PodV.AtB.c1 hC; have e2 := PodV.AtB.c2 hC; have e3 := PodV.AtB.c3 hC; have e4 := PodV.AtB.c4 hC; have e5 := PodV.AtB.c5 hC; have e6 := PodV.AtB.c6 hC; have e7 := PodV.AtB.c7 hC; have e8 := PodV.AtB.c8 hC; have e9 := PodV.AtB.c9 hC; have e10 := PodV.AtB.c10 hC; dsimp only at c0 c1 c2 c3 c4 c5 c6 c7 c8 c9 c10 d0 d1 d2 d3 d4 d5 d6 d7 d8 d9 d10 e0 e1 e2 e3 e4 e5 e6 e7 e8 e9 e10; go_simp; first | done | rfl)); clear hK' K')))
          refine Reg.det_nil ?_
          refine Reg.one (i := 6) (n := 13) (by kernel_rfl) ?_
          refine Reg.call rfl rfl (by go_simp; exact ⟨rfl, rfl⟩) ?_
          refine (hsQ.out _).mono ?_
          rintro e x2 ⟨rfl, hx2⟩
          have LX2 : Below w.heap.size w x2 := LX1.trans (hx2.mono LX1.size)
          have zX2 : w5.heap.size + 2 ≤ x2.heap.size := Nat.le_trans zX1 hx2.size
          have T2 := Three.below T1 hx2 (by omega) (by omega) (by omega)
          refine ⟨_, rfl, T2, ?_⟩
          refine Reg.one (i := 9) (n := 12) (by kernel_rfl) ?_
          refine Reg.call rfl rfl (by go_simp; exact ⟨rfl, rfl⟩) ?_
          refine (hsP.out _).mono ?_
          rintro e x3 ⟨rfl, hx3⟩
          have LX3 : Below w.heap.size w x3 := LX2.trans (hx3.mono LX2.size)
          have zX3 : w5.heap.size + 2 ≤ x3.heap.size := Nat.le_trans zX2 hx3.size
          have T3 := Three.below T2 hx3 (by omega) (by omega) (by omega)
          refine ⟨_, rfl, T3, ?_⟩
          refine Reg.takes (n := 5) (by kernel_rfl) (fun _ _ d _ _ h => by cases d <;> exact h) T3 [10, 11, 12, 13, 14, 16, 17] _ _ (by kernel_rfl) ?_
          iterate 7 (refine Reg.det_step rfl (fun K' hK' => ?_); go_simp; (first | (refine hK' _ ?_; clear hK' K') | (apply Exists.intro; refine ⟨fun wx hwx => ?_, hK' _ ?_⟩; (first | rfl | (have hA := Three.a hwx; have hB := Three.b hwx; have hC := Three.c hwx; have c0 := PodV.AtB.c0 hA; have c1 := PodV.AtB.c1 hA; have c2 := PodV.AtB.c2 hA; have c3 := PodV.AtB.c3 hA; have c4 := PodV.AtB.c4 hA; have c5 := PodV.AtB.c5 hA; have c6 := PodV.AtB.c6 hA; have c7 := PodV.AtB.c7 hA; have c8 := PodV.AtB.c8 hA; have c9 := PodV.AtB.c9 hA; have c10 := PodV.AtB.c10 hA; have d0 := PodV.AtB.c0 hB; have d1 := PodV.AtB.c1 hB; have d2 := PodV.AtB.c2 hB; have d3 := PodV.AtB.c3 hB; have d4 := PodV.AtB.c4 hB; have d5 := PodV.AtB.c5 hB; have d6 := PodV.AtB.c6 hB; have d7 := PodV.AtB.c7 hB; have d8 := PodV.AtB.c8 hB; have d9 := PodV.AtB.c9 hB; have d10 := PodV.AtB.c10 hB; have e0 := PodV.AtB.c0 hC; have e1 := PodV.AtB.c1 hC; have e2 := PodV.AtB.c2 hC; have e3 := PodV.AtB.c3 hC; have e4 := PodV.AtB.c4 hC; have e5 := PodV.AtB.c5 hC; have e6 := PodV.AtB.c6 hC; have e7 := PodV.AtB.c7 hC; have e8 := PodV.AtB.c8 hC; have e9 := PodV.AtB.c9 hC; have e10 := PodV.AtB.c10 hC; dsimp only at c0 c1 c2 c3 c4 c5 c6 c7 c8 c9 c10 d0 d1 d2 d3 d4 d5 d6 d7 d8 d9 d10 e0 e1 e2 e3 e4 e5 e6 e7 e8 e9 e10; go_simp; first | done | rfl)); clear hK' K')))
          refine Reg.det_nil ?_
          refine Reg.one (i := 15) (n := 4) (by kernel_rfl) ?_
          refine Reg.call rfl rfl (by go_simp; exact ⟨rfl, rfl⟩) ?_
          refine (hsR.out _).mono ?_
          rintro e x4 ⟨rfl, hx4⟩
          have LX4 : Below w.heap.size w x4 := LX3.trans (hx4.mono LX3.size)
          have zX4 : w5.heap.size + 2 ≤ x4.heap.size := Nat.le_trans zX3 hx4.size
          have T4 := Three.below T3 hx4 (by omega) (by omega) (by omega)
          refine ⟨_, rfl, T4, ?_⟩
          refine Reg.one (i := 18) (n := 3) (by kernel_rfl) ?_
          refine Reg.call rfl rfl (by go_simp; exact ⟨rfl, rfl⟩) ?_
          refine (hsP.out _).mono ?_
          rintro e x5 ⟨rfl, hx5⟩
          have LX5 : Below w.heap.size w x5 := LX4.trans (hx5.mono LX4.size)
          have zX5 : w5.heap.size + 2 ≤ x5.heap.size := Nat.le_trans zX4 hx5.size
          have T5 := Three.below T4 hx5 (by omega) (by omega) (by omega)
          refine ⟨_, rfl, T5, ?_⟩
          refine Reg.takes (n := 0) (by kernel_rfl) (fun _ _ d _ _ h => by cases d <;> exact h) T5 [19, 20, 21] _ _ (by kernel_rfl) ?_
          iterate 3 (refine Reg.det_step rfl (fun K' hK' => ?_); go_simp; (first | (refine hK' _ ?_; clear hK' K') | (apply Exists.intro; refine ⟨fun wx hwx => ?_, hK' _ ?_⟩; (first | rfl | (have hA := Three.a hwx; have hB := Three.b hwx; have hC := Three.c hwx; have c0 := PodV.AtB.c0 hA; have c1 := PodV.AtB.c1 hA; have c2 := PodV.AtB.c2 hA; have c3 := PodV.AtB.c3 hA; have c4 := PodV.AtB.c4 hA; have c5 := PodV.AtB.c5 hA; have c6 := PodV.AtB.c6 hA; have c7 := PodV.AtB.c7 hA; have c8 := PodV.AtB.c8 hA; have c9 := PodV.AtB.c9 hA; have c10 := PodV.AtB.c10 hA; have d0 := PodV.AtB.c0 hB; have d1 := PodV.AtB.c1 hB; have d2 := PodV.AtB.c2 hB; have d3 := PodV.AtB.c3 hB; have d4 := PodV.AtB.c4 hB; have d5 := PodV.AtB.c5 hB; have d6 := PodV.AtB.c6 hB; have d7 := PodV.AtB.c7 hB; have d8 := PodV.AtB.c8 hB; have d9 := PodV.AtB.c9 hB; have d10 := PodV.AtB.c10 hB; have e0 := PodV.AtB.c0 hC; have e1 := PodV.AtB.c1 hC; have e2 := PodV.AtB.c2 hC; have e3 := PodV.AtB.c3 hC; have e4 := PodV.AtB.c4 hC; have e5 := PodV.AtB.c5 hC; have e6 := PodV.AtB.c6 hC; have e7 := PodV.AtB.c7 hC; have e8 := PodV.AtB.c8 hC; have e9 := PodV.AtB.c9 hC; have e10 := PodV.AtB.c10 hC; dsimp only at c0 c1 c2 c3 c4 c5 c6 c7 c8 c9 c10 d0 d1 d2 d3 d4 d5 d6 d7 d8 d9 d10 e0 e1 e2 e3 e4 e5 e6 e7 e8 e9 e10; go_simp; first | done | rfl)); clear hK' K')))
          refine Reg.det_nil ?_
          refine wpAnyH_done (by kernel_rfl) ?_ _
          go_wp2_with fail
          go_ret
          exact ⟨rfl, LX5⟩
      · go_wp2_with fail
        refine (hcl.out _).mono ?_
        rintro e w6 ⟨rfl, hb6⟩
        have L6 := L5.trans (hb6.mono L5.size)
        go_wp2_with fail
        go_ret
        exact ⟨rfl, L6⟩
end qosMore
end Go.Proofs.Ytgdbpjaebdlnjaa
