/- QosLimits: the walk. -/
import Derived.Test.YtgdbpjaebdlnjaaQosA
namespace Go.Proofs.Ytgdbpjaebdlnjaa
open Go.RowKit
namespace PodV
theorem AtB.below {w w' : World} {g : Nat} {p : PodV} (h : AtB w g p) (hb : Below w.heap.size w w') (hg : g < w.heap.size) : AtB w' g p :=
  ⟨(hb.cell (p := ⟨g, 0, none⟩) hg).trans h.c0, (hb.cell (p := ⟨g, 1, none⟩) hg).trans h.c1, (hb.cell (p := ⟨g, 2, none⟩) hg).trans h.c2, (hb.cell (p := ⟨g, 3, none⟩) hg).trans h.c3, (hb.cell (p := ⟨g, 4, none⟩) hg).trans h.c4, (hb.cell (p := ⟨g, 5, none⟩) hg).trans h.c5, (hb.cell (p := ⟨g, 6, none⟩) hg).trans h.c6, (hb.cell (p := ⟨g, 7, none⟩) hg).trans h.c7, (hb.cell (p := ⟨g, 8, none⟩) hg).trans h.c8, (hb.cell (p := ⟨g, 9, none⟩) hg).trans h.c9, (hb.cell (p := ⟨g, 10, none⟩) hg).trans h.c10⟩
end PodV
namespace qosLimits
open Qos
set_option maxRecDepth 100000 in
set_option maxHeartbeats 4000000 in
theorem core (cpu mem pids more which : Int) (w : World) (hc : 0 ≤ cpu ∧ cpu ≤ 4294967295) (hm : 0 ≤ mem ∧ mem ≤ 4294967295) (hd : 0 ≤ pids ∧ pids ≤ 4294967295) (he : 0 ≤ more ∧ more ≤ 65535) (hw : 0 ≤ which ∧ which ≤ 255) :
    Calls Try.prog 7 #[.int .u32 cpu, .int .u32 mem, .int .u32 pids, .int .u16 more, .int .u8 which] w fun e w' => e = .returned (.bool true) ∧ Below w.heap.size w w' := by
  obtain ⟨hc0, hc1⟩ := hc
  obtain ⟨hm0, hm1⟩ := hm
  obtain ⟨hd0, hd1⟩ := hd
  obtain ⟨he0, he1⟩ := he
  obtain ⟨hw0, hw1⟩ := hw
  have hor : which % 2 = 0 ∨ which % 2 = 1 := by omega
  rcases hor with hk | hk
  · have eP : cls ⟨⟨#[112]⟩, 0, false, 1 + cpu, 1 + mem, pids, 1 + cpu, 1 + mem, 0, ⟨#[120]⟩, 0⟩ = 1 := by unfold cls; simp <;> omega
    have eQ : cls ⟨⟨#[112]⟩, 0, false, 1 + cpu, 1 + mem, pids, 1 + cpu + 1 + more, 1 + mem, 0, ⟨#[120]⟩, 0⟩ = 2 := by unfold cls; simp <;> omega
    have eR : cls ⟨⟨#[112]⟩, 0, false, 1 + cpu, 1 + mem, pids, 0, 1 + mem, 0, ⟨#[120]⟩, 0⟩ = 2 := by unfold cls; simp <;> omega
    have eN : cls ⟨⟨#[110]⟩, 0, false, 0, 0, 0, 0, 0, 0, ⟨#[120]⟩, 0⟩ = 3 := by unfold cls; simp <;> omega
    have eM : cls ⟨⟨#[110]⟩, 0, false, 0, 0, 0, 0, 0, 1 + more, ⟨#[120]⟩, 0⟩ = 2 := by unfold cls; simp <;> omega
    go_enter Try.func7, Try.ntmps7
    go_wp2_with fail
    refine (qawake_c _).mono ?_
    rintro e w1 ⟨rfl, hb1⟩
    go_wp2_with fail
    refine (class_c (⟨⟨#[112]⟩, 0, false, 1 + cpu, 1 + mem, pids, 1 + cpu, 1 + mem, 0, ⟨#[120]⟩, 0⟩ : PodV) _).mono ?_
    rintro e w2 ⟨e1, hb2⟩
    rw [eP] at e1
    subst e1
    have L2 : Below w.heap.size w w2 := (((((hb1.alloc hb1.size _).alloc (by have := hb1.size; simp; omega) _).alloc (by have := hb1.size; simp; omega) _).alloc (by have := hb1.size; simp; omega) _).alloc (by have := hb1.size; simp; omega) _).trans (hb2.mono (by have := hb1.size; simp; omega))
    have z2 : w1.heap.size + 1 + 1 + 1 + 1 + 1 ≤ w2.heap.size := by have := hb2.size; simpa using this
    have DQ : PodV.AtB w2 (w1.heap.size + 1) ⟨⟨#[112]⟩, 0, false, 1 + cpu, 1 + mem, pids, 1 + cpu + 1 + more, 1 + mem, 0, ⟨#[120]⟩, 0⟩ := by
      have q := (Mem.Blk.new (w := (w1.alloc (.cells (⟨⟨#[112]⟩, 0, false, 1 + cpu, 1 + mem, pids, 1 + cpu, 1 + mem, 0, ⟨#[120]⟩, 0⟩ : PodV).arr 24))) (t := 24) (cs := (⟨⟨#[112]⟩, 0, false, 1 + cpu, 1 + mem, pids, 1 + cpu + 1 + more, 1 + mem, 0, ⟨#[120]⟩, 0⟩ : PodV).arr)).alloc.alloc.alloc.belowS hb2
      rw [World.size_alloc] at q
      exact PodV.of_blk q
    have DR : PodV.AtB w2 (w1.heap.size + 1 + 1) ⟨⟨#[112]⟩, 0, false, 1 + cpu, 1 + mem, pids, 0, 1 + mem, 0, ⟨#[120]⟩, 0⟩ := by
      have q := (Mem.Blk.new (w := ((w1.alloc (.cells (⟨⟨#[112]⟩, 0, false, 1 + cpu, 1 + mem, pids, 1 + cpu, 1 + mem, 0, ⟨#[120]⟩, 0⟩ : PodV).arr 24)).alloc (.cells (⟨⟨#[112]⟩, 0, false, 1 + cpu, 1 + mem, pids, 1 + cpu + 1 + more, 1 + mem, 0, ⟨#[120]⟩, 0⟩ : PodV).arr 24))) (t := 24) (cs := (⟨⟨#[112]⟩, 0, false, 1 + cpu, 1 + mem, pids, 0, 1 + mem, 0, ⟨#[120]⟩, 0⟩ : PodV).arr)).alloc.alloc.belowS hb2
      rw [World.size_alloc, World.size_alloc] at q
      exact PodV.of_blk q
    have DN : PodV.AtB w2 (w1.heap.size + 1 + 1 + 1) ⟨⟨#[110]⟩, 0, false, 0, 0, 0, 0, 0, 0, ⟨#[120]⟩, 0⟩ := by
      have q := (Mem.Blk.new (w := (((w1.alloc (.cells (⟨⟨#[112]⟩, 0, false, 1 + cpu, 1 + mem, pids, 1 + cpu, 1 + mem, 0, ⟨#[120]⟩, 0⟩ : PodV).arr 24)).alloc (.cells (⟨⟨#[112]⟩, 0, false, 1 + cpu, 1 + mem, pids, 1 + cpu + 1 + more, 1 + mem, 0, ⟨#[120]⟩, 0⟩ : PodV).arr 24)).alloc (.cells (⟨⟨#[112]⟩, 0, false, 1 + cpu, 1 + mem, pids, 0, 1 + mem, 0, ⟨#[120]⟩, 0⟩ : PodV).arr 24))) (t := 24) (cs := (⟨⟨#[110]⟩, 0, false, 0, 0, 0, 0, 0, 0, ⟨#[120]⟩, 0⟩ : PodV).arr)).alloc.belowS hb2
      rw [World.size_alloc, World.size_alloc, World.size_alloc] at q
      exact PodV.of_blk q
    have DM : PodV.AtB w2 (w1.heap.size + 1 + 1 + 1 + 1) ⟨⟨#[110]⟩, 0, false, 0, 0, 0, 0, 0, 1 + more, ⟨#[120]⟩, 0⟩ := by
      have q := (Mem.Blk.new (w := ((((w1.alloc (.cells (⟨⟨#[112]⟩, 0, false, 1 + cpu, 1 + mem, pids, 1 + cpu, 1 + mem, 0, ⟨#[120]⟩, 0⟩ : PodV).arr 24)).alloc (.cells (⟨⟨#[112]⟩, 0, false, 1 + cpu, 1 + mem, pids, 1 + cpu + 1 + more, 1 + mem, 0, ⟨#[120]⟩, 0⟩ : PodV).arr 24)).alloc (.cells (⟨⟨#[112]⟩, 0, false, 1 + cpu, 1 + mem, pids, 0, 1 + mem, 0, ⟨#[120]⟩, 0⟩ : PodV).arr 24)).alloc (.cells (⟨⟨#[110]⟩, 0, false, 0, 0, 0, 0, 0, 0, ⟨#[120]⟩, 0⟩ : PodV).arr 24))) (t := 24) (cs := (⟨⟨#[110]⟩, 0, false, 0, 0, 0, 0, 0, 1 + more, ⟨#[120]⟩, 0⟩ : PodV).arr)).belowS hb2
      rw [World.size_alloc, World.size_alloc, World.size_alloc, World.size_alloc] at q
      exact PodV.of_blk q
    clear hb2 hb1
    obtain ⟨c0, c1, c2, c3, c4, c5, c6, c7, c8, c9, c10⟩ := DQ
    dsimp only at c0 c1 c2 c3 c4 c5 c6 c7 c8 c9 c10
    go_wp2_with fail
    clear c0 c1 c2 c3 c4 c5 c6 c7 c8 c9 c10
    refine (class_c (⟨⟨#[112]⟩, 0, false, 1 + cpu, 1 + mem, pids, 1 + cpu + 1 + more, 1 + mem, 0, ⟨#[120]⟩, 0⟩ : PodV) _).mono ?_
    rintro e w3 ⟨e1, hb2⟩
    rw [eQ] at e1
    subst e1
    have L3 : Below w.heap.size w w3 := L2.trans (hb2.mono L2.size)
    have z3 : w1.heap.size + 1 + 1 + 1 + 1 + 1 ≤ w3.heap.size := Nat.le_trans z2 hb2.size
    replace DR := DR.below hb2 (by omega)
    replace DN := DN.below hb2 (by omega)
    replace DM := DM.below hb2 (by omega)
    clear hb2
    obtain ⟨c0, c1, c2, c3, c4, c5, c6, c7, c8, c9, c10⟩ := DR
    dsimp only at c0 c1 c2 c3 c4 c5 c6 c7 c8 c9 c10
    go_wp2_with fail
    clear c0 c1 c2 c3 c4 c5 c6 c7 c8 c9 c10
    refine (class_c (⟨⟨#[112]⟩, 0, false, 1 + cpu, 1 + mem, pids, 0, 1 + mem, 0, ⟨#[120]⟩, 0⟩ : PodV) _).mono ?_
    rintro e w4 ⟨e1, hb2⟩
    rw [eR] at e1
    subst e1
    have L4 : Below w.heap.size w w4 := L3.trans (hb2.mono L3.size)
    have z4 : w1.heap.size + 1 + 1 + 1 + 1 + 1 ≤ w4.heap.size := Nat.le_trans z3 hb2.size
    replace DN := DN.below hb2 (by omega)
    replace DM := DM.below hb2 (by omega)
    clear hb2
    obtain ⟨c0, c1, c2, c3, c4, c5, c6, c7, c8, c9, c10⟩ := DN
    dsimp only at c0 c1 c2 c3 c4 c5 c6 c7 c8 c9 c10
    go_wp2_with fail
    clear c0 c1 c2 c3 c4 c5 c6 c7 c8 c9 c10
    refine (class_c (⟨⟨#[110]⟩, 0, false, 0, 0, 0, 0, 0, 0, ⟨#[120]⟩, 0⟩ : PodV) _).mono ?_
    rintro e w5 ⟨e1, hb2⟩
    rw [eN] at e1
    subst e1
    have L5 : Below w.heap.size w w5 := L4.trans (hb2.mono L4.size)
    have z5 : w1.heap.size + 1 + 1 + 1 + 1 + 1 ≤ w5.heap.size := Nat.le_trans z4 hb2.size
    replace DM := DM.below hb2 (by omega)
    clear hb2
    obtain ⟨c0, c1, c2, c3, c4, c5, c6, c7, c8, c9, c10⟩ := DM
    dsimp only at c0 c1 c2 c3 c4 c5 c6 c7 c8 c9 c10
    go_wp2_with fail
    clear c0 c1 c2 c3 c4 c5 c6 c7 c8 c9 c10
    refine (class_c (⟨⟨#[110]⟩, 0, false, 0, 0, 0, 0, 0, 1 + more, ⟨#[120]⟩, 0⟩ : PodV) _).mono ?_
    rintro e w6 ⟨e1, hb2⟩
    rw [eM] at e1
    subst e1
    have L6 : Below w.heap.size w w6 := L5.trans (hb2.mono L5.size)
    have z6 : w1.heap.size + 1 + 1 + 1 + 1 + 1 ≤ w6.heap.size := Nat.le_trans z5 hb2.size
    clear hb2
    go_wp2_with fail
    go_ret
    exact ⟨rfl, L6⟩
  · have eP : cls ⟨⟨#[112]⟩, 0, false, 1 + cpu, 1 + mem, pids, 1 + cpu, 1 + mem, 0, ⟨#[120]⟩, 0⟩ = 1 := by unfold cls; simp <;> omega
    have eQ : cls ⟨⟨#[112]⟩, 0, false, 1 + cpu, 1 + mem, pids, 1 + cpu, 1 + mem + 1 + more, 0, ⟨#[120]⟩, 0⟩ = 2 := by unfold cls; simp <;> omega
    have eR : cls ⟨⟨#[112]⟩, 0, false, 1 + cpu, 1 + mem, pids, 1 + cpu, 0, 0, ⟨#[120]⟩, 0⟩ = 2 := by unfold cls; simp <;> omega
    have eN : cls ⟨⟨#[110]⟩, 0, false, 0, 0, 0, 0, 0, 0, ⟨#[120]⟩, 0⟩ = 3 := by unfold cls; simp <;> omega
    have eM : cls ⟨⟨#[110]⟩, 0, false, 0, 0, 0, 0, 0, 1 + more, ⟨#[120]⟩, 0⟩ = 2 := by unfold cls; simp <;> omega
    go_enter Try.func7, Try.ntmps7
    go_wp2_with fail
    refine (qawake_c _).mono ?_
    rintro e w1 ⟨rfl, hb1⟩
    go_wp2_with fail
    refine (class_c (⟨⟨#[112]⟩, 0, false, 1 + cpu, 1 + mem, pids, 1 + cpu, 1 + mem, 0, ⟨#[120]⟩, 0⟩ : PodV) _).mono ?_
    rintro e w2 ⟨e1, hb2⟩
    rw [eP] at e1
    subst e1
    have L2 : Below w.heap.size w w2 := (((((hb1.alloc hb1.size _).alloc (by have := hb1.size; simp; omega) _).alloc (by have := hb1.size; simp; omega) _).alloc (by have := hb1.size; simp; omega) _).alloc (by have := hb1.size; simp; omega) _).trans (hb2.mono (by have := hb1.size; simp; omega))
    have z2 : w1.heap.size + 1 + 1 + 1 + 1 + 1 ≤ w2.heap.size := by have := hb2.size; simpa using this
    have DQ : PodV.AtB w2 (w1.heap.size + 1) ⟨⟨#[112]⟩, 0, false, 1 + cpu, 1 + mem, pids, 1 + cpu, 1 + mem + 1 + more, 0, ⟨#[120]⟩, 0⟩ := by
      have q := (Mem.Blk.new (w := (w1.alloc (.cells (⟨⟨#[112]⟩, 0, false, 1 + cpu, 1 + mem, pids, 1 + cpu, 1 + mem, 0, ⟨#[120]⟩, 0⟩ : PodV).arr 24))) (t := 24) (cs := (⟨⟨#[112]⟩, 0, false, 1 + cpu, 1 + mem, pids, 1 + cpu, 1 + mem + 1 + more, 0, ⟨#[120]⟩, 0⟩ : PodV).arr)).alloc.alloc.alloc.belowS hb2
      rw [World.size_alloc] at q
      exact PodV.of_blk q
    have DR : PodV.AtB w2 (w1.heap.size + 1 + 1) ⟨⟨#[112]⟩, 0, false, 1 + cpu, 1 + mem, pids, 1 + cpu, 0, 0, ⟨#[120]⟩, 0⟩ := by
      have q := (Mem.Blk.new (w := ((w1.alloc (.cells (⟨⟨#[112]⟩, 0, false, 1 + cpu, 1 + mem, pids, 1 + cpu, 1 + mem, 0, ⟨#[120]⟩, 0⟩ : PodV).arr 24)).alloc (.cells (⟨⟨#[112]⟩, 0, false, 1 + cpu, 1 + mem, pids, 1 + cpu, 1 + mem + 1 + more, 0, ⟨#[120]⟩, 0⟩ : PodV).arr 24))) (t := 24) (cs := (⟨⟨#[112]⟩, 0, false, 1 + cpu, 1 + mem, pids, 1 + cpu, 0, 0, ⟨#[120]⟩, 0⟩ : PodV).arr)).alloc.alloc.belowS hb2
      rw [World.size_alloc, World.size_alloc] at q
      exact PodV.of_blk q
    have DN : PodV.AtB w2 (w1.heap.size + 1 + 1 + 1) ⟨⟨#[110]⟩, 0, false, 0, 0, 0, 0, 0, 0, ⟨#[120]⟩, 0⟩ := by
      have q := (Mem.Blk.new (w := (((w1.alloc (.cells (⟨⟨#[112]⟩, 0, false, 1 + cpu, 1 + mem, pids, 1 + cpu, 1 + mem, 0, ⟨#[120]⟩, 0⟩ : PodV).arr 24)).alloc (.cells (⟨⟨#[112]⟩, 0, false, 1 + cpu, 1 + mem, pids, 1 + cpu, 1 + mem + 1 + more, 0, ⟨#[120]⟩, 0⟩ : PodV).arr 24)).alloc (.cells (⟨⟨#[112]⟩, 0, false, 1 + cpu, 1 + mem, pids, 1 + cpu, 0, 0, ⟨#[120]⟩, 0⟩ : PodV).arr 24))) (t := 24) (cs := (⟨⟨#[110]⟩, 0, false, 0, 0, 0, 0, 0, 0, ⟨#[120]⟩, 0⟩ : PodV).arr)).alloc.belowS hb2
      rw [World.size_alloc, World.size_alloc, World.size_alloc] at q
      exact PodV.of_blk q
    have DM : PodV.AtB w2 (w1.heap.size + 1 + 1 + 1 + 1) ⟨⟨#[110]⟩, 0, false, 0, 0, 0, 0, 0, 1 + more, ⟨#[120]⟩, 0⟩ := by
      have q := (Mem.Blk.new (w := ((((w1.alloc (.cells (⟨⟨#[112]⟩, 0, false, 1 + cpu, 1 + mem, pids, 1 + cpu, 1 + mem, 0, ⟨#[120]⟩, 0⟩ : PodV).arr 24)).alloc (.cells (⟨⟨#[112]⟩, 0, false, 1 + cpu, 1 + mem, pids, 1 + cpu, 1 + mem + 1 + more, 0, ⟨#[120]⟩, 0⟩ : PodV).arr 24)).alloc (.cells (⟨⟨#[112]⟩, 0, false, 1 + cpu, 1 + mem, pids, 1 + cpu, 0, 0, ⟨#[120]⟩, 0⟩ : PodV).arr 24)).alloc (.cells (⟨⟨#[110]⟩, 0, false, 0, 0, 0, 0, 0, 0, ⟨#[120]⟩, 0⟩ : PodV).arr 24))) (t := 24) (cs := (⟨⟨#[110]⟩, 0, false, 0, 0, 0, 0, 0, 1 + more, ⟨#[120]⟩, 0⟩ : PodV).arr)).belowS hb2
      rw [World.size_alloc, World.size_alloc, World.size_alloc, World.size_alloc] at q
      exact PodV.of_blk q
    clear hb2 hb1
    obtain ⟨c0, c1, c2, c3, c4, c5, c6, c7, c8, c9, c10⟩ := DQ
    dsimp only at c0 c1 c2 c3 c4 c5 c6 c7 c8 c9 c10
    go_wp2_with fail
    clear c0 c1 c2 c3 c4 c5 c6 c7 c8 c9 c10
    refine (class_c (⟨⟨#[112]⟩, 0, false, 1 + cpu, 1 + mem, pids, 1 + cpu, 1 + mem + 1 + more, 0, ⟨#[120]⟩, 0⟩ : PodV) _).mono ?_
    rintro e w3 ⟨e1, hb2⟩
    rw [eQ] at e1
    subst e1
    have L3 : Below w.heap.size w w3 := L2.trans (hb2.mono L2.size)
    have z3 : w1.heap.size + 1 + 1 + 1 + 1 + 1 ≤ w3.heap.size := Nat.le_trans z2 hb2.size
    replace DR := DR.below hb2 (by omega)
    replace DN := DN.below hb2 (by omega)
    replace DM := DM.below hb2 (by omega)
    clear hb2
    obtain ⟨c0, c1, c2, c3, c4, c5, c6, c7, c8, c9, c10⟩ := DR
    dsimp only at c0 c1 c2 c3 c4 c5 c6 c7 c8 c9 c10
    go_wp2_with fail
    clear c0 c1 c2 c3 c4 c5 c6 c7 c8 c9 c10
    refine (class_c (⟨⟨#[112]⟩, 0, false, 1 + cpu, 1 + mem, pids, 1 + cpu, 0, 0, ⟨#[120]⟩, 0⟩ : PodV) _).mono ?_
    rintro e w4 ⟨e1, hb2⟩
    rw [eR] at e1
    subst e1
    have L4 : Below w.heap.size w w4 := L3.trans (hb2.mono L3.size)
    have z4 : w1.heap.size + 1 + 1 + 1 + 1 + 1 ≤ w4.heap.size := Nat.le_trans z3 hb2.size
    replace DN := DN.below hb2 (by omega)
    replace DM := DM.below hb2 (by omega)
    clear hb2
    obtain ⟨c0, c1, c2, c3, c4, c5, c6, c7, c8, c9, c10⟩ := DN
    dsimp only at c0 c1 c2 c3 c4 c5 c6 c7 c8 c9 c10
    go_wp2_with fail
    clear c0 c1 c2 c3 c4 c5 c6 c7 c8 c9 c10
    refine (class_c (⟨⟨#[110]⟩, 0, false, 0, 0, 0, 0, 0, 0, ⟨#[120]⟩, 0⟩ : PodV) _).mono ?_
    rintro e w5 ⟨e1, hb2⟩
    rw [eN] at e1
    subst e1
    have L5 : Below w.heap.size w w5 := L4.trans (hb2.mono L4.size)
    have z5 : w1.heap.size + 1 + 1 + 1 + 1 + 1 ≤ w5.heap.size := Nat.le_trans z4 hb2.size
    replace DM := DM.below hb2 (by omega)
    clear hb2
    obtain ⟨c0, c1, c2, c3, c4, c5, c6, c7, c8, c9, c10⟩ := DM
    dsimp only at c0 c1 c2 c3 c4 c5 c6 c7 c8 c9 c10
    go_wp2_with fail
    clear c0 c1 c2 c3 c4 c5 c6 c7 c8 c9 c10
    refine (class_c (⟨⟨#[110]⟩, 0, false, 0, 0, 0, 0, 0, 1 + more, ⟨#[120]⟩, 0⟩ : PodV) _).mono ?_
    rintro e w6 ⟨e1, hb2⟩
    rw [eM] at e1
    subst e1
    have L6 : Below w.heap.size w w6 := L5.trans (hb2.mono L5.size)
    have z6 : w1.heap.size + 1 + 1 + 1 + 1 + 1 ≤ w6.heap.size := Nat.le_trans z5 hb2.size
    clear hb2
    go_wp2_with fail
    go_ret
    exact ⟨rfl, L6⟩
theorem walk (v1 v2 v3 v4 v5 : Value) (w : World) (h1 : Frame.Arg Try.prog w 37 v1) (h2 : Frame.Arg Try.prog w 37 v2) (h3 : Frame.Arg Try.prog w 37 v3) (h4 : Frame.Arg Try.prog w 38 v4) (h5 : Frame.Arg Try.prog w 5 v5) :
    Calls Try.prog 7 #[v1, v2, v3, v4, v5] w fun e w' => e = .returned (.bool true) ∧ Below w.heap.size w w' := by
  obtain ⟨a, rfl, ha⟩ := h1.int Try.underlying37
  obtain ⟨b, rfl, hb⟩ := h2.int Try.underlying37
  obtain ⟨c, rfl, hc⟩ := h3.int Try.underlying37
  obtain ⟨d, rfl, hd⟩ := h4.int Try.underlying38
  obtain ⟨f, rfl, hf⟩ := h5.int Try.underlying5
  exact core a b c d f w (Frame.bd_u32 ha) (Frame.bd_u32 hb) (Frame.bd_u32 hc) (Frame.bd_u16 hd) (Frame.bd_u8 hf)
end qosLimits
end Go.Proofs.Ytgdbpjaebdlnjaa
