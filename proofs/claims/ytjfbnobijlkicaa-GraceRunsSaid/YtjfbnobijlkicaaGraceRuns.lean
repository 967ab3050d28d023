/- GraceRuns: the walk. -/
import Derived.Test.YtjfbnobijlkicaaGraceO
import Derived.Test.YtjfbnobijlkicaaGraceR
namespace Go.Proofs.Ytjfbnobijlkicaa
open Go.RowKit
namespace Reg
/-- what a guard leaves out -/
theorem off {P : Program} {ops : Array Oper} {Q : Exit → Act → World → Prop} {S : World → Prop} {i : Nat} {o : Oper} {a : Act} {w : World} {K : Act → World → Prop} (ho : ops[i]? = some o) (hw : Region.wanted o (yielded ops a.tmps) = false)
    (hS : S w) (h : K (a.put o.dst undef) w) : wpOp P ops Q i (fun a' w' => S w' ∧ K a' w') a w := by
  unfold wpOp
  simp only [ho, hw]
  exact ⟨hS, h⟩
end Reg
namespace graceRuns
open Grc
/-- where the row of samples begins, all of which meet, that ends ahead of i -/
def jOf (M : Nat → Bool) : Nat → Nat
  | 0 => 0
  | i + 1 => if M i = true then jOf M i else i + 1
theorem jOf_le (M : Nat → Bool) (i : Nat) : jOf M i ≤ i := by
  induction i with
  | zero => exact Nat.le_refl _
  | succ i ih => unfold jOf; split <;> omega
def zOf (M : Nat → Bool) (at' : Nat → Int) (i : Nat) : Int := if jOf M i < i then at' (jOf M i) else -1
theorem zOf_step (M : Nat → Bool) (at' : Nat → Int) (i : Nat) (h : ∀ j, j < i → 0 ≤ at' j) : stepZ (M i) (zOf M at' i) (at' i) = zOf M at' (i + 1) := by
  have hle := jOf_le M i
  unfold stepZ zOf
  rw [show jOf M (i + 1) = if M i = true then jOf M i else i + 1 from rfl]
  by_cases hm : M i = true
  · rw [if_pos hm, if_pos hm, if_pos (show jOf M i < i + 1 by omega)]
    by_cases hj : jOf M i < i
    · rw [if_pos hj, if_neg (by have := h _ hj; omega)]
    · rw [if_neg hj, if_pos rfl, show jOf M i = i by omega]
  · rw [if_neg hm, if_neg hm, if_neg (by omega)]
theorem zOf_fit (M : Nat → Bool) (at' : Nat → Int) (i : Nat) (h : ∀ j, j ≤ i → 0 ≤ at' j ∧ at' j ≤ at' i) : -1 ≤ zOf M at' (i + 1) ∧ zOf M at' (i + 1) ≤ at' i := by
  have h0 := h i (Nat.le_refl _)
  unfold zOf
  split
  · have := h (jOf M (i + 1)) (by omega)
    omega
  · omega
theorem zOf_hold (t : ThrV) (M : Nat → Bool) (at' : Nat → Int) (i j : Nat) (h : ∀ j, j ≤ i → 0 ≤ at' j ∧ at' j ≤ at' i) (hj : jOf M (i + 1) = j) :
    holdZ t (zOf M at' (i + 1)) (at' i) = (decide (j ≤ i) && (!t.soft || decide (t.grace ≤ at' i - at' j))) := by
  unfold holdZ zOf
  rw [hj]
  by_cases hji : j < i + 1
  · have := h j (by omega)
    rw [if_pos hji, decide_eq_true (show at' j ≠ -1 by omega), decide_eq_true (show j ≤ i by omega)]
  · rw [if_neg hji, decide_eq_false (show ¬ j ≤ i by omega)]
    simp
/-- is it met by the sample i? -/
def MF (c0 c1 c2 : Int) (rs : List RowV) (t : ThrV) (i : Nat) : Bool := match rs[i]? with
  | some r => metC c0 c1 c2 r.av0 r.av1 r.av2 t
  | none => false
theorem MF_at (c0 c1 c2 : Int) (rs : List RowV) (t : ThrV) (i : Nat) (h : i < rs.length) : MF c0 c1 c2 rs t i = metC c0 c1 c2 rs[i].av0 rs[i].av1 rs[i].av2 t := by
  unfold MF
  rw [List.getElem?_eq_getElem h]
def ZLs (c0 c1 c2 : Int) (rs : List RowV) (ths : List ThrV) (i : Nat) : List Int := ths.map fun t => zOf (MF c0 c1 c2 rs t) (fun i => atTo 0 rs (i + 1)) i
theorem ZLs_zero (c0 c1 c2 : Int) (rs : List RowV) (ths : List ThrV) : nevers ths.length = (ZLs c0 c1 c2 rs ths 0).map (.int .i64) := by
  unfold ZLs nevers
  refine (List.eq_replicate_iff.2 ⟨by simp, fun b hb => ?_⟩).symm
  obtain ⟨z, hz, rfl⟩ := List.mem_map.1 hb
  obtain ⟨t, _, rfl⟩ := List.mem_map.1 hz
  simp [zOf]
theorem atTo_ord (rs : List RowV) (hr : ∀ r ∈ rs, 0 ≤ r.gap ∧ r.gap ≤ 255) (i : Nat) (hi : i < rs.length) (j : Nat) (hj : j ≤ i) : 0 ≤ atTo 0 rs (j + 1) ∧ atTo 0 rs (j + 1) ≤ atTo 0 rs (i + 1) := by
  have h1 := atTo_bd 0 rs hr (j + 1) (by omega)
  have h2 := atTo_mono 0 rs hr (j + 1) (i + 1) (by omega) (by omega)
  omega
theorem ZLs_step (p : CfgV) (rs : List RowV) (ths : List ThrV) (i : Nat) (hi : i < rs.length) (hr : ∀ r ∈ rs, 0 ≤ r.gap ∧ r.gap ≤ 255) :
    stepL (metL p rs[i].av0 rs[i].av1 rs[i].av2 ths) (ZLs p.c0 p.c1 p.c2 rs ths i) (atTo 0 rs (i + 1)) = ZLs p.c0 p.c1 p.c2 rs ths (i + 1) := by
  unfold stepL metL ZLs
  rw [List.zipWith_map]
  refine List.ext_getElem (by simp) fun k h1 h2 => ?_
  simp only [List.getElem_zipWith, List.getElem_map]
  rw [← MF_at p.c0 p.c1 p.c2 rs _ i hi]
  exact zOf_step (MF p.c0 p.c1 p.c2 rs _) (fun i => atTo 0 rs (i + 1)) i (fun j hj => (atTo_ord rs hr i hi j (by omega)).1)
theorem ZLs_fit (c0 c1 c2 : Int) (rs : List RowV) (ths : List ThrV) (i : Nat) (hi : i < rs.length) (hr : ∀ r ∈ rs, 0 ≤ r.gap ∧ r.gap ≤ 255) : FitZ (ZLs c0 c1 c2 rs ths (i + 1)) (atTo 0 rs (i + 1)) := by
  intro z hz
  obtain ⟨t, _, rfl⟩ := List.mem_map.1 hz
  exact zOf_fit _ (fun i => atTo 0 rs (i + 1)) i (fun j hj => atTo_ord rs hr i hi j hj)
theorem ZLs_hold (c0 c1 c2 : Int) (rs : List RowV) (ths : List ThrV) (i : Nat) (hi : i < rs.length) (hr : ∀ r ∈ rs, 0 ≤ r.gap ∧ r.gap ≤ 255) (k : Nat) (hk : k < ths.length) (j : Nat) (hj : jOf (MF c0 c1 c2 rs ths[k]) (i + 1) = j) :
    (holdL ths (ZLs c0 c1 c2 rs ths (i + 1)) (atTo 0 rs (i + 1))).getD k false = (decide (j ≤ i) && (!ths[k].soft || decide (ths[k].grace ≤ atTo 0 rs (i + 1) - atTo 0 rs (j + 1)))) := by
  have := zOf_hold ths[k] (MF c0 c1 c2 rs ths[k]) (fun i => atTo 0 rs (i + 1)) i j (fun j hj => atTo_ord rs hr i hi j hj) hj
  rw [← this]
  simp [holdL, ZLs, List.getD_eq_getElem?_getD, hk, List.getElem?_zipWith]
set_option maxRecDepth 100000 in
set_option maxHeartbeats 16000000 in
theorem core (p : CfgV) (ths : List ThrV) (Q : Option Addr) (q qc : Nat) (rs : List RowV) (w : World) (hp : p.ok w w.heap.size ths)
    (hq : Mem.Sl w w.heap.size 4 Q q (RowV.flat rs)) (hqo : ∀ r ∈ rs, r.ok) (hqm : q ≤ 9223372036854775807) :
    Calls Try.prog 11 #[.agg p.arr, .slice Q q qc] w fun e w' => e = .returned (.bool true) ∧ Below w.heap.size w w' := by
  have hlen := hp.len
  have hql : rs.length = q := by have := hq.1; rw [RowV.flat_len] at this; omega
  have hright : Hid (∀ w', Below w.heap.size w w' → Calls Try.prog 39 #[.agg p.arr] w' (OkSaid (RightC p ths) w')) := fun w' hb => rcright_c p ths w' ((hp.below hb).more hb.size)
  have hbegin : Hid (RightC p ths → ∀ w', Calls Try.prog 31 #[.agg p.arr] w' (NewI p.n ((ZLs p.c0 p.c1 p.c2 rs ths 0).map (.int .i64)) w')) := by
    intro hr w'
    rw [← ZLs_zero, hlen]
    exact begin_c p w' (by have := hr.n; omega)
  have hstep : Hid (RightC p ths → ∀ (w' : World) (A' : Option Addr) (c' : Nat) (Z : List Int) (now u0 u1 u2 : Int), Below w.heap.size w w' → ThrV.I64 u0 → ThrV.I64 u1 → ThrV.I64 u2 → Mem.Ints w' w'.heap.size .i64 A' p.n Z → Calls Try.prog 29 #[.agg p.arr, .slice A' p.n c', .agg #[.int .i64 u0, .int .i64 u1, .int .i64 u2], .int .i64 now] w' (NewI p.n ((stepL (metL p u0 u1 u2 ths) Z now).map (.int .i64)) w')) := by
    intro hr w' A' c' Z now u0 u1 u2 hb h0 h1 h2 hZ
    exact step_c p ths A' c' Z u0 u1 u2 now w' ((hp.below hb).more hb.size) (by have := hr.n; omega) hr.each h0 h1 h2 hZ
  have hhold : Hid (RightC p ths → ∀ (w' : World) (A' : Option Addr) (c' : Nat) (Z : List Int) (now : Int), Below w.heap.size w w' → 0 ≤ now → now ≤ 4611686018427387904 → FitZ Z now → Mem.Ints w' w'.heap.size .i64 A' p.n Z → Calls Try.prog 37 #[.agg p.arr, .slice A' p.n c', .int .i64 now] w' (NewB p.n ((holdL ths Z now).map .bool) w')) := by
    intro hr w' A' c' Z now hb h0 h1 hZ hs
    exact hold_c p ths A' c' Z now w' ((hp.below hb).more hb.size) (by have := hr.n; omega) h0 h1 hZ hs
  have hone : Hid (RightC p ths → ∀ (w' : World) (k j : Nat) (hk : k < ths.length) (hj : j < rs.length), Below w.heap.size w w' → Calls Try.prog 45 #[.agg p.arr, .int .i64 k, .agg #[.int .i64 rs[j].av0, .int .i64 rs[j].av1, .int .i64 rs[j].av2]] w' fun e w2 => e = .returned (.bool (MF p.c0 p.c1 p.c2 rs ths[k] j)) ∧ Below w'.heap.size w' w2) := by
    intro hr w' k j hk hj hb
    rw [MF_at p.c0 p.c1 p.c2 rs _ j hj]
    have ho := hqo rs[j] (List.getElem_mem hj)
    exact one_c p ths rs[j].av0 rs[j].av1 rs[j].av2 k w' ((hp.below hb).more hb.size) hk (by have := hr.n; omega) hr.each ho.av0 ho.av1 ho.av2
  have hn12 : Hid (RightC p ths → p.n ≤ 12) := fun hr => hr.n
  have hgr : Hid (RightC p ths → ∀ t ∈ ths, 0 ≤ t.grace ∧ t.grace ≤ 1000) := fun hr t ht => ⟨(hr.each t ht).g0, (hr.each t ht).g1⟩
  have hro : Hid (q ≤ 60 → ∀ w', Below w.heap.size w w' → Calls Try.prog 44 #[.slice Q q qc] w' (NewI q ((ats 0 rs).map (.int .i64)) w')) := fun h w' hb => rounds_c Q q qc rs w' ((hq.below hb).more hb.size) hqo h
  have Hsl := Lib.hid hp.sl
  have Hqo := Lib.hid hqo
  have hgap : Hid (∀ r ∈ rs, 0 ≤ r.gap ∧ r.gap ≤ 255) := fun r hr => (hqo r hr).gap
  have hZs : Hid (∀ i (hi : i < rs.length), stepL (metL p rs[i].av0 rs[i].av1 rs[i].av2 ths) (ZLs p.c0 p.c1 p.c2 rs ths i) (atTo 0 rs (i + 1)) = ZLs p.c0 p.c1 p.c2 rs ths (i + 1)) := fun i hi => ZLs_step p rs ths i hi hgap.out
  have hZf : Hid (∀ i (_ : i < rs.length), FitZ (ZLs p.c0 p.c1 p.c2 rs ths (i + 1)) (atTo 0 rs (i + 1))) := fun i hi => ZLs_fit p.c0 p.c1 p.c2 rs ths i hi hgap.out
  have hZh : Hid (∀ i (_ : i < rs.length) (k : Nat) (hk : k < ths.length) (j : Nat), jOf (MF p.c0 p.c1 p.c2 rs ths[k]) (i + 1) = j → (holdL ths (ZLs p.c0 p.c1 p.c2 rs ths (i + 1)) (atTo 0 rs (i + 1))).getD k false = (decide (j ≤ i) && (!ths[k].soft || decide (ths[k].grace ≤ atTo 0 rs (i + 1) - atTo 0 rs (j + 1))))) := fun i hi k hk j hj => ZLs_hold p.c0 p.c1 p.c2 rs ths i hi hgap.out k hk j hj
  clear hp hqo
  obtain ⟨FP, hFP⟩ : ∃ FP : Prop, FP = RightC p ths := ⟨_, rfl⟩
  rw [← hFP] at hright hbegin hstep hhold hone hn12 hgr
  clear hFP
  obtain ⟨ML, hML⟩ : ∃ ML : Int → Int → Int → List Bool, ML = fun u0 u1 u2 => metL p u0 u1 u2 ths := ⟨_, rfl⟩
  obtain ⟨ZL, hZL⟩ : ∃ ZL : Nat → List Int, ZL = ZLs p.c0 p.c1 p.c2 rs ths := ⟨_, rfl⟩
  obtain ⟨MM, hMM⟩ : ∃ MM : ThrV → Nat → Bool, MM = MF p.c0 p.c1 p.c2 rs := ⟨_, rfl⟩
  have gstep : Hid (FP → ∀ (w' : World) (A' : Option Addr) (c' : Nat) (Z : List Int) (now u0 u1 u2 : Int), Below w.heap.size w w' → ThrV.I64 u0 → ThrV.I64 u1 → ThrV.I64 u2 → Mem.Ints w' w'.heap.size .i64 A' p.n Z → Calls Try.prog 29 #[.agg p.arr, .slice A' p.n c', .agg #[.int .i64 u0, .int .i64 u1, .int .i64 u2], .int .i64 now] w' (NewI p.n ((stepL (ML u0 u1 u2) Z now).map (.int .i64)) w')) := by rw [hML]; exact hstep
  have gZs : Hid (∀ i (hi : i < rs.length), stepL (ML rs[i].av0 rs[i].av1 rs[i].av2) (ZL i) (atTo 0 rs (i + 1)) = ZL (i + 1)) := by rw [hML, hZL]; exact hZs
  rw [← hZL] at hbegin hZf hZh
  rw [← hMM] at hone hZh
  clear hstep hZs hML hZL hMM
  obtain ⟨k0, k1, k2, a0, a1, a2, A, n, c, per, ret, age, dead⟩ := p
  unfold CfgV.arr at hright hbegin gstep hhold hone ⊢
  dsimp only at hright hbegin gstep hhold hone hlen Hsl hn12 ⊢
  go_enter Try.func11, Try.ntmps11
  go_wp2_with fail
  refine (gawake_c _).mono ?_
  rintro e w1 ⟨rfl, hb1⟩
  have L1 : Below w.heap.size w w1 := ((Below.refl _ _).alloc (Nat.le_refl _) _).trans (hb1.mono (by simp))
  have C1 : Mem.Blk w1 w.heap.size 47 #[.int .i64 k0, .int .i64 k1, .int .i64 k2, .int .i64 a0, .int .i64 a1, .int .i64 a2, .slice A n c, .int .i64 per, .int .i64 ret, .int .i64 age, .int .i64 dead] := Mem.Blk.new.belowS hb1
  clear hb1
  have m0 : w1.cell? ⟨w.heap.size, 0, none⟩ = some (.int .i64 k0) := C1.cell 0
  have m1 : w1.cell? ⟨w.heap.size, 1, none⟩ = some (.int .i64 k1) := C1.cell 1
  have m2 : w1.cell? ⟨w.heap.size, 2, none⟩ = some (.int .i64 k2) := C1.cell 2
  have m3 : w1.cell? ⟨w.heap.size, 3, none⟩ = some (.int .i64 a0) := C1.cell 3
  have m4 : w1.cell? ⟨w.heap.size, 4, none⟩ = some (.int .i64 a1) := C1.cell 4
  have m5 : w1.cell? ⟨w.heap.size, 5, none⟩ = some (.int .i64 a2) := C1.cell 5
  have m6 : w1.cell? ⟨w.heap.size, 6, none⟩ = some (.slice A n c) := C1.cell 6
  have m7 : w1.cell? ⟨w.heap.size, 7, none⟩ = some (.int .i64 per) := C1.cell 7
  have m8 : w1.cell? ⟨w.heap.size, 8, none⟩ = some (.int .i64 ret) := C1.cell 8
  have m9 : w1.cell? ⟨w.heap.size, 9, none⟩ = some (.int .i64 age) := C1.cell 9
  have m10 : w1.cell? ⟨w.heap.size, 10, none⟩ = some (.int .i64 dead) := C1.cell 10
  go_wp2_with fail
  refine (hright.out _ L1).mono ?_
  rintro e w2 ⟨b, rfl, hfb, hb2⟩
  have L2 : Below w.heap.size w w2 := L1.trans (hb2.mono L1.size)
  have C2 := C1.belowS hb2
  clear hb2 C1 L1 m0 m1 m2 m3 m4 m5 m6 m7 m8 m9 m10
  have hor : b = false ∨ b = true ∧ (60 < q ∨ q ≤ 60) := by cases b <;> simp <;> omega
  rcases hor with rfl | ⟨rfl, h2 | h2⟩
  · clear hfb
    go_wp2_with fail
    refine (gawake_c _).mono ?_
    rintro e w9 ⟨rfl, hb9⟩
    go_wp2_with fail
    go_ret
    exact ⟨rfl, L2.trans (hb9.mono L2.size)⟩
  · clear hfb
    go_wp2_with fail
    refine (gawake_c _).mono ?_
    rintro e w9 ⟨rfl, hb9⟩
    go_wp2_with fail
    go_ret
    exact ⟨rfl, L2.trans (hb9.mono L2.size)⟩
  · have HF := Lib.hid (hfb rfl)
    have hn := hn12.out HF.out
    have zlt := C2.lt
    clear hfb hright
    go_wp2_with fail
    refine (hro.out h2 _ L2).mono ?_
    rintro e w4 ⟨A4, c4, rfl, R4, hb4⟩
    have L4 : Below w.heap.size w w4 := L2.trans (hb4.mono L2.size)
    have C4 := C2.belowS hb4
    have T4 : Mem.Ints w4 w4.heap.size .i64 A4 q (ats 0 rs) := own_sl R4
    clear hb4 hro R4 C2 L2
    have m0 : w4.cell? ⟨w.heap.size, 0, none⟩ = some (.int .i64 k0) := C4.cell 0
    have m1 : w4.cell? ⟨w.heap.size, 1, none⟩ = some (.int .i64 k1) := C4.cell 1
    have m2 : w4.cell? ⟨w.heap.size, 2, none⟩ = some (.int .i64 k2) := C4.cell 2
    have m3 : w4.cell? ⟨w.heap.size, 3, none⟩ = some (.int .i64 a0) := C4.cell 3
    have m4 : w4.cell? ⟨w.heap.size, 4, none⟩ = some (.int .i64 a1) := C4.cell 4
    have m5 : w4.cell? ⟨w.heap.size, 5, none⟩ = some (.int .i64 a2) := C4.cell 5
    have m6 : w4.cell? ⟨w.heap.size, 6, none⟩ = some (.slice A n c) := C4.cell 6
    have m7 : w4.cell? ⟨w.heap.size, 7, none⟩ = some (.int .i64 per) := C4.cell 7
    have m8 : w4.cell? ⟨w.heap.size, 8, none⟩ = some (.int .i64 ret) := C4.cell 8
    have m9 : w4.cell? ⟨w.heap.size, 9, none⟩ = some (.int .i64 age) := C4.cell 9
    have m10 : w4.cell? ⟨w.heap.size, 10, none⟩ = some (.int .i64 dead) := C4.cell 10
    go_wp2_with fail
    refine (hbegin.out HF.out _).mono ?_
    rintro e w5 ⟨A3, c3, rfl, R3, hb5⟩
    have L5 : Below w.heap.size w w5 := L4.trans (hb5.mono L4.size)
    have C5 := C4.belowS hb5
    have T5 : Mem.Ints w5 w4.heap.size .i64 A4 q (ats 0 rs) := T4.below hb5
    have R5 : IRow w5 w.heap.size A3 n c3 ((ZL 0).map (.int .i64)) := own_low R3 L4.size
    have z5 : w4.heap.size ≤ w5.heap.size := hb5.size
    clear hb5 R3 C4 L4 T4 hbegin m0 m1 m2 m3 m4 m5 m6 m7 m8 m9 m10
    generalize w4.heap.size = g4 at *
    go_wp2_with fail
    go_loopw [6, 7] (fun vs vi wr => ∃ (i : Nat) (A' : Option Addr) (c' : Nat), i ≤ q ∧ vi = .int .i64 i ∧ vs = .slice A' n c' ∧ Below w.heap.size w wr ∧ g4 ≤ wr.heap.size ∧ Mem.Blk wr w.heap.size 47 #[.int .i64 k0, .int .i64 k1, .int .i64 k2, .int .i64 a0, .int .i64 a1, .int .i64 a2, .slice A n c, .int .i64 per, .int .i64 ret, .int .i64 age, .int .i64 dead] ∧ Mem.Ints wr g4 .i64 A4 q (ats 0 rs) ∧ IRow wr w.heap.size A' n c' ((ZL i).map (.int .i64))) (fun _ i _ => q - (intOf i).toNat)
    case atStart => exact ⟨0, A3, c3, by omega, rfl, rfl, L5, z5, C5, T5, R5⟩
    case round =>
      clear L5 z5 C5 T5 R5
      obtain ⟨i, A', c', hi, rfl, rfl, hbr, hzr, B0, T0, R0⟩ := hrel
      by_cases hlt : i < q
      · obtain ⟨ad, hl, rfl, hadb, hbk, hat⟩ := RowV.at_ (hq.below hbr) hlt
        obtain ⟨at4, z, hlz, rfl, _, hze, hcz⟩ := Mem.Ints.at_ T0 hlt
        have hq60 := atTo_bd 0 rs hgap.out (i + 1) (by omega)
        have e1 : z = atTo 0 rs (i + 1) := by rw [← hze, ats_get 0 rs i (by omega)]
        have hro := Hqo.out rs[i] (List.getElem_mem hl)
        have Hav : Hid (ThrV.I64 rs[i].av0 ∧ ThrV.I64 rs[i].av1 ∧ ThrV.I64 rs[i].av2) := ⟨hro.av0, hro.av1, hro.av2⟩
        have hI2 : Hid (stepL (ML rs[i].av0 rs[i].av1 rs[i].av2) (ZL i) z = ZL (i + 1)) := by
          show _ = _
          rw [e1]; exact gZs.out i hl
        have hfz : Hid (FitZ (ZL (i + 1)) z) := by rw [e1]; exact hZf.out i hl
        have hhz : Hid (∀ (k : Nat) (hk : k < ths.length) (j : Nat), jOf (MM ths[k]) (i + 1) = j → (holdL ths (ZL (i + 1)) z).getD k false = (decide (j ≤ i) && (!ths[k].soft || decide (ths[k].grace ≤ z - atTo 0 rs (j + 1))))) := by rw [e1]; exact hZh.out i hl
        obtain ⟨hz0, hz1⟩ : 0 ≤ z ∧ z ≤ 16000 := by omega
        clear e1 hze hq60 hro
        generalize rs[i] = r at *
        obtain ⟨gap, av0, av1, av2⟩ := r
        have hatr : RowV.At wr (ad.add (i * 4)) ⟨gap, av0, av1, av2⟩ := hat
        clear hat
        dsimp only at Hav hI2
        go_wp2_with fail
        refine Reg.start (S := (fun w' => Mem.Blk w' w.heap.size 47 #[.int .i64 k0, .int .i64 k1, .int .i64 k2, .int .i64 a0, .int .i64 a1, .int .i64 a2, .slice A n c, .int .i64 per, .int .i64 ret, .int .i64 age, .int .i64 dead] ∧ RowV.At w' (ad.add (i * 4)) ⟨gap, av0, av1, av2⟩ ∧ w'.cell? (at4.add i) = some (.int .i64 z))) (by kernel_rfl) ?_
        refine Reg.takes (n := 2) (by kernel_rfl) (fun _ _ d _ _ h => by cases d <;> exact h) ⟨B0.drew, hatr.drew, Mem.keep_drew hcz⟩ [0, 1, 2, 3, 4, 5, 6, 7, 8, 9, 10] _ _ (by kernel_rfl) ?_
        iterate 11 (refine Reg.det_step rfl (fun K' hK' => ?_); go_simp; (first | (refine hK' _ ?_; clear hK' K') | (apply Exists.intro; refine ⟨fun wx hwx => ?_, hK' _ ?_⟩; (first | rfl | (have hA := hwx; intro hB fz; have m0 : wx.cell? ⟨w.heap.size, 0, none⟩ = some (.int .i64 k0) := Mem.Blk.cell hA 0; have m1 : wx.cell? ⟨w.heap.size, 1, none⟩ = some (.int .i64 k1) := Mem.Blk.cell hA 1; have m2 : wx.cell? ⟨w.heap.size, 2, none⟩ = some (.int .i64 k2) := Mem.Blk.cell hA 2; have m3 : wx.cell? ⟨w.heap.size, 3, none⟩ = some (.int .i64 a0) := Mem.Blk.cell hA 3; have m4 : wx.cell? ⟨w.heap.size, 4, none⟩ = some (.int .i64 a1) := Mem.Blk.cell hA 4; have m5 : wx.cell? ⟨w.heap.size, 5, none⟩ = some (.int .i64 a2) := Mem.Blk.cell hA 5; have m6 : wx.cell? ⟨w.heap.size, 6, none⟩ = some (.slice A n c) := Mem.Blk.cell hA 6; have m7 : wx.cell? ⟨w.heap.size, 7, none⟩ = some (.int .i64 per) := Mem.Blk.cell hA 7; have m8 : wx.cell? ⟨w.heap.size, 8, none⟩ = some (.int .i64 ret) := Mem.Blk.cell hA 8; have m9 : wx.cell? ⟨w.heap.size, 9, none⟩ = some (.int .i64 age) := Mem.Blk.cell hA 9; have m10 : wx.cell? ⟨w.heap.size, 10, none⟩ = some (.int .i64 dead) := Mem.Blk.cell hA 10; have r0 := RowV.At.c0 hB; have r1 := RowV.At.c1 hB; have r2 := RowV.At.c2 hB; have r3 := RowV.At.c3 hB; dsimp only at r0 r1 r2 r3; go_simp; first | done | rfl)); clear hK' K')))
        refine Reg.det_nil ?_
        refine Reg.one (i := 11) (n := 1) (by kernel_rfl) ?_
        refine Reg.call rfl rfl (by go_simp; exact ⟨rfl, rfl⟩) ?_
        refine (gstep.out HF.out _ A' c' (ZL i) z av0 av1 av2 hbr.drew Hav.out.1 Hav.out.2.1 Hav.out.2.2 (by exact own_sl (World.ownsRow.drew R0))).mono ?_
        rintro e v1 ⟨A5, c5, rfl, R5, hv1⟩
        rw [hI2.out] at R5
        have LL1 : Below w.heap.size w v1 := hbr.drew.trans (hv1.mono hbr.size)
        have BB1 : Mem.Blk v1 w.heap.size 47 #[.int .i64 k0, .int .i64 k1, .int .i64 k2, .int .i64 a0, .int .i64 a1, .int .i64 a2, .slice A n c, .int .i64 per, .int .i64 ret, .int .i64 age, .int .i64 dead] := Mem.Blk.belowS B0.drew hv1
        have zz1 : wr.heap.size ≤ v1.heap.size := hv1.size
        have hrb : (ad.add (i * 4)).block < wr.heap.size := by have := hbr.size; omega
        have AA1 : RowV.At v1 (ad.add (i * 4)) ⟨gap, av0, av1, av2⟩ := RowV.At.below hatr.drew hv1 hrb
        have TT1 : Mem.Ints v1 g4 .i64 (some at4) q (ats 0 rs) := Mem.Ints.below T0.drew (hv1.mono hzr)
        have cz1 : v1.cell? (at4.add i) = some (.int .i64 z) := (hv1.cell (p := at4.add i) (World.block_lt_of_cell? wr _ hcz)).trans hcz
        refine ⟨_, rfl, ⟨BB1, AA1, cz1⟩, ?_⟩
        refine Reg.takes (n := 0) (by kernel_rfl) (fun _ _ d _ _ h => by cases d <;> exact h) ⟨BB1, AA1, cz1⟩ [12] _ _ (by kernel_rfl) ?_
        iterate 1 (refine Reg.det_step rfl (fun K' hK' => ?_); go_simp; (first | (refine hK' _ ?_; clear hK' K') | (apply Exists.intro; refine ⟨fun wx hwx => ?_, hK' _ ?_⟩; (first | rfl | (have hA := hwx; intro hB fz; have m0 : wx.cell? ⟨w.heap.size, 0, none⟩ = some (.int .i64 k0) := Mem.Blk.cell hA 0; have m1 : wx.cell? ⟨w.heap.size, 1, none⟩ = some (.int .i64 k1) := Mem.Blk.cell hA 1; have m2 : wx.cell? ⟨w.heap.size, 2, none⟩ = some (.int .i64 k2) := Mem.Blk.cell hA 2; have m3 : wx.cell? ⟨w.heap.size, 3, none⟩ = some (.int .i64 a0) := Mem.Blk.cell hA 3; have m4 : wx.cell? ⟨w.heap.size, 4, none⟩ = some (.int .i64 a1) := Mem.Blk.cell hA 4; have m5 : wx.cell? ⟨w.heap.size, 5, none⟩ = some (.int .i64 a2) := Mem.Blk.cell hA 5; have m6 : wx.cell? ⟨w.heap.size, 6, none⟩ = some (.slice A n c) := Mem.Blk.cell hA 6; have m7 : wx.cell? ⟨w.heap.size, 7, none⟩ = some (.int .i64 per) := Mem.Blk.cell hA 7; have m8 : wx.cell? ⟨w.heap.size, 8, none⟩ = some (.int .i64 ret) := Mem.Blk.cell hA 8; have m9 : wx.cell? ⟨w.heap.size, 9, none⟩ = some (.int .i64 age) := Mem.Blk.cell hA 9; have m10 : wx.cell? ⟨w.heap.size, 10, none⟩ = some (.int .i64 dead) := Mem.Blk.cell hA 10; have r0 := RowV.At.c0 hB; have r1 := RowV.At.c1 hB; have r2 := RowV.At.c2 hB; have r3 := RowV.At.c3 hB; dsimp only at r0 r1 r2 r3; go_simp; first | done | rfl)); clear hK' K')))
        refine Reg.det_nil ?_
        refine wpAnyH_done (by kernel_rfl) ?_ _
        clear hatr hcz B0 T0 R0 AA1 hI2
        go_wp2_with fail
        refine Reg.start (S := (fun w' => Mem.Blk w' w.heap.size 47 #[.int .i64 k0, .int .i64 k1, .int .i64 k2, .int .i64 a0, .int .i64 a1, .int .i64 a2, .slice A n c, .int .i64 per, .int .i64 ret, .int .i64 age, .int .i64 dead] ∧ w'.cell? (at4.add i) = some (.int .i64 z))) (by kernel_rfl) ?_
        refine Reg.takes (n := 2) (by kernel_rfl) (fun _ _ d _ _ h => by cases d <;> exact h) ⟨BB1.drew, Mem.keep_drew cz1⟩ [0, 1, 2, 3, 4, 5] _ _ (by kernel_rfl) ?_
        iterate 6 (refine Reg.det_step rfl (fun K' hK' => ?_); go_simp; (first | (refine hK' _ ?_; clear hK' K') | (apply Exists.intro; refine ⟨fun wx hwx => ?_, hK' _ ?_⟩; (first | rfl | (have hA := hwx; intro fz; have m0 : wx.cell? ⟨w.heap.size, 0, none⟩ = some (.int .i64 k0) := Mem.Blk.cell hA 0; have m1 : wx.cell? ⟨w.heap.size, 1, none⟩ = some (.int .i64 k1) := Mem.Blk.cell hA 1; have m2 : wx.cell? ⟨w.heap.size, 2, none⟩ = some (.int .i64 k2) := Mem.Blk.cell hA 2; have m3 : wx.cell? ⟨w.heap.size, 3, none⟩ = some (.int .i64 a0) := Mem.Blk.cell hA 3; have m4 : wx.cell? ⟨w.heap.size, 4, none⟩ = some (.int .i64 a1) := Mem.Blk.cell hA 4; have m5 : wx.cell? ⟨w.heap.size, 5, none⟩ = some (.int .i64 a2) := Mem.Blk.cell hA 5; have m6 : wx.cell? ⟨w.heap.size, 6, none⟩ = some (.slice A n c) := Mem.Blk.cell hA 6; have m7 : wx.cell? ⟨w.heap.size, 7, none⟩ = some (.int .i64 per) := Mem.Blk.cell hA 7; have m8 : wx.cell? ⟨w.heap.size, 8, none⟩ = some (.int .i64 ret) := Mem.Blk.cell hA 8; have m9 : wx.cell? ⟨w.heap.size, 9, none⟩ = some (.int .i64 age) := Mem.Blk.cell hA 9; have m10 : wx.cell? ⟨w.heap.size, 10, none⟩ = some (.int .i64 dead) := Mem.Blk.cell hA 10; go_simp; first | done | rfl)); clear hK' K')))
        refine Reg.det_nil ?_
        refine Reg.one (i := 6) (n := 1) (by kernel_rfl) ?_
        refine Reg.call rfl rfl (by go_simp; exact ⟨rfl, rfl⟩) ?_
        refine (hhold.out HF.out _ A5 c5 (ZL (i + 1)) z LL1.drew (by omega) (by omega) hfz.out (by exact own_sl (World.ownsRow.drew R5))).mono ?_
        rintro e v2 ⟨A6, c6, rfl, R6, hv2⟩
        have LL2 : Below w.heap.size w v2 := LL1.drew.trans (hv2.mono LL1.size)
        have BB2 : Mem.Blk v2 w.heap.size 47 #[.int .i64 k0, .int .i64 k1, .int .i64 k2, .int .i64 a0, .int .i64 a1, .int .i64 a2, .slice A n c, .int .i64 per, .int .i64 ret, .int .i64 age, .int .i64 dead] := Mem.Blk.belowS BB1.drew hv2
        have R52 : IRow v2 w.heap.size A5 n c5 ((ZL (i + 1)).map (.int .i64)) := own_low (own_below (World.ownsRow.drew R5) hv2 (Nat.le_refl _)) (by have := hbr.size; show w.heap.size ≤ wr.drew.heap.size; exact this)
        have zz2 : v1.heap.size ≤ v2.heap.size := hv2.size
        have TT2 : Mem.Ints v2 g4 .i64 (some at4) q (ats 0 rs) := Mem.Ints.below TT1.drew (hv2.mono (show g4 ≤ v1.heap.size by omega))
        have cz2 : v2.cell? (at4.add i) = some (.int .i64 z) := (hv2.cell (p := at4.add i) (World.block_lt_of_cell? v1 _ cz1)).trans cz1
        have sH : Mem.Sl v2 v2.heap.size 1 A6 n ((holdL ths (ZL (i + 1)) z).map Value.bool) := own_sl R6
        generalize holdL ths (ZL (i + 1)) z = HB2 at *
        refine ⟨_, rfl, ⟨BB2, cz2⟩, ?_⟩
        refine Reg.takes (n := 0) (by kernel_rfl) (fun _ _ d _ _ h => by cases d <;> exact h) ⟨BB2, cz2⟩ [7] _ _ (by kernel_rfl) ?_
        iterate 1 (refine Reg.det_step rfl (fun K' hK' => ?_); go_simp; (first | (refine hK' _ ?_; clear hK' K') | (apply Exists.intro; refine ⟨fun wx hwx => ?_, hK' _ ?_⟩; (first | rfl | (have hA := hwx; intro fz; have m0 : wx.cell? ⟨w.heap.size, 0, none⟩ = some (.int .i64 k0) := Mem.Blk.cell hA 0; have m1 : wx.cell? ⟨w.heap.size, 1, none⟩ = some (.int .i64 k1) := Mem.Blk.cell hA 1; have m2 : wx.cell? ⟨w.heap.size, 2, none⟩ = some (.int .i64 k2) := Mem.Blk.cell hA 2; have m3 : wx.cell? ⟨w.heap.size, 3, none⟩ = some (.int .i64 a0) := Mem.Blk.cell hA 3; have m4 : wx.cell? ⟨w.heap.size, 4, none⟩ = some (.int .i64 a1) := Mem.Blk.cell hA 4; have m5 : wx.cell? ⟨w.heap.size, 5, none⟩ = some (.int .i64 a2) := Mem.Blk.cell hA 5; have m6 : wx.cell? ⟨w.heap.size, 6, none⟩ = some (.slice A n c) := Mem.Blk.cell hA 6; have m7 : wx.cell? ⟨w.heap.size, 7, none⟩ = some (.int .i64 per) := Mem.Blk.cell hA 7; have m8 : wx.cell? ⟨w.heap.size, 8, none⟩ = some (.int .i64 ret) := Mem.Blk.cell hA 8; have m9 : wx.cell? ⟨w.heap.size, 9, none⟩ = some (.int .i64 age) := Mem.Blk.cell hA 9; have m10 : wx.cell? ⟨w.heap.size, 10, none⟩ = some (.int .i64 dead) := Mem.Blk.cell hA 10; go_simp; first | done | rfl)); clear hK' K')))
        refine Reg.det_nil ?_
        refine wpAnyH_done (by kernel_rfl) ?_ _
        clear hv1 hv2 R5 R6 BB1 LL1 TT1 cz1
        have m0 : v2.cell? ⟨w.heap.size, 0, none⟩ = some (.int .i64 k0) := BB2.cell 0
        have m1 : v2.cell? ⟨w.heap.size, 1, none⟩ = some (.int .i64 k1) := BB2.cell 1
        have m2 : v2.cell? ⟨w.heap.size, 2, none⟩ = some (.int .i64 k2) := BB2.cell 2
        have m3 : v2.cell? ⟨w.heap.size, 3, none⟩ = some (.int .i64 a0) := BB2.cell 3
        have m4 : v2.cell? ⟨w.heap.size, 4, none⟩ = some (.int .i64 a1) := BB2.cell 4
        have m5 : v2.cell? ⟨w.heap.size, 5, none⟩ = some (.int .i64 a2) := BB2.cell 5
        have m6 : v2.cell? ⟨w.heap.size, 6, none⟩ = some (.slice A n c) := BB2.cell 6
        have m7 : v2.cell? ⟨w.heap.size, 7, none⟩ = some (.int .i64 per) := BB2.cell 7
        have m8 : v2.cell? ⟨w.heap.size, 8, none⟩ = some (.int .i64 ret) := BB2.cell 8
        have m9 : v2.cell? ⟨w.heap.size, 9, none⟩ = some (.int .i64 age) := BB2.cell 9
        have m10 : v2.cell? ⟨w.heap.size, 10, none⟩ = some (.int .i64 dead) := BB2.cell 10
        have dmn : ((n : Int) != (n : Int)) = false := by simp
        go_wp2_with fail
        clear m0 m1 m2 m3 m4 m5 m6 m7 m8 m9 m10 dmn
        go_loopw [9] (fun vj wq => ∃ k : Nat, k ≤ n ∧ vj = .int .i64 k ∧ Below v2.heap.size v2 wq) (fun j _ => n - (intOf j).toNat)
        case atStart => exact ⟨0, by omega, rfl, Below.refl _ _⟩
        case round =>
          obtain ⟨k, hk, rfl, hbq⟩ := hrel
          have LQ : Below w.heap.size w wr := LL2.trans (hbq.mono LL2.size)
          have zq := hbq.size
          by_cases hkt : k < n
          · obtain ⟨th, hkl, hA, _, ht, hat⟩ := ThrV.at_ (Hsl.out.below LQ) (k := k) (by omega)
            obtain ⟨hd, rfl, hch⟩ := sl_bool (sH.below hbq) hkt
            have hjh := hhz.out k hkl
            have hg := hgr.out HF.out ths[k] (List.getElem_mem hkl)
            have hcall : Hid (∀ (w' : World) (j : Nat) (hj : j < rs.length), Below w.heap.size w w' → Calls Try.prog 45 #[.agg #[.int .i64 k0, .int .i64 k1, .int .i64 k2, .int .i64 a0, .int .i64 a1, .int .i64 a2, .slice A n c, .int .i64 per, .int .i64 ret, .int .i64 age, .int .i64 dead], .int .i64 k, .agg #[.int .i64 rs[j].av0, .int .i64 rs[j].av1, .int .i64 rs[j].av2]] w' fun e w2 => e = .returned (.bool (MM ths[k] j)) ∧ Below w'.heap.size w' w2) := fun w' j hj hb => hone.out HF.out w' k j hkl hj hb
            generalize HB2.getD k false = hb at *
            generalize MM ths[k] = M at *
            generalize ths[k] = t at *
            have Hjh := Lib.hid hjh
            clear hjh
            obtain ⟨sig, pct, amt, soft, grace⟩ := t
            obtain ⟨c0, c1, c2, c3, c4⟩ := hat
            dsimp only at Hjh hg c0 c1 c2 c3 c4
            obtain ⟨hg0, hg1⟩ := hg
            have BQ := BB2.belowS hbq
            have m6 : wr.cell? ⟨w.heap.size, 6, none⟩ = some (.slice A n c) := BQ.cell 6
            have cq := (hbq.cell (p := at4.add i) (World.block_lt_of_cell? v2 _ cz2)).trans cz2
            subst hA
            go_wp2_with fail
            clear c0 c1 c2 c3 c4 m6
            obtain ⟨X, hX⟩ : ∃ X, X = wr.alloc (.cells #[.int .i64 sig, .int .i64 pct, .int .i64 amt, .bool soft, .int .i64 grace] 67) := ⟨_, rfl⟩
            have hvX : Below v2.heap.size v2 X := by rw [hX]; exact hbq.alloc zq _
            have LX : Below w.heap.size w X := by rw [hX]; exact LQ.alloc LQ.size _
            have TX : Mem.Blk X wr.heap.size 67 #[.int .i64 sig, .int .i64 pct, .int .i64 amt, .bool soft, .int .i64 grace] := by rw [hX]; exact Mem.Blk.new
            have BX : Mem.Blk X w.heap.size 47 #[.int .i64 k0, .int .i64 k1, .int .i64 k2, .int .i64 a0, .int .i64 a1, .int .i64 a2, .slice (some th) n c, .int .i64 per, .int .i64 ret, .int .i64 age, .int .i64 dead] := by rw [hX]; exact BQ.alloc
            have zX : v2.heap.size ≤ X.heap.size := hvX.size
            have czX : X.cell? (at4.add i) = some (.int .i64 z) := by rw [hX]; exact Mem.keep_alloc cq
            have chX : X.cell? (hd.add k) = some (.bool hb) := by rw [hX]; exact Mem.keep_alloc hch
            have AX : Mem.Ints X g4 .i64 (some at4) q (ats 0 rs) := TT2.below (hvX.mono (by omega))
            rw [← hX]
            clear hX BQ cq hch hbq LQ zq
            generalize wr.heap.size = gt at *
            go_loopw [11] (fun vj wx => ∃ j : Nat, j ≤ i + 1 ∧ vj = .int .i64 j ∧ Below X.heap.size X wx ∧ Hid (jOf M (i + 1) = jOf M j)) (fun j _ => (intOf j).toNat)
            case atStart => exact ⟨i + 1, by omega, by go_num, Below.refl _ _, rfl⟩
            case round =>
              obtain ⟨j, hj, rfl, hbx, HJ⟩ := hrel
              have LR : Below w.heap.size w wr := LX.trans (hbx.mono LX.size)
              by_cases hj0 : 0 < j
              · obtain ⟨j', hj'⟩ : ∃ j', j = j' + 1 := ⟨j - 1, by omega⟩
                have Hj := Lib.hid hj'
                have jlt : j' < q := by omega
                have jlr : j' < rs.length := by omega
                have wj : IntKind.i64.wrap ((j : Int) - 1) = (j' : Int) := by rw [show ((j : Int) - 1) = (j' : Int) by omega]; unfold IntKind.wrap; simp [IntKind.bits, IntKind.signed]; omega
                have d0 : decide ((j : Int) > 0) = true := by simp; omega
                have d0' : decide (0 < j) = true := by simp; omega
                clear hj' hj0
                obtain ⟨ad5, hl5, hA5, _, hbk5, hat5⟩ := RowV.at_ (hq.below LR) jlt
                obtain rfl : ad = ad5 := by simpa using hA5
                have hcl := hcall.out
                have hc5 : Hid (∀ (w' : World), Below w.heap.size w w' → Calls Try.prog 45 #[.agg #[.int .i64 k0, .int .i64 k1, .int .i64 k2, .int .i64 a0, .int .i64 a1, .int .i64 a2, .slice (some th) n c, .int .i64 per, .int .i64 ret, .int .i64 age, .int .i64 dead], .int .i64 k, .agg #[.int .i64 rs[j'].av0, .int .i64 rs[j'].av1, .int .i64 rs[j'].av2]] w' fun e w2 => e = .returned (.bool (M j')) ∧ Below w'.heap.size w' w2) := fun w' hb => hcl w' j' jlr hb
                clear hcl hA5
                generalize rs[j'] = r at *
                obtain ⟨gap, av0, av1, av2⟩ := r
                have hatr : RowV.At wr (ad.add (j' * 4)) ⟨gap, av0, av1, av2⟩ := hat5
                clear hat5
                dsimp only at hc5
                have B0 := BX.belowS hbx
                go_wp2_with fail
                refine Reg.start (S := (fun w' => Mem.Blk w' w.heap.size 47 #[.int .i64 k0, .int .i64 k1, .int .i64 k2, .int .i64 a0, .int .i64 a1, .int .i64 a2, .slice (some th) n c, .int .i64 per, .int .i64 ret, .int .i64 age, .int .i64 dead] ∧ RowV.At w' (ad.add (j' * 4)) ⟨gap, av0, av1, av2⟩)) (by kernel_rfl) ?_
                refine Reg.takes (n := 2) (by kernel_rfl) (fun _ _ d _ _ h => by cases d <;> exact h) ⟨B0.drew, hatr.drew⟩ [0, 1, 2, 3, 4, 5, 6, 7, 8, 9, 10] _ _ (by kernel_rfl) ?_
                iterate 11 (refine Reg.det_step rfl (fun K' hK' => ?_); go_simp; (first | (refine hK' _ ?_; clear hK' K') | (apply Exists.intro; refine ⟨fun wx hwx => ?_, hK' _ ?_⟩; (first | rfl | (have hA := hwx; intro hB; have m0 : wx.cell? ⟨w.heap.size, 0, none⟩ = some (.int .i64 k0) := Mem.Blk.cell hA 0; have m1 : wx.cell? ⟨w.heap.size, 1, none⟩ = some (.int .i64 k1) := Mem.Blk.cell hA 1; have m2 : wx.cell? ⟨w.heap.size, 2, none⟩ = some (.int .i64 k2) := Mem.Blk.cell hA 2; have m3 : wx.cell? ⟨w.heap.size, 3, none⟩ = some (.int .i64 a0) := Mem.Blk.cell hA 3; have m4 : wx.cell? ⟨w.heap.size, 4, none⟩ = some (.int .i64 a1) := Mem.Blk.cell hA 4; have m5 : wx.cell? ⟨w.heap.size, 5, none⟩ = some (.int .i64 a2) := Mem.Blk.cell hA 5; have m6 : wx.cell? ⟨w.heap.size, 6, none⟩ = some (.slice (some th) n c) := Mem.Blk.cell hA 6; have m7 : wx.cell? ⟨w.heap.size, 7, none⟩ = some (.int .i64 per) := Mem.Blk.cell hA 7; have m8 : wx.cell? ⟨w.heap.size, 8, none⟩ = some (.int .i64 ret) := Mem.Blk.cell hA 8; have m9 : wx.cell? ⟨w.heap.size, 9, none⟩ = some (.int .i64 age) := Mem.Blk.cell hA 9; have m10 : wx.cell? ⟨w.heap.size, 10, none⟩ = some (.int .i64 dead) := Mem.Blk.cell hA 10; have r0 := RowV.At.c0 hB; have r1 := RowV.At.c1 hB; have r2 := RowV.At.c2 hB; have r3 := RowV.At.c3 hB; dsimp only at r0 r1 r2 r3; go_simp; first | done | rfl)); clear hK' K')))
                refine Reg.det_nil ?_
                refine Reg.one (i := 11) (n := 1) (by kernel_rfl) ?_
                refine Reg.call rfl rfl (by go_simp; exact ⟨rfl, rfl⟩) ?_
                refine (hc5.out _ LR.drew).mono ?_
                rintro e w6 ⟨rfl, hb6⟩
                have hbY : Below X.heap.size X w6 := hbx.drew.trans (hb6.mono hbx.size)
                have S6 : (fun w' => Mem.Blk w' w.heap.size 47 #[.int .i64 k0, .int .i64 k1, .int .i64 k2, .int .i64 a0, .int .i64 a1, .int .i64 a2, .slice (some th) n c, .int .i64 per, .int .i64 ret, .int .i64 age, .int .i64 dead] ∧ RowV.At w' (ad.add (j' * 4)) ⟨gap, av0, av1, av2⟩) w6 := ⟨Mem.Blk.belowS B0.drew hb6, RowV.At.below hatr.drew hb6 (by have := LR.size; show _ < wr.heap.size; omega)⟩
                refine ⟨_, rfl, S6, ?_⟩
                refine Reg.takes (n := 0) (by kernel_rfl) (fun _ _ d _ _ h => by cases d <;> exact h) S6 [12] _ _ (by kernel_rfl) ?_
                iterate 1 (refine Reg.det_step rfl (fun K' hK' => ?_); go_simp; (first | (refine hK' _ ?_; clear hK' K') | (apply Exists.intro; refine ⟨fun wx hwx => ?_, hK' _ ?_⟩; (first | rfl | (have hA := hwx; intro hB; have m0 : wx.cell? ⟨w.heap.size, 0, none⟩ = some (.int .i64 k0) := Mem.Blk.cell hA 0; have m1 : wx.cell? ⟨w.heap.size, 1, none⟩ = some (.int .i64 k1) := Mem.Blk.cell hA 1; have m2 : wx.cell? ⟨w.heap.size, 2, none⟩ = some (.int .i64 k2) := Mem.Blk.cell hA 2; have m3 : wx.cell? ⟨w.heap.size, 3, none⟩ = some (.int .i64 a0) := Mem.Blk.cell hA 3; have m4 : wx.cell? ⟨w.heap.size, 4, none⟩ = some (.int .i64 a1) := Mem.Blk.cell hA 4; have m5 : wx.cell? ⟨w.heap.size, 5, none⟩ = some (.int .i64 a2) := Mem.Blk.cell hA 5; have m6 : wx.cell? ⟨w.heap.size, 6, none⟩ = some (.slice (some th) n c) := Mem.Blk.cell hA 6; have m7 : wx.cell? ⟨w.heap.size, 7, none⟩ = some (.int .i64 per) := Mem.Blk.cell hA 7; have m8 : wx.cell? ⟨w.heap.size, 8, none⟩ = some (.int .i64 ret) := Mem.Blk.cell hA 8; have m9 : wx.cell? ⟨w.heap.size, 9, none⟩ = some (.int .i64 age) := Mem.Blk.cell hA 9; have m10 : wx.cell? ⟨w.heap.size, 10, none⟩ = some (.int .i64 dead) := Mem.Blk.cell hA 10; have r0 := RowV.At.c0 hB; have r1 := RowV.At.c1 hB; have r2 := RowV.At.c2 hB; have r3 := RowV.At.c3 hB; dsimp only at r0 r1 r2 r3; go_simp; first | done | rfl)); clear hK' K')))
                refine Reg.det_nil ?_
                refine wpAnyH_done (by kernel_rfl) ?_ _
                have HJ2 : Hid (jOf M (i + 1) = if M j' = true then jOf M j' else j) := by
                  show _ = _
                  rw [HJ.out, Hj.out]; rfl
                clear HJ S6 hb6 B0 hatr hc5 hbx LR
                generalize M j' = mj at *
                cases mj with
                | true =>
                  go_wp2_with fail
                  go_roundw
                  case rel => exact ⟨j', by have := Hj.out; omega, rfl, hbY, by show _ = _; rw [HJ2.out, if_pos rfl]⟩
                  case measure => have := Hj.out; simp [intOf]; omega
                | false =>
                  have HJ3 : Hid (jOf M (i + 1) = j) := by show _ = _; rw [HJ2.out, if_neg (by simp)]
                  clear HJ2 d0 d0'
                  have hqj := Hjh.out j HJ3.out
                  have hor : (i < j ∧ hb = false) ∨ (j ≤ i ∧ (soft = false ∧ hb = true ∨ soft = true ∧ (z - atTo 0 rs (j + 1) < grace ∧ hb = false ∨ grace ≤ z - atTo 0 rs (j + 1) ∧ hb = true))) := by
                    by_cases h : j ≤ i
                    · refine .inr ⟨h, ?_⟩
                      rw [hqj]
                      cases soft with
                      | false => exact .inl ⟨rfl, by simp [h]⟩
                      | true =>
                        refine .inr ⟨rfl, ?_⟩
                        by_cases h2 : grace ≤ z - atTo 0 rs (j + 1)
                        · exact .inr ⟨h2, by simp [h, h2]⟩
                        · exact .inl ⟨by omega, by simp [h, h2]⟩
                    · exact .inl ⟨by omega, by rw [hqj]; simp [h]⟩
                  clear hqj Hjh HJ3
                  have TY := TX.belowS hbY
                  have ciY := (hbY.cell (p := at4.add i) (World.block_lt_of_cell? X _ czX)).trans czX
                  have chY := (hbY.cell (p := hd.add k) (World.block_lt_of_cell? X _ chX)).trans chX
                  have AY : Mem.Ints w6 g4 .i64 (some at4) q (ats 0 rs) := AX.below (hbY.mono (by omega))
                  rcases hor with ⟨hji, rfl⟩ | ⟨hji, hor⟩
                  · have dji : decide ((j : Int) ≤ (i : Int)) = false := by simp; omega
                    have dji' : decide (j ≤ i) = false := by simp; omega
                    clear hji
                    go_wp2_with fail
                    have SX : (fun w' => w'.cell? ⟨gt, 3, none⟩ = some (.bool soft)) (World.drew w6) := TY.cell 3
                    refine Reg.start (S := (fun w' => w'.cell? ⟨gt, 3, none⟩ = some (.bool soft))) (by kernel_rfl) ?_
                    refine Reg.takes (n := 0) (by kernel_rfl) (fun _ _ d _ _ h => by cases d <;> exact h) SX [0, 1, 2, 3, 4, 5, 6, 7, 8, 9, 10, 11, 12, 13, 14, 15, 16, 17, 18, 19, 20, 21, 22] _ _ (by kernel_rfl) ?_
                    iterate 23 (refine Reg.det_step rfl (fun K' hK' => ?_); go_simp; (first | (refine hK' _ ?_; clear hK' K') | (apply Exists.intro; refine ⟨fun wx hwx => ?_, hK' _ ?_⟩; (first | rfl | (have fa := hwx; go_simp; first | done | rfl)); clear hK' K')))
                    refine Reg.det_nil ?_
                    refine wpAnyH_done (by kernel_rfl) ?_ _
                    have chD := Mem.keep_drew chY
                    go_wp2_with fail
                    go_roundw
                    case rel => exact ⟨k + 1, by omega, by go_num, hvX.trans ((hbY.mono zX).drew)⟩
                    case measure => simp [intOf]; omega
                  · obtain ⟨at5, y, hly, hA5, _, hye, hcy⟩ := Mem.Ints.at_ AY (k := j) (by omega)
                    obtain rfl : at4 = at5 := by simpa using hA5
                    clear hA5
                    have ey : y = atTo 0 rs (j + 1) := by rw [← hye, ats_get 0 rs j (by omega)]
                    rw [← ey] at hor
                    have hy0 : 0 ≤ y ∧ y ≤ 16000 := by
                      have := atTo_bd 0 rs hgap.out (j + 1) (by omega)
                      omega
                    obtain ⟨hy0, hy1⟩ := hy0
                    clear ey hye
                    have dji : decide ((j : Int) ≤ (i : Int)) = true := by simp; omega
                    have dji' : decide (j ≤ i) = true := by simp; omega
                    have jq : j < q := by omega
                    clear hji
                    rcases hor with ⟨rfl, rfl⟩ | ⟨rfl, ⟨hgz, rfl⟩ | ⟨hgz, rfl⟩⟩
                    · go_wp2_with fail
                      have SX : (fun w' => w'.cell? ⟨gt, 3, none⟩ = some (.bool false) ∧ w'.cell? ⟨gt, 4, none⟩ = some (.int .i64 grace) ∧ w'.cell? (at4.add i) = some (.int .i64 z) ∧ w'.cell? (at4.add j) = some (.int .i64 y)) (World.drew w6) := ⟨TY.cell 3, TY.cell 4, Mem.keep_drew ciY, Mem.keep_drew hcy⟩
                      refine Reg.start (S := (fun w' => w'.cell? ⟨gt, 3, none⟩ = some (.bool false) ∧ w'.cell? ⟨gt, 4, none⟩ = some (.int .i64 grace) ∧ w'.cell? (at4.add i) = some (.int .i64 z) ∧ w'.cell? (at4.add j) = some (.int .i64 y))) (by kernel_rfl) ?_
                      refine Reg.takes (n := 0) (by kernel_rfl) (fun _ _ d _ _ h => by cases d <;> exact h) SX [0, 1, 2, 3, 4, 5, 6, 7, 8, 9, 10, 11, 12, 13, 14, 15, 16, 17, 18, 19, 20, 21, 22] _ _ (by kernel_rfl) ?_
                      iterate 23 (refine Reg.det_step rfl (fun K' hK' => ?_); go_simp; (first | (refine hK' _ ?_; clear hK' K') | (apply Exists.intro; refine ⟨fun wx hwx => ?_, hK' _ ?_⟩; (first | rfl | (have fa := hwx; intro fb fc fd; go_simp; first | done | rfl)); clear hK' K')))
                      refine Reg.det_nil ?_
                      refine wpAnyH_done (by kernel_rfl) ?_ _
                      have chD := Mem.keep_drew chY
                      go_wp2_with fail
                      go_roundw
                      case rel => exact ⟨k + 1, by omega, by go_num, hvX.trans ((hbY.mono zX).drew)⟩
                      case measure => simp [intOf]; omega
                    · have hw : IntKind.i64.wrap (z - y) = z - y := by unfold IntKind.wrap; simp [IntKind.bits, IntKind.signed]; omega
                      have d2 : decide (z - y ≥ grace) = false := by simp; omega
                      go_wp2_with fail
                      have SX : (fun w' => w'.cell? ⟨gt, 3, none⟩ = some (.bool true) ∧ w'.cell? ⟨gt, 4, none⟩ = some (.int .i64 grace) ∧ w'.cell? (at4.add i) = some (.int .i64 z) ∧ w'.cell? (at4.add j) = some (.int .i64 y)) (World.drew w6) := ⟨TY.cell 3, TY.cell 4, Mem.keep_drew ciY, Mem.keep_drew hcy⟩
                      refine Reg.start (S := (fun w' => w'.cell? ⟨gt, 3, none⟩ = some (.bool true) ∧ w'.cell? ⟨gt, 4, none⟩ = some (.int .i64 grace) ∧ w'.cell? (at4.add i) = some (.int .i64 z) ∧ w'.cell? (at4.add j) = some (.int .i64 y))) (by kernel_rfl) ?_
                      refine Reg.takes (n := 0) (by kernel_rfl) (fun _ _ d _ _ h => by cases d <;> exact h) SX [0, 1, 2, 3, 4, 5, 6, 7, 8, 9, 10, 11, 12, 13, 14, 15, 16, 17, 18, 19, 20, 21, 22] _ _ (by kernel_rfl) ?_
                      iterate 23 (refine Reg.det_step rfl (fun K' hK' => ?_); go_simp; (first | (refine hK' _ ?_; clear hK' K') | (apply Exists.intro; refine ⟨fun wx hwx => ?_, hK' _ ?_⟩; (first | rfl | (have fa := hwx; intro fb fc fd; go_simp; first | done | rfl)); clear hK' K')))
                      refine Reg.det_nil ?_
                      refine wpAnyH_done (by kernel_rfl) ?_ _
                      have chD := Mem.keep_drew chY
                      go_wp2_with fail
                      go_roundw
                      case rel => exact ⟨k + 1, by omega, by go_num, hvX.trans ((hbY.mono zX).drew)⟩
                      case measure => simp [intOf]; omega
                    · have hw : IntKind.i64.wrap (z - y) = z - y := by unfold IntKind.wrap; simp [IntKind.bits, IntKind.signed]; omega
                      have d2 : decide (z - y ≥ grace) = true := by simp; omega
                      go_wp2_with fail
                      have SX : (fun w' => w'.cell? ⟨gt, 3, none⟩ = some (.bool true) ∧ w'.cell? ⟨gt, 4, none⟩ = some (.int .i64 grace) ∧ w'.cell? (at4.add i) = some (.int .i64 z) ∧ w'.cell? (at4.add j) = some (.int .i64 y)) (World.drew w6) := ⟨TY.cell 3, TY.cell 4, Mem.keep_drew ciY, Mem.keep_drew hcy⟩
                      refine Reg.start (S := (fun w' => w'.cell? ⟨gt, 3, none⟩ = some (.bool true) ∧ w'.cell? ⟨gt, 4, none⟩ = some (.int .i64 grace) ∧ w'.cell? (at4.add i) = some (.int .i64 z) ∧ w'.cell? (at4.add j) = some (.int .i64 y))) (by kernel_rfl) ?_
                      refine Reg.takes (n := 0) (by kernel_rfl) (fun _ _ d _ _ h => by cases d <;> exact h) SX [0, 1, 2, 3, 4, 5, 6, 7, 8, 9, 10, 11, 12, 13, 14, 15, 16, 17, 18, 19, 20, 21, 22] _ _ (by kernel_rfl) ?_
                      iterate 23 (refine Reg.det_step rfl (fun K' hK' => ?_); go_simp; (first | (refine hK' _ ?_; clear hK' K') | (apply Exists.intro; refine ⟨fun wx hwx => ?_, hK' _ ?_⟩; (first | rfl | (have fa := hwx; intro fb fc fd; go_simp; first | done | rfl)); clear hK' K')))
                      refine Reg.det_nil ?_
                      refine wpAnyH_done (by kernel_rfl) ?_ _
                      have chD := Mem.keep_drew chY
                      go_wp2_with fail
                      go_roundw
                      case rel => exact ⟨k + 1, by omega, by go_num, hvX.trans ((hbY.mono zX).drew)⟩
                      case measure => simp [intOf]; omega
              · have d0 : decide ((j : Int) > 0) = false := by simp; omega
                have d0' : decide (0 < j) = false := by simp; omega
                have HJ3 : Hid (jOf M (i + 1) = j) := by
                  show _ = _
                  rw [HJ.out, show j = 0 by omega]; rfl
                have B0 := BX.belowS hbx
                clear HJ hj0
                go_wp2_with fail
                refine Reg.start (S := (fun w' => Mem.Blk w' w.heap.size 47 #[.int .i64 k0, .int .i64 k1, .int .i64 k2, .int .i64 a0, .int .i64 a1, .int .i64 a2, .slice (some th) n c, .int .i64 per, .int .i64 ret, .int .i64 age, .int .i64 dead])) (by kernel_rfl) ?_
                refine Reg.takes (n := 2) (by kernel_rfl) (fun _ _ d _ _ h => by cases d <;> exact h) B0.drew [0, 1, 2, 3, 4, 5, 6, 7, 8, 9, 10] _ _ (by kernel_rfl) ?_
                iterate 11 (refine Reg.det_step rfl (fun K' hK' => ?_); go_simp; (first | (refine hK' _ ?_; clear hK' K') | (apply Exists.intro; refine ⟨fun wx hwx => ?_, hK' _ ?_⟩; (first | rfl | (have fa := hwx; go_simp; first | done | rfl)); clear hK' K')))
                refine Reg.det_nil ?_
                refine Reg.one (i := 11) (n := 1) (by kernel_rfl) ?_
                refine Reg.off rfl rfl B0.drew ?_
                refine Reg.takes (n := 0) (by kernel_rfl) (fun _ _ d _ _ h => by cases d <;> exact h) B0.drew [12] _ _ (by kernel_rfl) ?_
                iterate 1 (refine Reg.det_step rfl (fun K' hK' => ?_); go_simp; (first | (refine hK' _ ?_; clear hK' K') | (apply Exists.intro; refine ⟨fun wx hwx => ?_, hK' _ ?_⟩; (first | rfl | (have fa := hwx; go_simp; first | done | rfl)); clear hK' K')))
                refine Reg.det_nil ?_
                refine wpAnyH_done (by kernel_rfl) ?_ _
                go_wp2_with fail
                obtain ⟨Y, hY⟩ : ∃ Y, Y = World.drew wr := ⟨_, rfl⟩
                have hbY : Below X.heap.size X Y := by rw [hY]; exact hbx.drew
                rw [← hY]
                clear hY d0 d0' B0 LR
                have hqj := Hjh.out j HJ3.out
                have hor : (i < j ∧ hb = false) ∨ (j ≤ i ∧ (soft = false ∧ hb = true ∨ soft = true ∧ (z - atTo 0 rs (j + 1) < grace ∧ hb = false ∨ grace ≤ z - atTo 0 rs (j + 1) ∧ hb = true))) := by
                  by_cases h : j ≤ i
                  · refine .inr ⟨h, ?_⟩
                    rw [hqj]
                    cases soft with
                    | false => exact .inl ⟨rfl, by simp [h]⟩
                    | true =>
                      refine .inr ⟨rfl, ?_⟩
                      by_cases h2 : grace ≤ z - atTo 0 rs (j + 1)
                      · exact .inr ⟨h2, by simp [h, h2]⟩
                      · exact .inl ⟨by omega, by simp [h, h2]⟩
                  · exact .inl ⟨by omega, by rw [hqj]; simp [h]⟩
                clear hqj Hjh HJ3
                have TY := TX.belowS hbY
                have ciY := (hbY.cell (p := at4.add i) (World.block_lt_of_cell? X _ czX)).trans czX
                have chY := (hbY.cell (p := hd.add k) (World.block_lt_of_cell? X _ chX)).trans chX
                have AY : Mem.Ints Y g4 .i64 (some at4) q (ats 0 rs) := AX.below (hbY.mono (by omega))
                rcases hor with ⟨hji, rfl⟩ | ⟨hji, hor⟩
                · have dji : decide ((j : Int) ≤ (i : Int)) = false := by simp; omega
                  have dji' : decide (j ≤ i) = false := by simp; omega
                  clear hji
                  go_wp2_with fail
                  have SX : (fun w' => w'.cell? ⟨gt, 3, none⟩ = some (.bool soft)) (World.drew Y) := TY.cell 3
                  refine Reg.start (S := (fun w' => w'.cell? ⟨gt, 3, none⟩ = some (.bool soft))) (by kernel_rfl) ?_
                  refine Reg.takes (n := 0) (by kernel_rfl) (fun _ _ d _ _ h => by cases d <;> exact h) SX [0, 1, 2, 3, 4, 5, 6, 7, 8, 9, 10, 11, 12, 13, 14, 15, 16, 17, 18, 19, 20, 21, 22] _ _ (by kernel_rfl) ?_
                  iterate 23 (refine Reg.det_step rfl (fun K' hK' => ?_); go_simp; (first | (refine hK' _ ?_; clear hK' K') | (apply Exists.intro; refine ⟨fun wx hwx => ?_, hK' _ ?_⟩; (first | rfl | (have fa := hwx; go_simp; first | done | rfl)); clear hK' K')))
                  refine Reg.det_nil ?_
                  refine wpAnyH_done (by kernel_rfl) ?_ _
                  have chD := Mem.keep_drew chY
                  go_wp2_with fail
                  go_roundw
                  case rel => exact ⟨k + 1, by omega, by go_num, hvX.trans ((hbY.mono zX).drew)⟩
                  case measure => simp [intOf]; omega
                · obtain ⟨at5, y, hly, hA5, _, hye, hcy⟩ := Mem.Ints.at_ AY (k := j) (by omega)
                  obtain rfl : at4 = at5 := by simpa using hA5
                  clear hA5
                  have ey : y = atTo 0 rs (j + 1) := by rw [← hye, ats_get 0 rs j (by omega)]
                  rw [← ey] at hor
                  have hy0 : 0 ≤ y ∧ y ≤ 16000 := by
                    have := atTo_bd 0 rs hgap.out (j + 1) (by omega)
                    omega
                  obtain ⟨hy0, hy1⟩ := hy0
                  clear ey hye
                  have dji : decide ((j : Int) ≤ (i : Int)) = true := by simp; omega
                  have dji' : decide (j ≤ i) = true := by simp; omega
                  have jq : j < q := by omega
                  clear hji
                  rcases hor with ⟨rfl, rfl⟩ | ⟨rfl, ⟨hgz, rfl⟩ | ⟨hgz, rfl⟩⟩
                  · go_wp2_with fail
                    have SX : (fun w' => w'.cell? ⟨gt, 3, none⟩ = some (.bool false) ∧ w'.cell? ⟨gt, 4, none⟩ = some (.int .i64 grace) ∧ w'.cell? (at4.add i) = some (.int .i64 z) ∧ w'.cell? (at4.add j) = some (.int .i64 y)) (World.drew Y) := ⟨TY.cell 3, TY.cell 4, Mem.keep_drew ciY, Mem.keep_drew hcy⟩
                    refine Reg.start (S := (fun w' => w'.cell? ⟨gt, 3, none⟩ = some (.bool false) ∧ w'.cell? ⟨gt, 4, none⟩ = some (.int .i64 grace) ∧ w'.cell? (at4.add i) = some (.int .i64 z) ∧ w'.cell? (at4.add j) = some (.int .i64 y))) (by kernel_rfl) ?_
                    refine Reg.takes (n := 0) (by kernel_rfl) (fun _ _ d _ _ h => by cases d <;> exact h) SX [0, 1, 2, 3, 4, 5, 6, 7, 8, 9, 10, 11, 12, 13, 14, 15, 16, 17, 18, 19, 20, 21, 22] _ _ (by kernel_rfl) ?_
                    iterate 23 (refine Reg.det_step rfl (fun K' hK' => ?_); go_simp; (first | (refine hK' _ ?_; clear hK' K') | (apply Exists.intro; refine ⟨fun wx hwx => ?_, hK' _ ?_⟩; (first | rfl | (have fa := hwx; intro fb fc fd; go_simp; first | done | rfl)); clear hK' K')))
                    refine Reg.det_nil ?_
                    refine wpAnyH_done (by kernel_rfl) ?_ _
                    have chD := Mem.keep_drew chY
                    go_wp2_with fail
                    go_roundw
                    case rel => exact ⟨k + 1, by omega, by go_num, hvX.trans ((hbY.mono zX).drew)⟩
                    case measure => simp [intOf]; omega
                  · have hw : IntKind.i64.wrap (z - y) = z - y := by unfold IntKind.wrap; simp [IntKind.bits, IntKind.signed]; omega
                    have d2 : decide (z - y ≥ grace) = false := by simp; omega
                    go_wp2_with fail
                    have SX : (fun w' => w'.cell? ⟨gt, 3, none⟩ = some (.bool true) ∧ w'.cell? ⟨gt, 4, none⟩ = some (.int .i64 grace) ∧ w'.cell? (at4.add i) = some (.int .i64 z) ∧ w'.cell? (at4.add j) = some (.int .i64 y)) (World.drew Y) := ⟨TY.cell 3, TY.cell 4, Mem.keep_drew ciY, Mem.keep_drew hcy⟩
                    refine Reg.start (S := (fun w' => w'.cell? ⟨gt, 3, none⟩ = some (.bool true) ∧ w'.cell? ⟨gt, 4, none⟩ = some (.int .i64 grace) ∧ w'.cell? (at4.add i) = some (.int .i64 z) ∧ w'.cell? (at4.add j) = some (.int .i64 y))) (by kernel_rfl) ?_
                    refine Reg.takes (n := 0) (by kernel_rfl) (fun _ _ d _ _ h => by cases d <;> exact h) SX [0, 1, 2, 3, 4, 5, 6, 7, 8, 9, 10, 11, 12, 13, 14, 15, 16, 17, 18, 19, 20, 21, 22] _ _ (by kernel_rfl) ?_
                    iterate 23 (refine Reg.det_step rfl (fun K' hK' => ?_); go_simp; (first | (refine hK' _ ?_; clear hK' K') | (apply Exists.intro; refine ⟨fun wx hwx => ?_, hK' _ ?_⟩; (first | rfl | (have fa := hwx; intro fb fc fd; go_simp; first | done | rfl)); clear hK' K')))
                    refine Reg.det_nil ?_
                    refine wpAnyH_done (by kernel_rfl) ?_ _
                    have chD := Mem.keep_drew chY
                    go_wp2_with fail
                    go_roundw
                    case rel => exact ⟨k + 1, by omega, by go_num, hvX.trans ((hbY.mono zX).drew)⟩
                    case measure => simp [intOf]; omega
                  · have hw : IntKind.i64.wrap (z - y) = z - y := by unfold IntKind.wrap; simp [IntKind.bits, IntKind.signed]; omega
                    have d2 : decide (z - y ≥ grace) = true := by simp; omega
                    go_wp2_with fail
                    have SX : (fun w' => w'.cell? ⟨gt, 3, none⟩ = some (.bool true) ∧ w'.cell? ⟨gt, 4, none⟩ = some (.int .i64 grace) ∧ w'.cell? (at4.add i) = some (.int .i64 z) ∧ w'.cell? (at4.add j) = some (.int .i64 y)) (World.drew Y) := ⟨TY.cell 3, TY.cell 4, Mem.keep_drew ciY, Mem.keep_drew hcy⟩
                    refine Reg.start (S := (fun w' => w'.cell? ⟨gt, 3, none⟩ = some (.bool true) ∧ w'.cell? ⟨gt, 4, none⟩ = some (.int .i64 grace) ∧ w'.cell? (at4.add i) = some (.int .i64 z) ∧ w'.cell? (at4.add j) = some (.int .i64 y))) (by kernel_rfl) ?_
                    refine Reg.takes (n := 0) (by kernel_rfl) (fun _ _ d _ _ h => by cases d <;> exact h) SX [0, 1, 2, 3, 4, 5, 6, 7, 8, 9, 10, 11, 12, 13, 14, 15, 16, 17, 18, 19, 20, 21, 22] _ _ (by kernel_rfl) ?_
                    iterate 23 (refine Reg.det_step rfl (fun K' hK' => ?_); go_simp; (first | (refine hK' _ ?_; clear hK' K') | (apply Exists.intro; refine ⟨fun wx hwx => ?_, hK' _ ?_⟩; (first | rfl | (have fa := hwx; intro fb fc fd; go_simp; first | done | rfl)); clear hK' K')))
                    refine Reg.det_nil ?_
                    refine wpAnyH_done (by kernel_rfl) ?_ _
                    have chD := Mem.keep_drew chY
                    go_wp2_with fail
                    go_roundw
                    case rel => exact ⟨k + 1, by omega, by go_num, hvX.trans ((hbY.mono zX).drew)⟩
                    case measure => simp [intOf]; omega
          · obtain rfl : k = n := by omega
            have m6 : wr.cell? ⟨w.heap.size, 6, none⟩ = some (.slice A k c) := (BB2.belowS hbq).cell 6
            go_wp2_with fail
            go_roundw
            case rel => exact ⟨i + 1, A5, c5, by omega, by go_num, rfl, LQ, by omega, BB2.belowS hbq, TT2.below (hbq.mono (by omega)), own_below R52 hbq (Nat.le_refl _)⟩
            case measure => simp [intOf]; omega
      · obtain rfl : i = q := by omega
        go_wp2_with fail
        go_ret
        exact ⟨rfl, hbr⟩
theorem walk (v1 v2 : Value) (w : World) (h1 : Frame.Arg Try.prog w 47 v1) (h2 : Frame.Arg Try.prog w 62 v2) :
    Calls Try.prog 11 #[v1, v2] w fun e w' => e = .returned (.bool true) ∧ Below w.heap.size w w' := by
  obtain ⟨p, ths, rfl, hp⟩ := CfgV.of_arg h1
  obtain ⟨Q, q, qc, rs, rfl, hqc, hqm, _, hqo, hq⟩ := RowV.of_slice h2
  unfold maxLen at hqm
  exact core p ths Q q qc rs w hp hq hqo (by omega)
end graceRuns
end Go.Proofs.Ytjfbnobijlkicaa
