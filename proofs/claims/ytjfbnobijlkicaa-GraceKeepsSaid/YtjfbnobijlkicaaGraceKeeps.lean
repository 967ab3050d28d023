/- GraceKeeps: the walk. -/
import Derived.Test.YtjfbnobijlkicaaGraceT
namespace Go.Proofs.Ytjfbnobijlkicaa
open Go.RowKit
namespace graceKeeps
open Grc
def thrZ : Value := .agg #[.int .i64 0, .int .i64 0, .int .i64 0, .bool false, .int .i64 0]
theorem elth : Mem.El Try.prog 45 67 thrZ 5 40 := ⟨Try.underlying45, by kernel_rfl, by decide, by decide⟩
theorem farN {w : World} {B n c size : Nat} {e : TypeId} {A : Option Addr} {xs : List Value} (h : w.ownsRow B e size (.slice A n c) n xs) {p : Addr} (hp : p.block < B) (u : Value) : (w.setCell p u).ownsRow B e size (.slice A n c) n xs := by
  obtain ⟨h1, h2⟩ := h
  refine ⟨h1, ?_⟩
  rcases h2 with h2 | ⟨g, cap, cur, hv, hg, hh, r⟩
  · exact .inl h2
  · refine .inr ⟨g, cap, cur, hv, hg, ?_, r⟩
    rw [Below.heap_setCell _ _ _ _ (by omega)]
    exact hh
theorem belowN {w w' : World} {B B' n c size : Nat} {e : TypeId} {A : Option Addr} {xs : List Value} (h : w.ownsRow B e size (.slice A n c) n xs) (hb : Below B' w w') (hB : w.heap.size ≤ B') : w'.ownsRow B e size (.slice A n c) n xs := by
  obtain ⟨h1, h2⟩ := h
  refine ⟨h1, ?_⟩
  rcases h2 with h2 | ⟨g, cap, cur, hv, hg, hh, r⟩
  · exact .inl h2
  · have hlt := (Array.getElem?_eq_some_iff.1 hh).1
    exact .inr ⟨g, cap, cur, hv, hg, (hb.block g (by omega)).trans hh, r⟩
theorem slN {w : World} {B n c size : Nat} {e : TypeId} {A : Option Addr} {xs : List Value} (h : w.ownsRow B e size (.slice A n c) n xs) : Mem.Sl w w.heap.size size A n xs ∧ n ≤ c ∧ c ≤ maxLen := by
  obtain ⟨A', c', e, hs, _, h1, h2⟩ := Mem.own_form h
  obtain ⟨rfl, _, rfl⟩ : A = A' ∧ n = n ∧ c = c' := by simpa using e
  exact ⟨hs, h1, h2⟩
set_option maxRecDepth 100000 in
set_option maxHeartbeats 8000000 in
theorem core (p : CfgV) (ths : List ThrV) (S : Option Addr) (m sc : Nat) (zs : List Int) (round x0 x1 x2 : Int) (w : World) (hp : p.ok w w.heap.size ths) (hz : Mem.Ints w w.heap.size .i64 S m zs) (hm : m ≤ 9223372036854775807)
    (hx0 : ThrV.I64 x0) (hx1 : ThrV.I64 x1) (hx2 : ThrV.I64 x2) :
    Calls Try.prog 14 #[.agg p.arr, .slice S m sc, .agg #[.int .i64 x0, .int .i64 x1, .int .i64 x2], .int .i64 round] w fun e w' => e = .returned (.bool true) ∧ Below w.heap.size w w' := by
  have hfit : Hid (∀ w', Below w.heap.size w w' → Calls Try.prog 28 #[.agg p.arr, .slice S m sc, .int .i64 round] w' (OkSaid (FitP p ths m zs round) w')) := fun w' hb => fit_c p ths S m sc zs round w' ((hp.below hb).more hb.size) ((hz.below hb).more hb.size) hm
  have hstep : Hid (FitP p ths m zs round → ∀ (w' : World) (A' : Option Addr) (c' : Nat), Below w.heap.size w w' → Mem.Ints w' w'.heap.size .i64 A' m zs → Calls Try.prog 29 #[.agg p.arr, .slice A' m c', .agg #[.int .i64 x0, .int .i64 x1, .int .i64 x2], .int .i64 round] w' (NewI m ((stepL (metL p x0 x1 x2 ths) zs round).map (.int .i64)) w')) := by
    intro hf w' A' c' hb hs
    obtain ⟨hr, rfl, _, _, _⟩ := hf
    exact step_c p ths A' c' zs x0 x1 x2 round w' ((hp.below hb).more hb.size) (by have := hr.n; omega) hr.each hx0 hx1 hx2 hs
  have hrstep : Hid (FitP p ths m zs round → ∀ (w' : World), Below w.heap.size w w' → Calls Try.prog 36 #[.agg p.arr, .slice S m sc, .agg #[.int .i64 x0, .int .i64 x1, .int .i64 x2], .int .i64 round] w' (NewI m ((stepL (metL p x0 x1 x2 ths) zs round).map (.int .i64)) w')) := by
    intro hf w' hb
    obtain ⟨hr, rfl, _, _, hzf⟩ := hf
    exact rstep_c p ths S sc zs x0 x1 x2 round w' ((hp.below hb).more hb.size) (by have := hr.n; omega) hr.each hx0 hx1 hx2 ((hz.below hb).more hb.size) (fun z hz => (hzf z hz).1)
  have hhold : Hid (FitP p ths m zs round → ∀ (w' : World) (A' : Option Addr) (c' : Nat), Below w.heap.size w w' → Mem.Ints w' w'.heap.size .i64 A' m zs → Calls Try.prog 37 #[.agg p.arr, .slice A' m c', .int .i64 round] w' (NewB m ((holdL ths zs round).map .bool) w')) := by
    intro hf w' A' c' hb hs
    obtain ⟨hr, rfl, h0, h1, hzz⟩ := hf
    exact hold_c p ths A' c' zs round w' ((hp.below hb).more hb.size) (by have := hr.n; omega) h0 (by omega) hzz hs
  have hnn : FitP p ths m zs round → m ≤ 12 ∧ m = p.n := by
    intro hf
    obtain ⟨hr, hmm, _⟩ := hf
    have := hr.n
    exact ⟨by omega, hmm⟩
  have HNN := Lib.hid hnn
  have hlen := hp.len
  have hzl := hz.len
  have hsl := hp.sl
  have hnc := hp.nc
  have hcm := hp.cm
  unfold maxLen at hcm
  clear hp hnn hx0 hx1 hx2
  obtain ⟨FP, hFP⟩ : ∃ FP : Prop, FP = FitP p ths m zs round := ⟨_, rfl⟩
  rw [← hFP] at hfit hstep hrstep hhold HNN
  clear hFP
  generalize stepL (metL p x0 x1 x2 ths) zs round = ST at *
  generalize holdL ths zs round = HO at *
  obtain ⟨k0, k1, k2, a0, a1, a2, A, n, c, per, ret, age, dead⟩ := p
  unfold CfgV.arr at hfit hstep hrstep hhold ⊢
  dsimp only at hfit hstep hrstep hhold hlen hsl hnc hcm HNN ⊢
  go_enter Try.func14, Try.ntmps14
  go_wp2_with fail
  refine (gawake_c _).mono ?_
  rintro e w1 ⟨rfl, hb1⟩
  have L1 : Below w.heap.size w w1 := (((Below.refl _ _).alloc (Nat.le_refl _) _).alloc (by simp) _).trans (hb1.mono (by simp <;> omega))
  have C1 : Mem.Blk w1 w.heap.size 47 #[.int .i64 k0, .int .i64 k1, .int .i64 k2, .int .i64 a0, .int .i64 a1, .int .i64 a2, .slice A n c, .int .i64 per, .int .i64 ret, .int .i64 age, .int .i64 dead] := Mem.Blk.new.alloc.belowS hb1
  have D1 : Mem.Blk w1 (w.heap.size + 1) 44 #[.int .i64 x0, .int .i64 x1, .int .i64 x2] := by
    have q := Mem.Blk.new (w := w.alloc (.cells #[.int .i64 k0, .int .i64 k1, .int .i64 k2, .int .i64 a0, .int .i64 a1, .int .i64 a2, .slice A n c, .int .i64 per, .int .i64 ret, .int .i64 age, .int .i64 dead] 47)) (t := 44) (cs := #[.int .i64 x0, .int .i64 x1, .int .i64 x2])
    rw [World.size_alloc] at q
    exact q.belowS hb1
  clear hb1
  have m0 : w1.cell? ⟨w.heap.size, 0, none⟩ = some (.int .i64 k0) := C1.cell 0
  have m1 : w1.cell? ⟨w.heap.size, 1, none⟩ = some (.int .i64 k1) := C1.cell 1
  have m2 : w1.cell? ⟨w.heap.size, 2, none⟩ = some (.int .i64 k2) := C1.cell 2
  have m3 : w1.cell? ⟨w.heap.size, 3, none⟩ = some (.int .i64 a0) := C1.cell 3
  have m4 : w1.cell? ⟨w.heap.size, 4, none⟩ = some (.int .i64 a1) := C1.cell 4
  have m5 : w1.cell? ⟨w.heap.size, 5, none⟩ = some (.int .i64 a2) := C1.cell 5
  have m6 : w1.cell? ⟨w.heap.size, 6, none⟩ = some (.slice A n c) := C1.cell 6
  have m7 : w1.cell? ⟨w.heap.size, 7, none⟩ = some (.int .i64 per) := C1.cell 7
  have m8 : w1.cell? ⟨w.heap.size, 8, none⟩ = some (.int .i64 ret) := C1.cell 8
  have m9 : w1.cell? ⟨w.heap.size, 9, none⟩ = some (.int .i64 age) := C1.cell 9
  have m10 : w1.cell? ⟨w.heap.size, 10, none⟩ = some (.int .i64 dead) := C1.cell 10
  go_wp2_with fail
  refine (hfit.out _ L1).mono ?_
  rintro e w2 ⟨b, rfl, hfb, hb2⟩
  have L2 : Below w.heap.size w w2 := L1.trans (hb2.mono L1.size)
  have C2 := C1.belowS hb2
  have D2 := D1.belowS hb2
  clear hb2 C1 D1 L1 m0 m1 m2 m3 m4 m5 m6 m7 m8 m9 m10
  cases b with
  | false =>
    clear hfb
    go_wp2_with fail
    refine (gawake_c _).mono ?_
    rintro e w9 ⟨rfl, hb9⟩
    go_wp2_with fail
    go_ret
    exact ⟨rfl, L2.trans (hb9.mono L2.size)⟩
  | true =>
    have HF := Lib.hid (hfb rfl)
    obtain ⟨hm12, hmn⟩ := HNN.out HF.out
    subst hmn
    clear hfb hfit HNN
    have zs2 := L2.size
    have zl2 : w.heap.size + 1 < w2.heap.size := D2.lt
    have m6 : w2.cell? ⟨w.heap.size, 6, none⟩ = some (.slice A m c) := C2.cell 6
    have hown0 := Mem.own_lit (w := w2) (base := w2.heap.size) (n := 0) (size := 1) (e := 3) (cs := #[]) (xs := []) rfl (by omega) (by simp) rfl rfl
    go_wp2_with (at_builtin; first
      | (refine Mem.wpList_app rfl rfl eli (base := w2.heap.size) hown0 rfl rfl (Mem.Sl.alloc (hz.below L2) zs2 _) (Mem.one_ints _ _) (N := m) (ys := zs.map (.int .i64)) (by omega) (by simp) (by unfold maxLen; omega) (by omega) (by simp) ?_; intro A3 c3 w3 O3 hg3 hat3
         have LA : Below w2.heap.size w2 w3 := ((Below.refl _ _).alloc (Nat.le_refl _) _).grown hg3 (by simp) (fun k hk => (hown0.lt k hk).1)
         have L3 : Below w.heap.size w w3 := L2.trans (LA.mono zs2)
         have R3 : IRow w3 w2.heap.size A3 m c3 (zs.map (.int .i64)) := O3
         have C3 := C2.belowS LA
         have D3 := D2.belowS LA
         have zs3 := L3.size
         have m6' : w3.cell? ⟨w.heap.size, 6, none⟩ = some (.slice A m c) := C3.cell 6
         have zl3 : w.heap.size < w3.heap.size := C3.lt
         have hown1 := Mem.own_lit (w := w3) (base := w3.heap.size) (n := 0) (size := 5) (e := 67) (cs := #[]) (xs := []) rfl (by omega) (by simp) rfl rfl
         clear hown0 hg3 hat3 LA O3 m6 C2 D2 L2)
      | (refine Mem.wpList_app rfl rfl elth (base := w3.heap.size) hown1 rfl rfl (Mem.Sl.alloc (hsl.below L3) zs3 _) (ThrV.flat_one _) (N := m) (ys := ThrV.flat ths) (by omega) (by simp) (by unfold maxLen; omega) (by omega) (by simp) ?_; intro A4 c4 w4 O4 hg4 hat4
         have LA : Below w3.heap.size w3 w4 := ((Below.refl _ _).alloc (Nat.le_refl _) _).grown hg4 (by simp) (fun k hk => (hown1.lt k hk).1)
         have L4 : Below w.heap.size w w4 := L3.trans (LA.mono zs3)
         have R4 : IRow w4 w2.heap.size A3 m c3 (zs.map (.int .i64)) := own_below R3 LA (Nat.le_refl _)
         have C4 := C3.belowS LA
         have D4 := D3.belowS LA
         have hA3 : ∀ g, A3 = some ⟨g, 0, none⟩ → g < w3.heap.size := fun g hg => by subst hg; exact (World.ownsRow.lt R3 g rfl).2
         have HA3 := Lib.hid hA3
         have zs34 := LA.size
         have zs4 := L4.size
         clear hown1 hg4 hat4 LA m6' C3 D3 L3 R3 hA3
         have m0 : w4.cell? ⟨w.heap.size, 0, none⟩ = some (.int .i64 k0) := C4.cell 0
         have m1 : w4.cell? ⟨w.heap.size, 1, none⟩ = some (.int .i64 k1) := C4.cell 1
         have m2 : w4.cell? ⟨w.heap.size, 2, none⟩ = some (.int .i64 k2) := C4.cell 2
         have m3 : w4.cell? ⟨w.heap.size, 3, none⟩ = some (.int .i64 a0) := C4.cell 3
         have m4 : w4.cell? ⟨w.heap.size, 4, none⟩ = some (.int .i64 a1) := C4.cell 4
         have m5 : w4.cell? ⟨w.heap.size, 5, none⟩ = some (.int .i64 a2) := C4.cell 5
         have m6 : w4.cell? ⟨w.heap.size, 6, none⟩ = some (.slice A m c) := C4.cell 6
         have m7 : w4.cell? ⟨w.heap.size, 7, none⟩ = some (.int .i64 per) := C4.cell 7
         have m8 : w4.cell? ⟨w.heap.size, 8, none⟩ = some (.int .i64 ret) := C4.cell 8
         have m9 : w4.cell? ⟨w.heap.size, 9, none⟩ = some (.int .i64 age) := C4.cell 9
         have m10 : w4.cell? ⟨w.heap.size, 10, none⟩ = some (.int .i64 dead) := C4.cell 10
         have n0 : w4.cell? ⟨w.heap.size + 1, 0, none⟩ = some (.int .i64 x0) := D4.cell 0
         have n1 : w4.cell? ⟨w.heap.size + 1, 1, none⟩ = some (.int .i64 x1) := D4.cell 1
         have n2 : w4.cell? ⟨w.heap.size + 1, 2, none⟩ = some (.int .i64 x2) := D4.cell 2))
    refine (hstep.out HF.out _ A3 c3 L4 (by exact own_sl R4)).mono ?_
    rintro e w5 ⟨A5, c5, rfl, R5, hb5⟩
    have L5 : Below w.heap.size w w5 := L4.trans (hb5.mono zs4)
    have C5 := C4.belowS hb5
    have D5 := D4.belowS hb5
    have R35 : IRow w5 w2.heap.size A3 m c3 (zs.map (.int .i64)) := own_below R4 hb5 (Nat.le_refl _)
    have O5 := belowN O4 hb5 (Nat.le_refl _)
    have zs45 := hb5.size
    clear hb5 C4 D4 L4 R4 O4 m0 m1 m2 m3 m4 m5 m6 m7 m8 m9 m10 n0 n1 n2
    have m0 : w5.cell? ⟨w.heap.size, 0, none⟩ = some (.int .i64 k0) := C5.cell 0
    have m1 : w5.cell? ⟨w.heap.size, 1, none⟩ = some (.int .i64 k1) := C5.cell 1
    have m2 : w5.cell? ⟨w.heap.size, 2, none⟩ = some (.int .i64 k2) := C5.cell 2
    have m3 : w5.cell? ⟨w.heap.size, 3, none⟩ = some (.int .i64 a0) := C5.cell 3
    have m4 : w5.cell? ⟨w.heap.size, 4, none⟩ = some (.int .i64 a1) := C5.cell 4
    have m5 : w5.cell? ⟨w.heap.size, 5, none⟩ = some (.int .i64 a2) := C5.cell 5
    have m6 : w5.cell? ⟨w.heap.size, 6, none⟩ = some (.slice A m c) := C5.cell 6
    have m7 : w5.cell? ⟨w.heap.size, 7, none⟩ = some (.int .i64 per) := C5.cell 7
    have m8 : w5.cell? ⟨w.heap.size, 8, none⟩ = some (.int .i64 ret) := C5.cell 8
    have m9 : w5.cell? ⟨w.heap.size, 9, none⟩ = some (.int .i64 age) := C5.cell 9
    have m10 : w5.cell? ⟨w.heap.size, 10, none⟩ = some (.int .i64 dead) := C5.cell 10
    go_wp2_with fail
    refine (hhold.out HF.out _ A3 c3 L5 (by exact own_sl R35)).mono ?_
    rintro e w6 ⟨A6, c6, rfl, _, hb6⟩
    have L6 : Below w.heap.size w w6 := L5.trans (hb6.mono L5.size)
    have C6 := C5.belowS hb6
    have D6 := D5.belowS hb6
    have R36 : IRow w6 w2.heap.size A3 m c3 (zs.map (.int .i64)) := own_below R35 hb6 (Nat.le_refl _)
    have R56 : IRow w6 w4.heap.size A5 m c5 (ST.map (.int .i64)) := own_below R5 hb6 (Nat.le_refl _)
    have O6 := belowN O5 hb6 (Nat.le_refl _)
    clear hb6 C5 D5 L5 R35 R5 O5 m0 m1 m2 m3 m4 m5 m6 m7 m8 m9 m10 hhold hstep
    go_wp2_with fail
    go_loopw [12] (fun vi wr => ∃ (k : Nat) (ys : List Int), k ≤ m ∧ vi = .int .i64 k ∧ Below w.heap.size w wr ∧ Mem.Blk wr w.heap.size 47 #[.int .i64 k0, .int .i64 k1, .int .i64 k2, .int .i64 a0, .int .i64 a1, .int .i64 a2, .slice A m c, .int .i64 per, .int .i64 ret, .int .i64 age, .int .i64 dead] ∧ Mem.Blk wr (w.heap.size + 1) 44 #[.int .i64 x0, .int .i64 x1, .int .i64 x2] ∧ IRow wr w4.heap.size A5 m c5 (ST.map (.int .i64)) ∧ wr.ownsRow w3.heap.size 67 5 (.slice A4 m c4) m (ThrV.flat ths) ∧ IRow wr w2.heap.size A3 m c3 (ys.map (.int .i64)) ∧ Hid (∀ j, k ≤ j → ys[j]? = zs[j]?)) (fun i _ => m - (intOf i).toNat)
    case atStart => exact ⟨0, zs, by omega, rfl, L6, C6, D6, R56, O6, R36, fun _ _ => rfl⟩
    case round =>
      clear L6 C6 D6 R56 O6 R36
      obtain ⟨k, ys, hk, rfl, hbr, C0, D0, RS, OT, RO, hys⟩ := hrel
      by_cases hlt : k < m
      · obtain ⟨hst, hsc, hsm⟩ := slN OT
        obtain ⟨ta, hta, rfl, _, _, hat⟩ := ThrV.at_ hst hlt
        obtain ⟨tb, _, hA, _, htb, hbt⟩ := ThrV.at_ (hsl.below hbr) hlt
        obtain ⟨sa, z, hlz, rfl, hsab, hze, hcz⟩ := Mem.Ints.at_ (hz.below hbr) hlt
        obtain ⟨g, hyl, rfl, hg1, hg2, hcell, hfz, hset⟩ := own_at RO hlt
        have hg3 := HA3.out g rfl
        have hyk : ys[k]? = some z := by rw [hys.out k (Nat.le_refl _), List.getElem?_eq_getElem hlz, hze]
        have hyl2 : k < ys.length := by simpa using hyl
        have hyk2 : ys[k] = z := by
          rw [List.getElem?_eq_getElem hyl2] at hyk
          injection hyk
        have hco : wr.cell? ⟨g, k, none⟩ = some (.int .i64 z) := by rw [hcell]; simp [hyk2]
        have HN : Hid (∀ j, k + 1 ≤ j → (ys.set k (-7))[j]? = zs[j]?) := by
          intro j hj
          rw [List.getElem?_set_ne (by omega)]
          exact hys.out j (by omega)
        have HS : Hid (IRow (World.setCell (World.drew wr) ⟨g, k, none⟩ (.int .i64 (-7))) w2.heap.size (some ⟨g, 0, none⟩) m c3 ((ys.set k (-7)).map (.int .i64))) := by
          have q := hset (.int .i64 (-7))
          have q2 : IRow (wr.setCell ⟨g, k, none⟩ (.int .i64 (-7))) w2.heap.size (some ⟨g, 0, none⟩) m c3 ((ys.set k (-7)).map (.int .i64)) := by
            rw [List.map_set]; exact q
          exact World.ownsRow.drew q2
        unfold maxLen at hsm
        clear hset hcell hyk hyk2 hys hze
        subst hA
        generalize ths[k] = t at *
        obtain ⟨sig, pct, amt, soft, grace⟩ := t
        have hc3 := own_le RO
        unfold maxLen at hc3
        obtain ⟨hc3a, hc3b⟩ := hc3
        go_wp2_with fail
        obtain ⟨X, hX⟩ : ∃ X, X = World.drew wr := ⟨_, rfl⟩
        have SX : (fun w' => ThrV.At w' (ta.add (k * 5)) ⟨sig, pct, amt, soft, grace⟩ ∧ ThrV.At w' (tb.add (k * 5)) ⟨sig, pct, amt, soft, grace⟩ ∧ w'.cell? ⟨w.heap.size, 6, none⟩ = some (.slice (some tb) m c) ∧ w'.cell? ⟨g, k, none⟩ = some (.int .i64 z) ∧ w'.cell? (sa.add k) = some (.int .i64 z)) X := by rw [hX]; exact ⟨hat.drew, hbt.drew, C0.cell 6, hco, hcz⟩
        have LX : Below w.heap.size w X := by rw [hX]; exact hbr.drew
        have zX : X.heap.size = wr.heap.size := by rw [hX]; rfl
        have CX := C0.drew
        have DX := D0.drew
        have RX : IRow X w4.heap.size A5 m c5 (ST.map (.int .i64)) := by rw [hX]; exact World.ownsRow.drew RS
        have OX := World.ownsRow.drew OT
        rw [← hX] at CX DX OX HS
        have fX : X.frozen? ⟨g, k, none⟩ = false := by rw [hX]; exact hfz
        refine Reg.start (S := (fun w' => ThrV.At w' (ta.add (k * 5)) ⟨sig, pct, amt, soft, grace⟩ ∧ ThrV.At w' (tb.add (k * 5)) ⟨sig, pct, amt, soft, grace⟩ ∧ w'.cell? ⟨w.heap.size, 6, none⟩ = some (.slice (some tb) m c) ∧ w'.cell? ⟨g, k, none⟩ = some (.int .i64 z) ∧ w'.cell? (sa.add k) = some (.int .i64 z))) (by kernel_rfl) ?_
        rw [← hX]
        clear hX hat hbt C0 D0 RS OT RO hco hcz hfz
        refine Reg.takes (n := 0) (by kernel_rfl) (fun _ _ d _ _ h => by cases d <;> exact h) SX [0, 1, 2, 3, 4, 5, 6, 7, 8, 9, 10, 11, 12, 13, 14, 15, 16, 17, 18, 19, 20] _ _ (by kernel_rfl) ?_
        iterate 21 (refine Reg.det_step rfl (fun K' hK' => ?_); go_simp; (first | (refine hK' _ ?_; clear hK' K') | (apply Exists.intro; refine ⟨fun wx hwx => ?_, hK' _ ?_⟩; (first | rfl | (have fa := hwx; intro fb fc fd fe; have p0 := ThrV.At.c0 fa; have p1 := ThrV.At.c1 fa; have p2 := ThrV.At.c2 fa; have p3 := ThrV.At.c3 fa; have p4 := ThrV.At.c4 fa; have q0 := ThrV.At.c0 fb; have q1 := ThrV.At.c1 fb; have q2 := ThrV.At.c2 fb; have q3 := ThrV.At.c3 fb; have q4 := ThrV.At.c4 fb; dsimp only at p0 q0 p1 q1 p2 q2 p3 q3 p4 q4; go_simp; first | done | rfl)); clear hK' K')))
        refine Reg.det_nil ?_
        refine wpAnyH_done (by kernel_rfl) ?_ _
        have xo := SX.2.2.2.1
        go_wp2_with fail
        go_roundw
        case rel => exact ⟨k + 1, ys.set k (-7), by omega, by go_num, LX.setCell (by simp; omega) _, CX.far (by simp; omega), DX.far (by simp; omega), farN RX (by simp; omega) _, farN OX (by simp; omega) _, HS.out, HN.out⟩
        case measure => simp [intOf]; omega
      · obtain rfl : k = m := by omega
        have m0 : wr.cell? ⟨w.heap.size, 0, none⟩ = some (.int .i64 k0) := C0.cell 0
        have m1 : wr.cell? ⟨w.heap.size, 1, none⟩ = some (.int .i64 k1) := C0.cell 1
        have m2 : wr.cell? ⟨w.heap.size, 2, none⟩ = some (.int .i64 k2) := C0.cell 2
        have m3 : wr.cell? ⟨w.heap.size, 3, none⟩ = some (.int .i64 a0) := C0.cell 3
        have m4 : wr.cell? ⟨w.heap.size, 4, none⟩ = some (.int .i64 a1) := C0.cell 4
        have m5 : wr.cell? ⟨w.heap.size, 5, none⟩ = some (.int .i64 a2) := C0.cell 5
        have m6 : wr.cell? ⟨w.heap.size, 6, none⟩ = some (.slice A k c) := C0.cell 6
        have m7 : wr.cell? ⟨w.heap.size, 7, none⟩ = some (.int .i64 per) := C0.cell 7
        have m8 : wr.cell? ⟨w.heap.size, 8, none⟩ = some (.int .i64 ret) := C0.cell 8
        have m9 : wr.cell? ⟨w.heap.size, 9, none⟩ = some (.int .i64 age) := C0.cell 9
        have m10 : wr.cell? ⟨w.heap.size, 10, none⟩ = some (.int .i64 dead) := C0.cell 10
        have n0 : wr.cell? ⟨w.heap.size + 1, 0, none⟩ = some (.int .i64 x0) := D0.cell 0
        have n1 : wr.cell? ⟨w.heap.size + 1, 1, none⟩ = some (.int .i64 x1) := D0.cell 1
        have n2 : wr.cell? ⟨w.heap.size + 1, 2, none⟩ = some (.int .i64 x2) := D0.cell 2
        go_wp2_with fail
        refine (hrstep.out HF.out _ hbr).mono ?_
        rintro e w7 ⟨A7, c7, rfl, R7, hb7⟩
        have L7 : Below w.heap.size w w7 := hbr.trans (hb7.mono hbr.size)
        have RS7 : IRow w7 w4.heap.size A5 k c5 (ST.map (.int .i64)) := own_below RS hb7 (Nat.le_refl _)
        go_wp2_with fail
        refine (sameInts_c A5 A7 k c5 c7 _ _ ST _ (by exact own_sl RS7) (by exact own_sl R7) (by omega)).mono ?_
        rintro e w8 ⟨rfl, hb8⟩
        go_wp2_with fail
        go_ret
        exact ⟨rfl, L7.trans (hb8.mono L7.size)⟩
theorem walk (v1 v2 v3 v4 : Value) (w : World) (h1 : Frame.Arg Try.prog w 47 v1) (h2 : Frame.Arg Try.prog w 36 v2) (h3 : Frame.Arg Try.prog w 44 v3) (h4 : Frame.Arg Try.prog w 3 v4) :
    Calls Try.prog 14 #[v1, v2, v3, v4] w fun e w' => e = .returned (.bool true) ∧ Below w.heap.size w w' := by
  obtain ⟨p, ths, rfl, hp⟩ := CfgV.of_arg h1
  obtain ⟨S, m, sc, zs, rfl, hms, hsm, hz, _⟩ := h2.ints Try.underlying36 Try.underlying3 (by kernel_rfl)
  obtain ⟨x0, x1, x2, rfl, e0, e1, e2⟩ := h3.three Try.underlying44 Try.underlying3 (by kernel_rfl) (by kernel_rfl)
  obtain ⟨round, rfl, _⟩ := h4.int Try.underlying3
  unfold maxLen at hsm
  exact core p ths S m sc zs round x0 x1 x2 w hp hz (by omega) (Frame.bd_i64 e0) (Frame.bd_i64 e1) (Frame.bd_i64 e2)
end graceKeeps
end Go.Proofs.Ytjfbnobijlkicaa
