/- The walks of layer 18 (grace): a step; what holds. -/
import Derived.Test.YtjfbnobijlkicaaGraceM
namespace Go.Proofs.Ytjfbnobijlkicaa
open Go.RowKit
namespace Grc
theorem part_keep (l : List Value) (z : Value) (k : Nat) (h : k < l.length) (e : l[k] = z) : part l z (k + 1) = part l z k := by
  unfold part
  rw [List.take_succ_eq_append_getElem h, e, List.append_assoc]
  congr 1
  rw [show l.length - k = (l.length - (k + 1)) + 1 from by omega, List.replicate_succ]
  rfl
/-- a timer behind a sample -/
def stepZ (m : Bool) (z round : Int) : Int := if m then (if z = -1 then round else z) else -1
def stepL (ms : List Bool) (zs : List Int) (round : Int) : List Int := List.zipWith (fun m z => stepZ m z round) ms zs
/-- does a threshold hold? -/
def holdZ (t : ThrV) (z round : Int) : Bool := decide (z ≠ -1) && (!t.soft || decide (t.grace ≤ round - z))
def holdL (ths : List ThrV) (zs : List Int) (round : Int) : List Bool := List.zipWith (fun t z => holdZ t z round) ths zs
theorem bool_at {w : World} {B n k : Nat} {A : Option Addr} {bs : List Bool} (h : Mem.Sl w B 1 A n (bs.map Value.bool)) (hk : k < n) :
    ∃ (ad : Addr) (hl : k < bs.length), A = some ad ∧ ad.block < B ∧ w.cell? (ad.add k) = some (.bool bs[k]) := by
  obtain ⟨ad, hl, e, hb, hc⟩ := Mem.Sl.at_ h hk
  exact ⟨ad, by simpa using hl, e, hb, by simpa using hc⟩
set_option maxRecDepth 100000 in
set_option maxHeartbeats 4000000 in
theorem step_c (p : CfgV) (ths : List ThrV) (S : Option Addr) (sc : Nat) (zs : List Int) (x0 x1 x2 round : Int) (w : World) (hp : p.ok w w.heap.size ths) (hn : p.n ≤ 1000000) (hr : ∀ t ∈ ths, RightT t) (hx0 : ThrV.I64 x0) (hx1 : ThrV.I64 x1) (hx2 : ThrV.I64 x2)
    (hz : Mem.Ints w w.heap.size .i64 S p.n zs) :
    Calls Try.prog 29 #[.agg p.arr, .slice S p.n sc, .agg #[.int .i64 x0, .int .i64 x1, .int .i64 x2], .int .i64 round] w (NewI p.n ((stepL (metL p x0 x1 x2 ths) zs round).map (.int .i64)) w) := by
  have hlen := hp.len
  have hzl := hz.len
  have hml : (metL p x0 x1 x2 ths).length = p.n := by simp [metL, hlen]
  have hbg : Hid (∀ w, Calls Try.prog 31 #[.agg p.arr] w (NewI p.n (nevers p.n) w)) := fun w => begin_c p w hn
  have hmt : Hid (∀ w', Below w.heap.size w w' → Calls Try.prog 34 #[.agg p.arr, .agg #[.int .i64 x0, .int .i64 x1, .int .i64 x2]] w' (NewB p.n ((metL p x0 x1 x2 ths).map .bool) w')) := fun w' hb => met_c p ths x0 x1 x2 w' ((hp.below hb).more hb.size) hn hr hx0 hx1 hx2
  clear hp hr hx0 hx1 hx2
  generalize metL p x0 x1 x2 ths = ms at *
  obtain ⟨k0, k1, k2, a0, a1, a2, A, n, c, per, ret, age, dead⟩ := p
  unfold CfgV.arr at hbg hmt ⊢
  dsimp only at hn hlen hz hzl hml hbg hmt ⊢
  obtain ⟨L, hL⟩ : ∃ L, L = (stepL ms zs round).map (Value.int .i64) := ⟨_, rfl⟩
  have hll : L.length = n := by rw [hL]; simp [stepL, hml, hzl]
  rw [← hL]
  have HL := Lib.hid hL
  clear hL
  go_enter Try.func29, Try.ntmps29
  go_wp2_with fail
  refine (hbg.out _).mono ?_
  rintro e w1 ⟨A1, c1, rfl, R1, hb1⟩
  have W0 : Below w.heap.size w ((w.alloc (.cells #[.int .i64 k0, .int .i64 k1, .int .i64 k2, .int .i64 a0, .int .i64 a1, .int .i64 a2, .slice A n c, .int .i64 per, .int .i64 ret, .int .i64 age, .int .i64 dead] 47)).alloc (.cells #[.int .i64 x0, .int .i64 x1, .int .i64 x2] 44)) := ((Below.refl _ _).alloc (Nat.le_refl _) _).alloc (by simp) _
  have L1 : Below w.heap.size w w1 := W0.trans (hb1.mono (by simp; omega))
  have z1 : w.heap.size + 2 ≤ w1.heap.size := by have q := hb1.size; simp at q; omega
  have B0 : Mem.Blk w1 w.heap.size 47 #[.int .i64 k0, .int .i64 k1, .int .i64 k2, .int .i64 a0, .int .i64 a1, .int .i64 a2, .slice A n c, .int .i64 per, .int .i64 ret, .int .i64 age, .int .i64 dead] := Mem.Blk.new.alloc.belowS hb1
  have B1 : Mem.Blk w1 (w.heap.size + 1) 44 #[.int .i64 x0, .int .i64 x1, .int .i64 x2] := by
    have q := Mem.Blk.new (w := w.alloc (.cells #[.int .i64 k0, .int .i64 k1, .int .i64 k2, .int .i64 a0, .int .i64 a1, .int .i64 a2, .slice A n c, .int .i64 per, .int .i64 ret, .int .i64 age, .int .i64 dead] 47)) (t := 44) (cs := #[.int .i64 x0, .int .i64 x1, .int .i64 x2])
    rw [World.size_alloc] at q
    exact q.belowS hb1
  have R1' : IRow w1 (w.heap.size + 2) A1 n c1 (nevers n) := by
    have q := R1
    rw [World.size_alloc, World.size_alloc] at q
    exact q
  clear hb1 R1 W0
  have m0 : w1.cell? ⟨w.heap.size, 0, none⟩ = some (.int .i64 k0) := B0.cell 0
  have m1 : w1.cell? ⟨w.heap.size, 1, none⟩ = some (.int .i64 k1) := B0.cell 1
  have m2 : w1.cell? ⟨w.heap.size, 2, none⟩ = some (.int .i64 k2) := B0.cell 2
  have m3 : w1.cell? ⟨w.heap.size, 3, none⟩ = some (.int .i64 a0) := B0.cell 3
  have m4 : w1.cell? ⟨w.heap.size, 4, none⟩ = some (.int .i64 a1) := B0.cell 4
  have m5 : w1.cell? ⟨w.heap.size, 5, none⟩ = some (.int .i64 a2) := B0.cell 5
  have m6 : w1.cell? ⟨w.heap.size, 6, none⟩ = some (.slice A n c) := B0.cell 6
  have m7 : w1.cell? ⟨w.heap.size, 7, none⟩ = some (.int .i64 per) := B0.cell 7
  have m8 : w1.cell? ⟨w.heap.size, 8, none⟩ = some (.int .i64 ret) := B0.cell 8
  have m9 : w1.cell? ⟨w.heap.size, 9, none⟩ = some (.int .i64 age) := B0.cell 9
  have m10 : w1.cell? ⟨w.heap.size, 10, none⟩ = some (.int .i64 dead) := B0.cell 10
  have v0 : w1.cell? ⟨w.heap.size + 1, 0, none⟩ = some (.int .i64 x0) := B1.cell 0
  have v1 : w1.cell? ⟨w.heap.size + 1, 1, none⟩ = some (.int .i64 x1) := B1.cell 1
  have v2 : w1.cell? ⟨w.heap.size + 1, 2, none⟩ = some (.int .i64 x2) := B1.cell 2
  go_wp2_with fail
  refine (hmt.out _ L1).mono ?_
  rintro e w2 ⟨A2, c2, rfl, R2, hb2⟩
  have L2 : Below w.heap.size w w2 := L1.trans (hb2.mono L1.size)
  have R3 : IRow w2 (w.heap.size + 2) A1 n c1 (nevers n) := own_below R1' hb2 (Nat.le_refl _)
  have hlt1 : ∀ g, A1 = some ⟨g, 0, none⟩ → w.heap.size + 2 ≤ g ∧ g < w1.heap.size := fun g hg => by subst hg; exact World.ownsRow.lt R1' g rfl
  have hlt2 : ∀ g, A2 = some ⟨g, 0, none⟩ → w1.heap.size ≤ g := fun g hg => by subst hg; exact (World.ownsRow.lt R2 g rfl).1
  have H1 := Lib.hid hlt1
  have H2 := Lib.hid hlt2
  have le1 := own_le R3
  have le2 := own_le R2
  unfold maxLen at le1 le2
  have hc1 : n ≤ c1 ∧ c1 ≤ 9223372036854775807 := by omega
  have hc2 : n ≤ c2 ∧ c2 ≤ 9223372036854775807 := by omega
  obtain ⟨hc1a, hc1b⟩ := hc1
  obtain ⟨hc2a, hc2b⟩ := hc2
  have R3' : IRow w2 (w.heap.size + 2) A1 n c1 (part L (.int .i64 (-1)) 0) := by
    rw [part_zero, hll]; exact R3
  clear hlt1 hlt2 le1 le2 hb2 B0 B1 L1 R1' R3 m0 m1 m2 m3 m4 m5 m6 m7 m8 m9 m10 v0 v1 v2 hbg hmt
  go_wp2_with fail
  go_loopw [18] (fun vi wr => ∃ k : Nat, k ≤ n ∧ vi = .int .i64 k ∧ Below w.heap.size w wr ∧ BRow wr w1.heap.size A2 n c2 (ms.map .bool) ∧ IRow wr (w.heap.size + 2) A1 n c1 (part L (.int .i64 (-1)) k)) (fun i _ => n - (intOf i).toNat)
  case atStart => exact ⟨0, by omega, rfl, L2, R2, R3'⟩
  case round =>
    clear L2 R2 R3'
    obtain ⟨k, hk, rfl, hbr, hrb, hri⟩ := hrel
    by_cases hlt : k < n
    · obtain ⟨g, hl, rfl, hg1, hg2, hcell, hfz, hset⟩ := own_at hri hlt
      obtain ⟨g2, hlb, rfl, hgb1, hgb2, hcb, _, _⟩ := own_at hrb hlt
      obtain ⟨ad, z, hlz, rfl, _, hzz, hcz⟩ := Mem.Ints.at_ (hz.below hbr) hlt
      have hmk : k < ms.length := by omega
      have hcb' : wr.cell? ⟨g2, k, none⟩ = some (.bool ms[k]) := by rw [hcb]; simp
      have hLk : L[k]'(by omega) = .int .i64 (stepZ ms[k] z round) := by
        have := HL.out
        subst this
        simp [stepL, hzz]
      have hne : g2 ≠ g := by have q1 := H1.out g rfl; have q2 := H2.out g2 rfl; omega
      have hset' : Hid (∀ y, y = stepZ ms[k] z round → IRow (wr.setCell ⟨g, k, none⟩ (.int .i64 y)) (w.heap.size + 2) (some ⟨g, 0, none⟩) n c1 (part L (.int .i64 (-1)) (k + 1))) := by
        intro y hy
        have q := hset (.int .i64 y)
        rw [hy, ← hLk, part_set L _ k (by omega)] at q
        rw [hy, ← hLk]; exact q
      have hkeep : Hid (stepZ ms[k] z round = -1 → IRow wr (w.heap.size + 2) (some ⟨g, 0, none⟩) n c1 (part L (.int .i64 (-1)) (k + 1))) := by
        intro e
        rw [e] at hLk
        rw [part_keep L _ k (by omega) hLk]; exact hri
      have hgs : w.heap.size ≤ g := by omega
      clear hcb hset hLk hzz
      generalize ms[k] = m at *
      cases m with
      | false =>
        have hK := Lib.hid (hkeep.out rfl)
        clear hset' hkeep
        go_wp2_with fail
        go_roundw
        case rel => exact ⟨k + 1, by omega, by go_num, hbr, hrb, hK.out⟩
        case measure => simp [intOf]; omega
      | true =>
        by_cases hz1 : z = -1
        · have d1 : (z == -1) = true := by simp [hz1]
          have hS := Lib.hid (hset'.out round (by simp [stepZ, hz1]))
          clear hset' hkeep hz1
          go_wp2_with fail
          go_roundw
          case rel => exact ⟨k + 1, by omega, by go_num, hbr.setCell hgs _, own_far hrb (fun g' hg' => (by simpa using hg' : g2 = g') ▸ hne) _, hS.out⟩
          case measure => simp [intOf]; omega
        · have d1 : (z == -1) = false := by simp [hz1]
          have hS := Lib.hid (hset'.out z (by simp [stepZ, hz1]))
          clear hset' hkeep hz1
          go_wp2_with fail
          go_roundw
          case rel => exact ⟨k + 1, by omega, by go_num, hbr.setCell hgs _, own_far hrb (fun g' hg' => (by simpa using hg' : g2 = g') ▸ hne) _, hS.out⟩
          case measure => simp [intOf]; omega
    · obtain rfl : k = n := by omega
      go_wp2_with fail
      go_ret
      have q := hri
      have e : part L (.int .i64 (-1)) k = L := by have := part_all L (.int .i64 (-1)); rw [hll] at this; exact this
      rw [e] at q
      exact ⟨_, _, rfl, own_low q (by omega), hbr⟩
set_option maxRecDepth 100000 in
set_option maxHeartbeats 4000000 in
theorem hold_c (p : CfgV) (ths : List ThrV) (S : Option Addr) (sc : Nat) (zs : List Int) (round : Int) (w : World) (hp : p.ok w w.heap.size ths) (hn : p.n ≤ 1000000) (h0 : 0 ≤ round) (h1 : round ≤ 4611686018427387904) (hzs : ∀ z ∈ zs, -1 ≤ z ∧ z ≤ round)
    (hz : Mem.Ints w w.heap.size .i64 S p.n zs) :
    Calls Try.prog 37 #[.agg p.arr, .slice S p.n sc, .int .i64 round] w (NewB p.n ((holdL ths zs round).map .bool) w) := by
  have hlen := hp.len
  have hsl := hp.sl
  have hzl := hz.len
  have Hzs := Lib.hid hzs
  clear hp hzs
  obtain ⟨k0, k1, k2, a0, a1, a2, A, n, c, per, ret, age, dead⟩ := p
  unfold CfgV.arr
  dsimp only at hn hlen hsl hz hzl ⊢
  obtain ⟨L, hL⟩ : ∃ L, L = (holdL ths zs round).map Value.bool := ⟨_, rfl⟩
  have hll : L.length = n := by rw [hL]; simp [holdL, hlen, hzl]
  rw [← hL]
  have HL := Lib.hid hL
  clear hL
  obtain ⟨wm, hmk, hO, hbm, hwm⟩ := make_of elt rfl n hn (by decide) (w.alloc (.cells #[.int .i64 k0, .int .i64 k1, .int .i64 k2, .int .i64 a0, .int .i64 a1, .int .i64 a2, .slice A n c, .int .i64 per, .int .i64 ret, .int .i64 age, .int .i64 dead] 47))
  rw [World.size_alloc] at hmk hO hbm hwm
  have L1 : Below w.heap.size w wm := ((Below.refl _ _).alloc (Nat.le_refl _) _).trans (hbm.mono (by omega))
  have B0 : Mem.Blk wm w.heap.size 47 #[.int .i64 k0, .int .i64 k1, .int .i64 k2, .int .i64 a0, .int .i64 a1, .int .i64 a2, .slice A n c, .int .i64 per, .int .i64 ret, .int .i64 age, .int .i64 dead] := Mem.Blk.new.below hbm (by omega)
  have hO2 : BRow wm w.heap.size (some ⟨w.heap.size + 1, 0, none⟩) n n (part L (.bool false) 0) := by
    rw [part_zero, hll]
    exact own_low hO (by omega)
  have m6 : wm.cell? ⟨w.heap.size, 6, none⟩ = some (.slice A n c) := B0.cell 6
  have zO : w.heap.size + 2 ≤ wm.heap.size := by omega
  clear hbm hO B0
  go_enter Try.func37, Try.ntmps37
  go_wp2_with fail
  go_loopw [17] (fun vi wr => ∃ k : Nat, k ≤ n ∧ vi = .int .i64 k ∧ Below w.heap.size w wr ∧ w.heap.size + 2 ≤ wr.heap.size ∧ BRow wr w.heap.size (some ⟨w.heap.size + 1, 0, none⟩) n n (part L (.bool false) k)) (fun i _ => n - (intOf i).toNat)
  case atStart => exact ⟨0, by omega, rfl, L1, zO, hO2⟩
  case round =>
    clear L1 hO2 hmk m6 zO
    obtain ⟨k, hk, rfl, hbr, hzz, hrow⟩ := hrel
    by_cases hlt : k < n
    · obtain ⟨g0, hl0, hg0, _, hg2, hcell, hfzw, _⟩ := own_at hrow hlt
      obtain rfl : w.heap.size + 1 = g0 := by simpa using hg0
      clear hg0
      obtain ⟨ad, hlk, rfl, _, hbk, hat⟩ := ThrV.at_ (hsl.below hbr) hlt
      obtain ⟨ad2, z, hlz, rfl, hb2, hze, hcz⟩ := Mem.Ints.at_ (hz.below hbr) hlt
      obtain ⟨hz0, hz1⟩ := Hzs.out z (by rw [← hze]; exact List.getElem_mem hlz)
      have hLk : L[k]'(by omega) = .bool (holdZ ths[k] z round) := by
        have := HL.out
        subst this
        simp [holdL, hze]
      obtain ⟨t, ht⟩ : ∃ t, t = ths[k] := ⟨_, rfl⟩
      rw [← ht] at hat hLk
      have hset' : Hid (∀ b, b = holdZ t z round → ∀ wx : World, BRow wx w.heap.size (some ⟨w.heap.size + 1, 0, none⟩) n n (part L (.bool false) k) → wx.frozen? ⟨w.heap.size + 1, k, none⟩ = false ∧ (∃ v0, wx.cell? ⟨w.heap.size + 1, k, none⟩ = some v0) ∧ BRow (wx.setCell ⟨w.heap.size + 1, k, none⟩ (.bool b)) w.heap.size (some ⟨w.heap.size + 1, 0, none⟩) n n (part L (.bool false) (k + 1))) := by
        intro b hb wx hx
        obtain ⟨g, _, hgg, _, _, hc2, hfz2, hset2⟩ := own_at hx hlt
        obtain rfl : w.heap.size + 1 = g := by simpa using hgg
        refine ⟨hfz2, ⟨_, hc2⟩, ?_⟩
        have q := hset2 (.bool b)
        rw [hb, ← hLk, part_set L _ k (by omega)] at q
        rw [hb, ← hLk]
        exact q
      clear ht hLk hze
      obtain ⟨sig, pct, amt, soft, grace⟩ := t
      obtain ⟨c0, c1, c2, c3, c4⟩ := hat
      dsimp only at c0 c1 c2 c3 c4
      have hor : z = -1 ∨ z ≠ -1 ∧ (soft = false ∨ soft = true ∧ (grace ≤ round - z ∨ round - z < grace)) := by
        cases soft <;> simp <;> omega
      rcases hor with hq | ⟨hq, rfl | ⟨rfl, hq2⟩⟩
      · have d1 : (z != -1) = false := by simp [hq]
        have Hq := Lib.hid hq
        clear hq
        go_wp2_with fail
        clear c0 c1 c2 c3 c4
        obtain ⟨X, hX⟩ : ∃ X, X = World.drew (wr.alloc (.cells #[.int .i64 sig, .int .i64 pct, .int .i64 amt, .bool soft, .int .i64 grace] 67)) := ⟨_, rfl⟩
        have LX : Below w.heap.size w X := by rw [hX]; exact (hbr.alloc hbr.size _).drew
        have zX : X.heap.size = wr.heap.size + 1 := by rw [hX]; simp
        have RX : BRow X w.heap.size (some ⟨w.heap.size + 1, 0, none⟩) n n (part L (.bool false) k) := by rw [hX]; exact World.ownsRow.drew (World.ownsRow.alloc hrow _)
        have SX : (fun w' => w'.cell? (ad2.add k) = some (.int .i64 z) ∧ w'.cell? ⟨wr.heap.size, 3, none⟩ = some (.bool soft) ∧ w'.cell? ⟨wr.heap.size, 4, none⟩ = some (.int .i64 grace)) X := by
          rw [hX]
          have T0 : Mem.Blk (wr.alloc (.cells #[.int .i64 sig, .int .i64 pct, .int .i64 amt, .bool soft, .int .i64 grace] 67)) wr.heap.size 67 #[.int .i64 sig, .int .i64 pct, .int .i64 amt, .bool soft, .int .i64 grace] := Mem.Blk.new
          exact ⟨Mem.keep_drew (Mem.keep_alloc hcz), T0.cell 3, T0.cell 4⟩
        refine Reg.start (S := (fun w' => w'.cell? (ad2.add k) = some (.int .i64 z) ∧ w'.cell? ⟨wr.heap.size, 3, none⟩ = some (.bool soft) ∧ w'.cell? ⟨wr.heap.size, 4, none⟩ = some (.int .i64 grace))) (by kernel_rfl) ?_
        rw [← hX]
        clear hX hrow hcell hfzw
        refine Reg.takes (n := 1) (by kernel_rfl) (fun _ _ d _ _ h => by cases d <;> exact h) SX [0, 1, 2, 3, 4, 5, 6, 7, 8, 9, 10, 11, 12, 13, 14, 15, 16, 17, 18, 19, 20, 21, 22, 23] _ _ (by kernel_rfl) ?_
        iterate 24 (refine Reg.det_step rfl (fun K' hK' => ?_); go_simp; (first | (refine hK' _ ?_; clear hK' K') | (apply Exists.intro; refine ⟨fun wx hwx => ?_, hK' _ ?_⟩; (first | rfl | (have fa := hwx; intro fb fc; go_simp; first | done | rfl)); clear hK' K')))
        refine Reg.det_nil ?_
        obtain ⟨hfz, ⟨v0, hv0⟩, hset⟩ := hset'.out false (by simp [holdZ, Hq.out]) X RX
        have HS := Lib.hid hset
        clear hset
        refine Reg.one (i := 24) (n := 0) (by kernel_rfl) ?_
        refine Reg.skip rfl rfl (w' := X.setCell ⟨w.heap.size + 1, k, none⟩ (.bool false)) (by go_simp) ⟨Mem.keep_set (by simp [Mem.add_block]; omega) SX.1, Mem.keep_set (by simp; omega) SX.2.1, Mem.keep_set (by simp; omega) SX.2.2⟩ ?_
        refine wpAnyH_done (by kernel_rfl) ?_ _
        go_wp2_with fail
        go_roundw
        case rel => exact ⟨k + 1, by omega, by go_num, LX.setCell (by simp) _, by simp <;> omega, HS.out⟩
        case measure => simp [intOf]; omega
      · have d1 : (z != -1) = true := by simp [hq]
        have Hq := Lib.hid hq
        clear hq
        go_wp2_with fail
        clear c0 c1 c2 c3 c4
        obtain ⟨X, hX⟩ : ∃ X, X = World.drew (wr.alloc (.cells #[.int .i64 sig, .int .i64 pct, .int .i64 amt, .bool false, .int .i64 grace] 67)) := ⟨_, rfl⟩
        have LX : Below w.heap.size w X := by rw [hX]; exact (hbr.alloc hbr.size _).drew
        have zX : X.heap.size = wr.heap.size + 1 := by rw [hX]; simp
        have RX : BRow X w.heap.size (some ⟨w.heap.size + 1, 0, none⟩) n n (part L (.bool false) k) := by rw [hX]; exact World.ownsRow.drew (World.ownsRow.alloc hrow _)
        have SX : (fun w' => w'.cell? (ad2.add k) = some (.int .i64 z) ∧ w'.cell? ⟨wr.heap.size, 3, none⟩ = some (.bool false) ∧ w'.cell? ⟨wr.heap.size, 4, none⟩ = some (.int .i64 grace)) X := by
          rw [hX]
          have T0 : Mem.Blk (wr.alloc (.cells #[.int .i64 sig, .int .i64 pct, .int .i64 amt, .bool false, .int .i64 grace] 67)) wr.heap.size 67 #[.int .i64 sig, .int .i64 pct, .int .i64 amt, .bool false, .int .i64 grace] := Mem.Blk.new
          exact ⟨Mem.keep_drew (Mem.keep_alloc hcz), T0.cell 3, T0.cell 4⟩
        refine Reg.start (S := (fun w' => w'.cell? (ad2.add k) = some (.int .i64 z) ∧ w'.cell? ⟨wr.heap.size, 3, none⟩ = some (.bool false) ∧ w'.cell? ⟨wr.heap.size, 4, none⟩ = some (.int .i64 grace))) (by kernel_rfl) ?_
        rw [← hX]
        clear hX hrow hcell hfzw
        refine Reg.takes (n := 1) (by kernel_rfl) (fun _ _ d _ _ h => by cases d <;> exact h) SX [0, 1, 2, 3, 4, 5, 6, 7, 8, 9, 10, 11, 12, 13, 14, 15, 16, 17, 18, 19, 20, 21, 22, 23] _ _ (by kernel_rfl) ?_
        iterate 24 (refine Reg.det_step rfl (fun K' hK' => ?_); go_simp; (first | (refine hK' _ ?_; clear hK' K') | (apply Exists.intro; refine ⟨fun wx hwx => ?_, hK' _ ?_⟩; (first | rfl | (have fa := hwx; intro fb fc; go_simp; first | done | rfl)); clear hK' K')))
        refine Reg.det_nil ?_
        obtain ⟨hfz, ⟨v0, hv0⟩, hset⟩ := hset'.out true (by have := Hq.out; simp [holdZ, this]) X RX
        have HS := Lib.hid hset
        clear hset
        refine Reg.one (i := 24) (n := 0) (by kernel_rfl) ?_
        refine Reg.skip rfl rfl (w' := X.setCell ⟨w.heap.size + 1, k, none⟩ (.bool true)) (by go_simp) ⟨Mem.keep_set (by simp [Mem.add_block]; omega) SX.1, Mem.keep_set (by simp; omega) SX.2.1, Mem.keep_set (by simp; omega) SX.2.2⟩ ?_
        refine wpAnyH_done (by kernel_rfl) ?_ _
        go_wp2_with fail
        go_roundw
        case rel => exact ⟨k + 1, by omega, by go_num, LX.setCell (by simp) _, by simp <;> omega, HS.out⟩
        case measure => simp [intOf]; omega
      · rcases hq2 with hq2 | hq2
        · have d1 : (z != -1) = true := by simp [hq]
          have hw : IntKind.i64.wrap (round - z) = round - z := by unfold IntKind.wrap; simp [IntKind.bits, IntKind.signed]; omega
          have d2 : decide (grace ≤ round - z) = true := by simp; omega
          have Hq := Lib.hid hq
          have Hq2 := Lib.hid hq2
          clear hq hq2
          go_wp2_with fail
          clear c0 c1 c2 c3 c4
          obtain ⟨X, hX⟩ : ∃ X, X = World.drew (wr.alloc (.cells #[.int .i64 sig, .int .i64 pct, .int .i64 amt, .bool true, .int .i64 grace] 67)) := ⟨_, rfl⟩
          have LX : Below w.heap.size w X := by rw [hX]; exact (hbr.alloc hbr.size _).drew
          have zX : X.heap.size = wr.heap.size + 1 := by rw [hX]; simp
          have RX : BRow X w.heap.size (some ⟨w.heap.size + 1, 0, none⟩) n n (part L (.bool false) k) := by rw [hX]; exact World.ownsRow.drew (World.ownsRow.alloc hrow _)
          have SX : (fun w' => w'.cell? (ad2.add k) = some (.int .i64 z) ∧ w'.cell? ⟨wr.heap.size, 3, none⟩ = some (.bool true) ∧ w'.cell? ⟨wr.heap.size, 4, none⟩ = some (.int .i64 grace)) X := by
            rw [hX]
            have T0 : Mem.Blk (wr.alloc (.cells #[.int .i64 sig, .int .i64 pct, .int .i64 amt, .bool true, .int .i64 grace] 67)) wr.heap.size 67 #[.int .i64 sig, .int .i64 pct, .int .i64 amt, .bool true, .int .i64 grace] := Mem.Blk.new
            exact ⟨Mem.keep_drew (Mem.keep_alloc hcz), T0.cell 3, T0.cell 4⟩
          refine Reg.start (S := (fun w' => w'.cell? (ad2.add k) = some (.int .i64 z) ∧ w'.cell? ⟨wr.heap.size, 3, none⟩ = some (.bool true) ∧ w'.cell? ⟨wr.heap.size, 4, none⟩ = some (.int .i64 grace))) (by kernel_rfl) ?_
          rw [← hX]
          clear hX hrow hcell hfzw
          refine Reg.takes (n := 1) (by kernel_rfl) (fun _ _ d _ _ h => by cases d <;> exact h) SX [0, 1, 2, 3, 4, 5, 6, 7, 8, 9, 10, 11, 12, 13, 14, 15, 16, 17, 18, 19, 20, 21, 22, 23] _ _ (by kernel_rfl) ?_
          iterate 24 (refine Reg.det_step rfl (fun K' hK' => ?_); go_simp; (first | (refine hK' _ ?_; clear hK' K') | (apply Exists.intro; refine ⟨fun wx hwx => ?_, hK' _ ?_⟩; (first | rfl | (have fa := hwx; intro fb fc; go_simp; first | done | rfl)); clear hK' K')))
          refine Reg.det_nil ?_
          obtain ⟨hfz, ⟨v0, hv0⟩, hset⟩ := hset'.out true (by have q1 := Hq.out; have q2 := Hq2.out; simp [holdZ, q1]; omega) X RX
          have HS := Lib.hid hset
          clear hset
          refine Reg.one (i := 24) (n := 0) (by kernel_rfl) ?_
          refine Reg.skip rfl rfl (w' := X.setCell ⟨w.heap.size + 1, k, none⟩ (.bool true)) (by go_simp) ⟨Mem.keep_set (by simp [Mem.add_block]; omega) SX.1, Mem.keep_set (by simp; omega) SX.2.1, Mem.keep_set (by simp; omega) SX.2.2⟩ ?_
          refine wpAnyH_done (by kernel_rfl) ?_ _
          go_wp2_with fail
          go_roundw
          case rel => exact ⟨k + 1, by omega, by go_num, LX.setCell (by simp) _, by simp <;> omega, HS.out⟩
          case measure => simp [intOf]; omega
        · have d1 : (z != -1) = true := by simp [hq]
          have hw : IntKind.i64.wrap (round - z) = round - z := by unfold IntKind.wrap; simp [IntKind.bits, IntKind.signed]; omega
          have d2 : decide (grace ≤ round - z) = false := by simp; omega
          have Hq := Lib.hid hq
          have Hq2 := Lib.hid hq2
          clear hq hq2
          go_wp2_with fail
          clear c0 c1 c2 c3 c4
          obtain ⟨X, hX⟩ : ∃ X, X = World.drew (wr.alloc (.cells #[.int .i64 sig, .int .i64 pct, .int .i64 amt, .bool true, .int .i64 grace] 67)) := ⟨_, rfl⟩
          have LX : Below w.heap.size w X := by rw [hX]; exact (hbr.alloc hbr.size _).drew
          have zX : X.heap.size = wr.heap.size + 1 := by rw [hX]; simp
          have RX : BRow X w.heap.size (some ⟨w.heap.size + 1, 0, none⟩) n n (part L (.bool false) k) := by rw [hX]; exact World.ownsRow.drew (World.ownsRow.alloc hrow _)
          have SX : (fun w' => w'.cell? (ad2.add k) = some (.int .i64 z) ∧ w'.cell? ⟨wr.heap.size, 3, none⟩ = some (.bool true) ∧ w'.cell? ⟨wr.heap.size, 4, none⟩ = some (.int .i64 grace)) X := by
            rw [hX]
            have T0 : Mem.Blk (wr.alloc (.cells #[.int .i64 sig, .int .i64 pct, .int .i64 amt, .bool true, .int .i64 grace] 67)) wr.heap.size 67 #[.int .i64 sig, .int .i64 pct, .int .i64 amt, .bool true, .int .i64 grace] := Mem.Blk.new
            exact ⟨Mem.keep_drew (Mem.keep_alloc hcz), T0.cell 3, T0.cell 4⟩
          refine Reg.start (S := (fun w' => w'.cell? (ad2.add k) = some (.int .i64 z) ∧ w'.cell? ⟨wr.heap.size, 3, none⟩ = some (.bool true) ∧ w'.cell? ⟨wr.heap.size, 4, none⟩ = some (.int .i64 grace))) (by kernel_rfl) ?_
          rw [← hX]
          clear hX hrow hcell hfzw
          refine Reg.takes (n := 1) (by kernel_rfl) (fun _ _ d _ _ h => by cases d <;> exact h) SX [0, 1, 2, 3, 4, 5, 6, 7, 8, 9, 10, 11, 12, 13, 14, 15, 16, 17, 18, 19, 20, 21, 22, 23] _ _ (by kernel_rfl) ?_
          iterate 24 (refine Reg.det_step rfl (fun K' hK' => ?_); go_simp; (first | (refine hK' _ ?_; clear hK' K') | (apply Exists.intro; refine ⟨fun wx hwx => ?_, hK' _ ?_⟩; (first | rfl | (have fa := hwx; intro fb fc; go_simp; first | done | rfl)); clear hK' K')))
          refine Reg.det_nil ?_
          obtain ⟨hfz, ⟨v0, hv0⟩, hset⟩ := hset'.out false (by have q1 := Hq.out; have q2 := Hq2.out; simp [holdZ, q1]; omega) X RX
          have HS := Lib.hid hset
          clear hset
          refine Reg.one (i := 24) (n := 0) (by kernel_rfl) ?_
          refine Reg.skip rfl rfl (w' := X.setCell ⟨w.heap.size + 1, k, none⟩ (.bool false)) (by go_simp) ⟨Mem.keep_set (by simp [Mem.add_block]; omega) SX.1, Mem.keep_set (by simp; omega) SX.2.1, Mem.keep_set (by simp; omega) SX.2.2⟩ ?_
          refine wpAnyH_done (by kernel_rfl) ?_ _
          go_wp2_with fail
          go_roundw
          case rel => exact ⟨k + 1, by omega, by go_num, LX.setCell (by simp) _, by simp <;> omega, HS.out⟩
          case measure => simp [intOf]; omega
    · obtain rfl : k = n := by omega
      go_wp2_with fail
      go_ret
      have q := hrow
      have e : part L (.bool false) k = L := by have := part_all L (.bool false); rw [hll] at this; exact this
      rw [e] at q
      exact ⟨_, _, rfl, q, hbr⟩
end Grc
end Go.Proofs.Ytjfbnobijlkicaa
