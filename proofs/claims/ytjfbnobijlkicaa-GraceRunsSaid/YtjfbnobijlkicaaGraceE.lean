/- The walks of layer 18 (grace): signals; edges. -/
import Derived.Test.YtjfbnobijlkicaaGraceS
namespace Go.Proofs.Ytjfbnobijlkicaa
open Go.RowKit
namespace Grc
/-- the greatest edge of a signal's thresholds that are told, from e on -/
def edgeF (cap s : Int) : List ThrV → List Bool → Int → Int
  | t :: ts, b :: bs, e => edgeF cap s ts bs (if b = true ∧ t.sig = s then max e (edgeT t cap) else e)
  | _, _, e => e
/-- the signals that have a threshold that is told -/
def sigF : List ThrV → List Bool → Bool → Bool → Bool → Bool × Bool × Bool
  | t :: ts, b :: bs, x, y, z => sigF ts bs (x || (decide (t.sig = 0) && b)) (y || (decide (t.sig = 1) && b)) (z || (decide (t.sig = 2) && b))
  | _, _, x, y, z => (x, y, z)
theorem edgeF_step {cap s e : Int} {ths : List ThrV} {bs : List Bool} {k : Nat} (h : k < ths.length) (hb : k < bs.length) :
    edgeF cap s (ths.drop k) (bs.drop k) e = edgeF cap s (ths.drop (k + 1)) (bs.drop (k + 1)) (if bs[k] = true ∧ ths[k].sig = s then max e (edgeT ths[k] cap) else e) := by
  rw [List.drop_eq_getElem_cons h, List.drop_eq_getElem_cons hb, edgeF]
theorem sigF_step {x y z : Bool} {ths : List ThrV} {bs : List Bool} {k : Nat} (h : k < ths.length) (hb : k < bs.length) :
    sigF (ths.drop k) (bs.drop k) x y z = sigF (ths.drop (k + 1)) (bs.drop (k + 1)) (x || (decide (ths[k].sig = 0) && bs[k])) (y || (decide (ths[k].sig = 1) && bs[k])) (z || (decide (ths[k].sig = 2) && bs[k])) := by
  rw [List.drop_eq_getElem_cons h, List.drop_eq_getElem_cons hb, sigF]
def SigSaid (F : Bool × Bool × Bool) (W : World) (e : Ending) (w' : World) : Prop := e = .returned (.agg #[.bool F.1, .bool F.2.1, .bool F.2.2]) ∧ Below W.heap.size W w'
set_option maxRecDepth 100000 in
set_option maxHeartbeats 4000000 in
theorem signals_c (p : CfgV) (ths : List ThrV) (S : Option Addr) (sc : Nat) (bs : List Bool) (w : World) (hp : p.ok w w.heap.size ths) (hn : p.n ≤ 1000000) (hr : ∀ t ∈ ths, RightT t)
    (hb : Mem.Sl w w.heap.size 1 S p.n (bs.map Value.bool)) :
    Calls Try.prog 40 #[.agg p.arr, .slice S p.n sc] w (SigSaid (sigF ths bs false false false) w) := by
  have hlen := hp.len
  have hsl := hp.sl
  have hbl : bs.length = p.n := by have := hb.1; simpa using this
  have Hr := Lib.hid hr
  clear hp hr
  obtain ⟨F, hF⟩ : ∃ F, F = sigF ths bs false false false := ⟨_, rfl⟩
  rw [← hF]
  have HF : Hid (sigF (ths.drop 0) (bs.drop 0) false false false = F) := hF.symm
  clear hF
  obtain ⟨k0, k1, k2, a0, a1, a2, A, n, c, per, ret, age, dead⟩ := p
  unfold CfgV.arr
  dsimp only at hn hlen hsl hb hbl ⊢
  go_enter Try.func40, Try.ntmps40
  go_wp2_with fail
  go_loopw [11] (fun vi wr => ∃ (k : Nat) (x y z : Bool), k ≤ n ∧ vi = .int .i64 k ∧ Below w.heap.size w wr ∧ w.heap.size + 3 ≤ wr.heap.size ∧ Mem.Blk wr (w.heap.size + 1) 58 #[.bool false, .bool false, .bool false] ∧ Mem.Blk wr (w.heap.size + 1 + 1) 58 #[.bool x, .bool y, .bool z] ∧ Hid (sigF (ths.drop k) (bs.drop k) x y z = F)) (fun i _ => n - (intOf i).toNat)
  case atStart =>
    refine ⟨0, false, false, false, by omega, rfl, (((Below.refl _ _).alloc (Nat.le_refl _) _).alloc (by simp) _).alloc (by simp <;> omega) _, by simp, ?_, ?_, HF⟩
    · have q := (Mem.Blk.new (w := w.alloc (.cells #[.int .i64 k0, .int .i64 k1, .int .i64 k2, .int .i64 a0, .int .i64 a1, .int .i64 a2, .slice A n c, .int .i64 per, .int .i64 ret, .int .i64 age, .int .i64 dead] 47)) (t := 58) (cs := #[.bool false, .bool false, .bool false])).alloc (o := .cells #[.bool false, .bool false, .bool false] 58)
      rw [World.size_alloc] at q
      exact q
    · have q := Mem.Blk.new (w := (w.alloc (.cells #[.int .i64 k0, .int .i64 k1, .int .i64 k2, .int .i64 a0, .int .i64 a1, .int .i64 a2, .slice A n c, .int .i64 per, .int .i64 ret, .int .i64 age, .int .i64 dead] 47)).alloc (.cells #[.bool false, .bool false, .bool false] 58)) (t := 58) (cs := #[.bool false, .bool false, .bool false])
      rw [World.size_alloc, World.size_alloc] at q
      exact q
  case round =>
    clear HF
    obtain ⟨k, x, y, z, hk, rfl, hbr, hz, B0, B1, HF⟩ := hrel
    by_cases hlt : k < n
    · obtain ⟨ad, hlk, rfl, _, hbk, hat⟩ := ThrV.at_ (hsl.below hbr) hlt
      obtain ⟨ad2, hlb, rfl, hb2, hcb⟩ := bool_at (hb.below hbr) hlt
      have hrt := Hr.out _ (List.getElem_mem hlk)
      have hs0 := hrt.s0
      have hs2 := hrt.s2
      have hF2 := HF.out
      rw [sigF_step hlk hlb] at hF2
      have HF2 := Lib.hid hF2
      clear hF2 HF hrt
      generalize ths[k] = t at *
      generalize bs[k] = b at *
      obtain ⟨sig, pct, amt, soft, grace⟩ := t
      obtain ⟨c0, c1, c2, c3, c4⟩ := hat
      dsimp only at c0 c1 c2 c3 c4 hs0 hs2 HF2
      have hor : sig = 0 ∨ sig = 1 ∨ sig = 2 := by omega
      rcases hor with rfl | rfl | rfl
      · simp only [decide_true, Bool.true_and, decide_false, Bool.false_and, Bool.or_false, show ((0:Int) = 1) = False from by simp, show ((0:Int) = 2) = False from by simp, show ((1:Int) = 0) = False from by simp, show ((1:Int) = 2) = False from by simp, show ((2:Int) = 0) = False from by simp, show ((2:Int) = 1) = False from by simp] at HF2
        go_wp2_with fail
        clear c0 c1 c2 c3 c4
        obtain ⟨X, hX⟩ : ∃ X, X = World.drew (wr.alloc (.cells #[.int .i64 0, .int .i64 pct, .int .i64 amt, .bool soft, .int .i64 grace] 67)) := ⟨_, rfl⟩
        have LX : Below w.heap.size w X := by rw [hX]; exact (hbr.alloc hbr.size _).drew
        have zX : X.heap.size = wr.heap.size + 1 := by rw [hX]; simp
        have X0 : Mem.Blk X (w.heap.size + 1) 58 #[.bool false, .bool false, .bool false] := by rw [hX]; exact B0.alloc.drew
        have X1 : Mem.Blk X (w.heap.size + 1 + 1) 58 #[.bool x, .bool y, .bool z] := by rw [hX]; exact B1.alloc.drew
        have SX : (fun w' => w'.cell? (ad2.add k) = some (.bool b) ∧ w'.cell? ⟨wr.heap.size, 0, none⟩ = some (.int .i64 0)) X := by
          rw [hX]
          have T0 : Mem.Blk (wr.alloc (.cells #[.int .i64 0, .int .i64 pct, .int .i64 amt, .bool soft, .int .i64 grace] 67)) wr.heap.size 67 #[.int .i64 0, .int .i64 pct, .int .i64 amt, .bool soft, .int .i64 grace] := Mem.Blk.new
          exact ⟨Mem.keep_drew (Mem.keep_alloc hcb), T0.cell 0⟩
        have xc : X.cell? ⟨w.heap.size + 1 + 1, 0, none⟩ = some (.bool x) := X1.cell 0
        have xf := X1.frozen
        refine Reg.start (S := (fun w' => w'.cell? (ad2.add k) = some (.bool b) ∧ w'.cell? ⟨wr.heap.size, 0, none⟩ = some (.int .i64 0))) (by kernel_rfl) ?_
        rw [← hX]
        clear hX B0 B1
        refine Reg.takes (n := 9) (by kernel_rfl) (fun _ _ d _ _ h => by cases d <;> exact h) SX [0, 1, 2, 3, 4] _ _ (by kernel_rfl) ?_
        iterate 5 (refine Reg.det_step rfl (fun K' hK' => ?_); go_simp; (first | (refine hK' _ ?_; clear hK' K') | (apply Exists.intro; refine ⟨fun wx hwx => ?_, hK' _ ?_⟩; (first | rfl | (have fa := hwx; intro fb; go_simp; first | done | rfl)); clear hK' K')))
        refine Reg.det_nil ?_
        refine Reg.one (i := 5) (n := 8) (by kernel_rfl) ?_
        refine Reg.val rfl rfl (v := .bool x) (w' := X) (by go_simp) SX ?_
        cases x with
        | true =>
          refine Reg.takes (n := 1) (by kernel_rfl) (fun _ _ d _ _ h => by cases d <;> exact h) SX [6, 7, 8, 9, 10, 11, 12] _ _ (by kernel_rfl) ?_
          iterate 7 (refine Reg.det_step rfl (fun K' hK' => ?_); go_simp; (first | (refine hK' _ ?_; clear hK' K') | (apply Exists.intro; refine ⟨fun wx hwx => ?_, hK' _ ?_⟩; (first | rfl | (have fa := hwx; intro fb; go_simp; first | done | rfl)); clear hK' K')))
          refine Reg.det_nil ?_
          refine Reg.one (i := 13) (n := 0) (by kernel_rfl) ?_
          refine Reg.skip rfl rfl (w' := X.setCell ⟨w.heap.size + 1 + 1, 0, none⟩ (.bool true)) (by go_simp) ⟨Mem.keep_set (by simp [Mem.add_block]; omega) SX.1, Mem.keep_set (by simp; omega) SX.2⟩ ?_
          refine wpAnyH_done (by kernel_rfl) ?_ _
          go_wp2_with fail
          go_roundw
          case rel =>
            refine ⟨k + 1, true, y, z, by omega, by go_num, LX.setCell (by simp <;> omega) _, by simp <;> omega, X0.far (by simp), ?_, ?_⟩
            · have q := X1.set_ 0 (.bool true)
              simpa using q
            · simpa using HF2
          case measure => simp [intOf]; omega
        | false =>
          refine Reg.takes (n := 1) (by kernel_rfl) (fun _ _ d _ _ h => by cases d <;> exact h) SX [6, 7, 8, 9, 10, 11, 12] _ _ (by kernel_rfl) ?_
          iterate 7 (refine Reg.det_step rfl (fun K' hK' => ?_); go_simp; (first | (refine hK' _ ?_; clear hK' K') | (apply Exists.intro; refine ⟨fun wx hwx => ?_, hK' _ ?_⟩; (first | rfl | (have fa := hwx; intro fb; go_simp; first | done | rfl)); clear hK' K')))
          refine Reg.det_nil ?_
          refine Reg.one (i := 13) (n := 0) (by kernel_rfl) ?_
          refine Reg.skip rfl rfl (w' := X.setCell ⟨w.heap.size + 1 + 1, 0, none⟩ (.bool b)) (by go_simp) ⟨Mem.keep_set (by simp [Mem.add_block]; omega) SX.1, Mem.keep_set (by simp; omega) SX.2⟩ ?_
          refine wpAnyH_done (by kernel_rfl) ?_ _
          go_wp2_with fail
          go_roundw
          case rel =>
            refine ⟨k + 1, b, y, z, by omega, by go_num, LX.setCell (by simp <;> omega) _, by simp <;> omega, X0.far (by simp), ?_, ?_⟩
            · have q := X1.set_ 0 (.bool b)
              simpa using q
            · simpa using HF2
          case measure => simp [intOf]; omega
      · simp only [decide_true, Bool.true_and, decide_false, Bool.false_and, Bool.or_false, show ((0:Int) = 1) = False from by simp, show ((0:Int) = 2) = False from by simp, show ((1:Int) = 0) = False from by simp, show ((1:Int) = 2) = False from by simp, show ((2:Int) = 0) = False from by simp, show ((2:Int) = 1) = False from by simp] at HF2
        go_wp2_with fail
        clear c0 c1 c2 c3 c4
        obtain ⟨X, hX⟩ : ∃ X, X = World.drew (wr.alloc (.cells #[.int .i64 1, .int .i64 pct, .int .i64 amt, .bool soft, .int .i64 grace] 67)) := ⟨_, rfl⟩
        have LX : Below w.heap.size w X := by rw [hX]; exact (hbr.alloc hbr.size _).drew
        have zX : X.heap.size = wr.heap.size + 1 := by rw [hX]; simp
        have X0 : Mem.Blk X (w.heap.size + 1) 58 #[.bool false, .bool false, .bool false] := by rw [hX]; exact B0.alloc.drew
        have X1 : Mem.Blk X (w.heap.size + 1 + 1) 58 #[.bool x, .bool y, .bool z] := by rw [hX]; exact B1.alloc.drew
        have SX : (fun w' => w'.cell? (ad2.add k) = some (.bool b) ∧ w'.cell? ⟨wr.heap.size, 0, none⟩ = some (.int .i64 1)) X := by
          rw [hX]
          have T0 : Mem.Blk (wr.alloc (.cells #[.int .i64 1, .int .i64 pct, .int .i64 amt, .bool soft, .int .i64 grace] 67)) wr.heap.size 67 #[.int .i64 1, .int .i64 pct, .int .i64 amt, .bool soft, .int .i64 grace] := Mem.Blk.new
          exact ⟨Mem.keep_drew (Mem.keep_alloc hcb), T0.cell 0⟩
        have xc : X.cell? ⟨w.heap.size + 1 + 1, 1, none⟩ = some (.bool y) := X1.cell 1
        have xf := X1.frozen
        refine Reg.start (S := (fun w' => w'.cell? (ad2.add k) = some (.bool b) ∧ w'.cell? ⟨wr.heap.size, 0, none⟩ = some (.int .i64 1))) (by kernel_rfl) ?_
        rw [← hX]
        clear hX B0 B1
        refine Reg.takes (n := 9) (by kernel_rfl) (fun _ _ d _ _ h => by cases d <;> exact h) SX [0, 1, 2, 3, 4] _ _ (by kernel_rfl) ?_
        iterate 5 (refine Reg.det_step rfl (fun K' hK' => ?_); go_simp; (first | (refine hK' _ ?_; clear hK' K') | (apply Exists.intro; refine ⟨fun wx hwx => ?_, hK' _ ?_⟩; (first | rfl | (have fa := hwx; intro fb; go_simp; first | done | rfl)); clear hK' K')))
        refine Reg.det_nil ?_
        refine Reg.one (i := 5) (n := 8) (by kernel_rfl) ?_
        refine Reg.val rfl rfl (v := .bool y) (w' := X) (by go_simp) SX ?_
        cases y with
        | true =>
          refine Reg.takes (n := 1) (by kernel_rfl) (fun _ _ d _ _ h => by cases d <;> exact h) SX [6, 7, 8, 9, 10, 11, 12] _ _ (by kernel_rfl) ?_
          iterate 7 (refine Reg.det_step rfl (fun K' hK' => ?_); go_simp; (first | (refine hK' _ ?_; clear hK' K') | (apply Exists.intro; refine ⟨fun wx hwx => ?_, hK' _ ?_⟩; (first | rfl | (have fa := hwx; intro fb; go_simp; first | done | rfl)); clear hK' K')))
          refine Reg.det_nil ?_
          refine Reg.one (i := 13) (n := 0) (by kernel_rfl) ?_
          refine Reg.skip rfl rfl (w' := X.setCell ⟨w.heap.size + 1 + 1, 1, none⟩ (.bool true)) (by go_simp) ⟨Mem.keep_set (by simp [Mem.add_block]; omega) SX.1, Mem.keep_set (by simp; omega) SX.2⟩ ?_
          refine wpAnyH_done (by kernel_rfl) ?_ _
          go_wp2_with fail
          go_roundw
          case rel =>
            refine ⟨k + 1, x, true, z, by omega, by go_num, LX.setCell (by simp <;> omega) _, by simp <;> omega, X0.far (by simp), ?_, ?_⟩
            · have q := X1.set_ 1 (.bool true)
              simpa using q
            · simpa using HF2
          case measure => simp [intOf]; omega
        | false =>
          refine Reg.takes (n := 1) (by kernel_rfl) (fun _ _ d _ _ h => by cases d <;> exact h) SX [6, 7, 8, 9, 10, 11, 12] _ _ (by kernel_rfl) ?_
          iterate 7 (refine Reg.det_step rfl (fun K' hK' => ?_); go_simp; (first | (refine hK' _ ?_; clear hK' K') | (apply Exists.intro; refine ⟨fun wx hwx => ?_, hK' _ ?_⟩; (first | rfl | (have fa := hwx; intro fb; go_simp; first | done | rfl)); clear hK' K')))
          refine Reg.det_nil ?_
          refine Reg.one (i := 13) (n := 0) (by kernel_rfl) ?_
          refine Reg.skip rfl rfl (w' := X.setCell ⟨w.heap.size + 1 + 1, 1, none⟩ (.bool b)) (by go_simp) ⟨Mem.keep_set (by simp [Mem.add_block]; omega) SX.1, Mem.keep_set (by simp; omega) SX.2⟩ ?_
          refine wpAnyH_done (by kernel_rfl) ?_ _
          go_wp2_with fail
          go_roundw
          case rel =>
            refine ⟨k + 1, x, b, z, by omega, by go_num, LX.setCell (by simp <;> omega) _, by simp <;> omega, X0.far (by simp), ?_, ?_⟩
            · have q := X1.set_ 1 (.bool b)
              simpa using q
            · simpa using HF2
          case measure => simp [intOf]; omega
      · simp only [decide_true, Bool.true_and, decide_false, Bool.false_and, Bool.or_false, show ((0:Int) = 1) = False from by simp, show ((0:Int) = 2) = False from by simp, show ((1:Int) = 0) = False from by simp, show ((1:Int) = 2) = False from by simp, show ((2:Int) = 0) = False from by simp, show ((2:Int) = 1) = False from by simp] at HF2
        go_wp2_with fail
        clear c0 c1 c2 c3 c4
        obtain ⟨X, hX⟩ : ∃ X, X = World.drew (wr.alloc (.cells #[.int .i64 2, .int .i64 pct, .int .i64 amt, .bool soft, .int .i64 grace] 67)) := ⟨_, rfl⟩
        have LX : Below w.heap.size w X := by rw [hX]; exact (hbr.alloc hbr.size _).drew
        have zX : X.heap.size = wr.heap.size + 1 := by rw [hX]; simp
        have X0 : Mem.Blk X (w.heap.size + 1) 58 #[.bool false, .bool false, .bool false] := by rw [hX]; exact B0.alloc.drew
        have X1 : Mem.Blk X (w.heap.size + 1 + 1) 58 #[.bool x, .bool y, .bool z] := by rw [hX]; exact B1.alloc.drew
        have SX : (fun w' => w'.cell? (ad2.add k) = some (.bool b) ∧ w'.cell? ⟨wr.heap.size, 0, none⟩ = some (.int .i64 2)) X := by
          rw [hX]
          have T0 : Mem.Blk (wr.alloc (.cells #[.int .i64 2, .int .i64 pct, .int .i64 amt, .bool soft, .int .i64 grace] 67)) wr.heap.size 67 #[.int .i64 2, .int .i64 pct, .int .i64 amt, .bool soft, .int .i64 grace] := Mem.Blk.new
          exact ⟨Mem.keep_drew (Mem.keep_alloc hcb), T0.cell 0⟩
        have xc : X.cell? ⟨w.heap.size + 1 + 1, 2, none⟩ = some (.bool z) := X1.cell 2
        have xf := X1.frozen
        refine Reg.start (S := (fun w' => w'.cell? (ad2.add k) = some (.bool b) ∧ w'.cell? ⟨wr.heap.size, 0, none⟩ = some (.int .i64 2))) (by kernel_rfl) ?_
        rw [← hX]
        clear hX B0 B1
        refine Reg.takes (n := 9) (by kernel_rfl) (fun _ _ d _ _ h => by cases d <;> exact h) SX [0, 1, 2, 3, 4] _ _ (by kernel_rfl) ?_
        iterate 5 (refine Reg.det_step rfl (fun K' hK' => ?_); go_simp; (first | (refine hK' _ ?_; clear hK' K') | (apply Exists.intro; refine ⟨fun wx hwx => ?_, hK' _ ?_⟩; (first | rfl | (have fa := hwx; intro fb; go_simp; first | done | rfl)); clear hK' K')))
        refine Reg.det_nil ?_
        refine Reg.one (i := 5) (n := 8) (by kernel_rfl) ?_
        refine Reg.val rfl rfl (v := .bool z) (w' := X) (by go_simp) SX ?_
        cases z with
        | true =>
          refine Reg.takes (n := 1) (by kernel_rfl) (fun _ _ d _ _ h => by cases d <;> exact h) SX [6, 7, 8, 9, 10, 11, 12] _ _ (by kernel_rfl) ?_
          iterate 7 (refine Reg.det_step rfl (fun K' hK' => ?_); go_simp; (first | (refine hK' _ ?_; clear hK' K') | (apply Exists.intro; refine ⟨fun wx hwx => ?_, hK' _ ?_⟩; (first | rfl | (have fa := hwx; intro fb; go_simp; first | done | rfl)); clear hK' K')))
          refine Reg.det_nil ?_
          refine Reg.one (i := 13) (n := 0) (by kernel_rfl) ?_
          refine Reg.skip rfl rfl (w' := X.setCell ⟨w.heap.size + 1 + 1, 2, none⟩ (.bool true)) (by go_simp) ⟨Mem.keep_set (by simp [Mem.add_block]; omega) SX.1, Mem.keep_set (by simp; omega) SX.2⟩ ?_
          refine wpAnyH_done (by kernel_rfl) ?_ _
          go_wp2_with fail
          go_roundw
          case rel =>
            refine ⟨k + 1, x, y, true, by omega, by go_num, LX.setCell (by simp <;> omega) _, by simp <;> omega, X0.far (by simp), ?_, ?_⟩
            · have q := X1.set_ 2 (.bool true)
              simpa using q
            · simpa using HF2
          case measure => simp [intOf]; omega
        | false =>
          refine Reg.takes (n := 1) (by kernel_rfl) (fun _ _ d _ _ h => by cases d <;> exact h) SX [6, 7, 8, 9, 10, 11, 12] _ _ (by kernel_rfl) ?_
          iterate 7 (refine Reg.det_step rfl (fun K' hK' => ?_); go_simp; (first | (refine hK' _ ?_; clear hK' K') | (apply Exists.intro; refine ⟨fun wx hwx => ?_, hK' _ ?_⟩; (first | rfl | (have fa := hwx; intro fb; go_simp; first | done | rfl)); clear hK' K')))
          refine Reg.det_nil ?_
          refine Reg.one (i := 13) (n := 0) (by kernel_rfl) ?_
          refine Reg.skip rfl rfl (w' := X.setCell ⟨w.heap.size + 1 + 1, 2, none⟩ (.bool b)) (by go_simp) ⟨Mem.keep_set (by simp [Mem.add_block]; omega) SX.1, Mem.keep_set (by simp; omega) SX.2⟩ ?_
          refine wpAnyH_done (by kernel_rfl) ?_ _
          go_wp2_with fail
          go_roundw
          case rel =>
            refine ⟨k + 1, x, y, b, by omega, by go_num, LX.setCell (by simp <;> omega) _, by simp <;> omega, X0.far (by simp), ?_, ?_⟩
            · have q := X1.set_ 2 (.bool b)
              simpa using q
            · simpa using HF2
          case measure => simp [intOf]; omega
    · obtain rfl : k = n := by omega
      have hF3 : (x, y, z) = F := by
        have q := HF.out
        rw [List.drop_eq_nil_of_le (by omega)] at q
        simpa [sigF] using q
      subst hF3
      have j0 : wr.cell? ⟨w.heap.size + 1, 0, none⟩ = some (.bool false) := B0.cell 0
      have j1 : wr.cell? ⟨w.heap.size + 1, 1, none⟩ = some (.bool false) := B0.cell 1
      have j2 : wr.cell? ⟨w.heap.size + 1, 2, none⟩ = some (.bool false) := B0.cell 2
      have i0 : wr.cell? ⟨w.heap.size + 1 + 1, 0, none⟩ = some (.bool x) := B1.cell 0
      have i1 : wr.cell? ⟨w.heap.size + 1 + 1, 1, none⟩ = some (.bool y) := B1.cell 1
      have i2 : wr.cell? ⟨w.heap.size + 1 + 1, 2, none⟩ = some (.bool z) := B1.cell 2
      have jf := B0.frozen
      go_wp2_with fail
      refine bodyPost_ret (v := .agg #[.bool x, .bool y, .bool z]) (by simp [*, results, Try.results40, go_sem]) rfl ⟨rfl, ((hbr.setCell (by simp) _).setCell (by simp) _).setCell (by simp) _⟩
set_option maxRecDepth 100000 in
set_option maxHeartbeats 4000000 in
theorem edge_c (p : CfgV) (ths : List ThrV) (S : Option Addr) (sc : Nat) (bs : List Bool) (s : Int) (w : World) (hp : p.ok w w.heap.size ths) (hn : p.n ≤ 1000000) (hs : s = 0 ∨ s = 1 ∨ s = 2)
    (hb : Mem.Sl w w.heap.size 1 S p.n (bs.map Value.bool)) :
    Calls Try.prog 42 #[.agg p.arr, .slice S p.n sc, .int .i64 s] w fun e w' => e = .returned (.int .i64 (edgeF (pick3 p.c0 p.c1 p.c2 s) s ths bs 0)) ∧ Below w.heap.size w w' := by
  have hlen := hp.len
  have hsl := hp.sl
  have hbl : bs.length = p.n := by have := hb.1; simpa using this
  have Hok := Lib.hid hp.each
  have hcap : ThrV.I64 (pick3 p.c0 p.c1 p.c2 s) := by
    unfold pick3
    split
    · exact hp.c0
    · split
      · exact hp.c1
      · exact hp.c2
  have Hcap := Lib.hid hcap
  have hcp : Hid (pick3 p.c0 p.c1 p.c2 s = pick3 p.c0 p.c1 p.c2 s) := rfl
  clear hp hcap
  obtain ⟨F, hF⟩ : ∃ F, F = edgeF (pick3 p.c0 p.c1 p.c2 s) s ths bs 0 := ⟨_, rfl⟩
  rw [← hF]
  have HF : Hid (edgeF (pick3 p.c0 p.c1 p.c2 s) s (ths.drop 0) (bs.drop 0) 0 = F) := hF.symm
  clear hF
  obtain ⟨k0, k1, k2, a0, a1, a2, A, n, c, per, ret, age, dead⟩ := p
  unfold CfgV.arr
  dsimp only at hn hlen hsl hb hbl HF Hcap hcp ⊢
  rcases hs with rfl | rfl | rfl
  · have hcp2 : Hid (pick3 k0 k1 k2 0 = k0) := by show _ = _; simp [pick3]
    rw [hcp2.out] at HF Hcap
    go_enter Try.func42, Try.ntmps42
    go_wp2_with fail
    go_loopw [7, 13] (fun ve vi wr => ∃ (k : Nat) (e : Int), k ≤ n ∧ vi = .int .i64 k ∧ ve = .int .i64 e ∧ Below w.heap.size w wr ∧ w.heap.size + 1 ≤ wr.heap.size ∧ Mem.Blk wr w.heap.size 47 #[.int .i64 k0, .int .i64 k1, .int .i64 k2, .int .i64 a0, .int .i64 a1, .int .i64 a2, .slice A n c, .int .i64 per, .int .i64 ret, .int .i64 age, .int .i64 dead] ∧ Hid (edgeF k0 0 (ths.drop k) (bs.drop k) e = F)) (fun _ i _ => n - (intOf i).toNat)
    case atStart => exact ⟨0, 0, by omega, rfl, rfl, (Below.refl _ _).alloc (Nat.le_refl _) _, by simp, Mem.Blk.new, HF⟩
    case round =>
      clear HF
      obtain ⟨k, e, hk, rfl, rfl, hbr, hz, B0, HF⟩ := hrel
      by_cases hlt : k < n
      · have m0 : wr.cell? ⟨w.heap.size, 0, none⟩ = some (.int .i64 k0) := B0.cell 0
        obtain ⟨ad, hlk, hA, _, hbk, hat⟩ := ThrV.at_ (hsl.below hbr) hlt
        obtain ⟨ad2, hlb, rfl, hb2, hcb⟩ := bool_at (hb.below hbr) hlt
        have hcall : Hid (∀ w, Calls Try.prog 61 #[.agg ths[k].arr, .int .i64 k0] w fun e w' => e = .returned (.int .i64 (edgeT ths[k] k0)) ∧ Below w.heap.size w w') := fun w => tedge_c ths[k] k0 w (Hok.out _ (List.getElem_mem hlk)) Hcap.out
        have hF2 := HF.out
        rw [edgeF_step hlk hlb] at hF2
        have HF2 := Lib.hid hF2
        clear hF2 HF
        subst hA
        generalize ths[k] = t at *
        generalize bs[k] = b at *
        generalize edgeT t k0 = E at *
        obtain ⟨sig, pct, amt, soft, grace⟩ := t
        unfold ThrV.arr at hcall
        obtain ⟨c0, c1, c2, c3, c4⟩ := hat
        dsimp only at c0 c1 c2 c3 c4 HF2 hcall
        have hcb2 : World.cell? (wr.alloc (.cells #[.int .i64 sig, .int .i64 pct, .int .i64 amt, .bool soft, .int .i64 grace] 67)) (ad2.add k) = some (.bool b) := Mem.keep_alloc hcb
        have hor : b = false ∨ b = true ∧ (sig ≠ 0 ∨ sig = 0) := by cases b <;> simp <;> omega
        rcases hor with rfl | ⟨rfl, hq | hq⟩
        · go_wp2_with fail
          go_roundw
          case rel => exact ⟨k + 1, e, by omega, by go_num, rfl, hbr.alloc hbr.size _, by simp <;> omega, B0.alloc, by show _ = _; have q := HF2.out; simpa using q⟩
          case measure => simp [intOf]; omega
        · have d1 : (sig == 0) = false := by simp [hq]
          have Hq := Lib.hid hq
          clear hq
          go_wp2_with fail
          go_roundw
          case rel => exact ⟨k + 1, e, by omega, by go_num, rfl, hbr.alloc hbr.size _, by simp <;> omega, B0.alloc, by show _ = _; have q := HF2.out; simpa [Hq.out] using q⟩
          case measure => simp [intOf]; omega
        · subst hq
          go_wp2_with fail
          clear c0 c1 c2 c3 c4
          obtain ⟨X, hX⟩ : ∃ X, X = World.drew (wr.alloc (.cells #[.int .i64 0, .int .i64 pct, .int .i64 amt, .bool soft, .int .i64 grace] 67)) := ⟨_, rfl⟩
          have LX : Below w.heap.size w X := by rw [hX]; exact (hbr.alloc hbr.size _).drew
          have zX : X.heap.size = wr.heap.size + 1 := by rw [hX]; simp
          have BX := B0.alloc (o := .cells #[.int .i64 0, .int .i64 pct, .int .i64 amt, .bool soft, .int .i64 grace] 67) |>.drew
          rw [← hX] at BX
          have SX : (fun w' => ThrV.AtB w' wr.heap.size ⟨0, pct, amt, soft, grace⟩ ∧ w'.cell? ⟨w.heap.size, 0, none⟩ = some (.int .i64 k0)) X := by
            refine ⟨?_, BX.cell 0⟩
            rw [hX]
            exact ThrV.AtB.drew (ThrV.of_blk (t := 67) (p := ⟨0, pct, amt, soft, grace⟩) Mem.Blk.new)
          refine Reg.start (S := (fun w' => ThrV.AtB w' wr.heap.size ⟨0, pct, amt, soft, grace⟩ ∧ w'.cell? ⟨w.heap.size, 0, none⟩ = some (.int .i64 k0))) (by kernel_rfl) ?_
          rw [← hX]
          clear hX
          refine Reg.takes (n := 3) (by kernel_rfl) (fun _ _ d _ _ h => by cases d <;> exact h) SX [0, 1, 2, 3, 4, 5] _ _ (by kernel_rfl) ?_
          iterate 6 (refine Reg.det_step rfl (fun K' hK' => ?_); go_simp; (first | (refine hK' _ ?_; clear hK' K') | (apply Exists.intro; refine ⟨fun wx hwx => ?_, hK' _ ?_⟩; (first | rfl | (have fa := hwx; intro fb; have g0 := ThrV.AtB.c0 fa; have g1 := ThrV.AtB.c1 fa; have g2 := ThrV.AtB.c2 fa; have g3 := ThrV.AtB.c3 fa; have g4 := ThrV.AtB.c4 fa; dsimp only at g0 g1 g2 g3 g4; go_simp; first | done | rfl)); clear hK' K')))
          refine Reg.det_nil ?_
          refine Reg.one (i := 6) (n := 2) (by kernel_rfl) ?_
          refine Reg.call rfl rfl (by go_simp; exact ⟨rfl, rfl⟩) ?_
          refine (hcall.out _).mono ?_
          rintro e1 w2 ⟨rfl, hb2⟩
          have L2 : Below w.heap.size w w2 := LX.trans (hb2.mono LX.size)
          have z2 : w.heap.size + 1 ≤ w2.heap.size := by have := hb2.size; omega
          have B2 := BX.belowS hb2
          have S2 : (fun w' => ThrV.AtB w' wr.heap.size ⟨0, pct, amt, soft, grace⟩ ∧ w'.cell? ⟨w.heap.size, 0, none⟩ = some (.int .i64 k0)) w2 := ⟨SX.1.below hb2 (by omega), B2.cell 0⟩
          refine ⟨_, rfl, S2, ?_⟩
          have hor : E < e ∨ e ≤ E := by omega
          rcases hor with hq | hq
          · have hmx : max e E = e := by omega
            have HM := Lib.hid hmx
            clear hmx
            refine Reg.takes (n := 0) (by kernel_rfl) (fun _ _ d _ _ h => by cases d <;> exact h) S2 [7, 8] _ _ (by kernel_rfl) ?_
            iterate 2 (refine Reg.det_step rfl (fun K' hK' => ?_); go_simp; (first | (refine hK' _ ?_; clear hK' K') | (apply Exists.intro; refine ⟨fun wx hwx => ?_, hK' _ ?_⟩; (first | rfl | (have fa := hwx; intro fb; have g0 := ThrV.AtB.c0 fa; have g1 := ThrV.AtB.c1 fa; have g2 := ThrV.AtB.c2 fa; have g3 := ThrV.AtB.c3 fa; have g4 := ThrV.AtB.c4 fa; dsimp only at g0 g1 g2 g3 g4; go_simp; first | done | rfl)); clear hK' K')))
            refine Reg.det_nil ?_
            refine wpAnyH_done (by kernel_rfl) ?_ _
            go_wp2_with fail
            all_goals
              go_roundw
              case rel => exact ⟨k + 1, _, by omega, by go_num, rfl, L2, z2, B2, by show _ = _; have q := HF2.out; have hif : (if e < E then E else e) = e := (by split <;> omega); simp only [hif]; simpa [HM.out] using q⟩
              case measure => simp [intOf]; omega
          · have hmx : max e E = E := by omega
            have HM := Lib.hid hmx
            clear hmx
            refine Reg.takes (n := 0) (by kernel_rfl) (fun _ _ d _ _ h => by cases d <;> exact h) S2 [7, 8] _ _ (by kernel_rfl) ?_
            iterate 2 (refine Reg.det_step rfl (fun K' hK' => ?_); go_simp; (first | (refine hK' _ ?_; clear hK' K') | (apply Exists.intro; refine ⟨fun wx hwx => ?_, hK' _ ?_⟩; (first | rfl | (have fa := hwx; intro fb; have g0 := ThrV.AtB.c0 fa; have g1 := ThrV.AtB.c1 fa; have g2 := ThrV.AtB.c2 fa; have g3 := ThrV.AtB.c3 fa; have g4 := ThrV.AtB.c4 fa; dsimp only at g0 g1 g2 g3 g4; go_simp; first | done | rfl)); clear hK' K')))
            refine Reg.det_nil ?_
            refine wpAnyH_done (by kernel_rfl) ?_ _
            go_wp2_with fail
            all_goals
              go_roundw
              case rel => exact ⟨k + 1, _, by omega, by go_num, rfl, L2, z2, B2, by show _ = _; have q := HF2.out; have hif : (if e < E then E else e) = E := (by split <;> omega); simp only [hif]; simpa [HM.out] using q⟩
              case measure => simp [intOf]; omega
      · obtain rfl : k = n := by omega
        have hF3 : e = F := by
          have q := HF.out
          rw [List.drop_eq_nil_of_le (by omega)] at q
          simpa [edgeF] using q
        subst hF3
        go_wp2_with fail
        go_ret
        exact ⟨rfl, hbr⟩
  · have hcp2 : Hid (pick3 k0 k1 k2 1 = k1) := by show _ = _; simp [pick3]
    rw [hcp2.out] at HF Hcap
    go_enter Try.func42, Try.ntmps42
    go_wp2_with fail
    go_loopw [7, 13] (fun ve vi wr => ∃ (k : Nat) (e : Int), k ≤ n ∧ vi = .int .i64 k ∧ ve = .int .i64 e ∧ Below w.heap.size w wr ∧ w.heap.size + 1 ≤ wr.heap.size ∧ Mem.Blk wr w.heap.size 47 #[.int .i64 k0, .int .i64 k1, .int .i64 k2, .int .i64 a0, .int .i64 a1, .int .i64 a2, .slice A n c, .int .i64 per, .int .i64 ret, .int .i64 age, .int .i64 dead] ∧ Hid (edgeF k1 1 (ths.drop k) (bs.drop k) e = F)) (fun _ i _ => n - (intOf i).toNat)
    case atStart => exact ⟨0, 0, by omega, rfl, rfl, (Below.refl _ _).alloc (Nat.le_refl _) _, by simp, Mem.Blk.new, HF⟩
    case round =>
      clear HF
      obtain ⟨k, e, hk, rfl, rfl, hbr, hz, B0, HF⟩ := hrel
      by_cases hlt : k < n
      · have m1 : wr.cell? ⟨w.heap.size, 1, none⟩ = some (.int .i64 k1) := B0.cell 1
        obtain ⟨ad, hlk, hA, _, hbk, hat⟩ := ThrV.at_ (hsl.below hbr) hlt
        obtain ⟨ad2, hlb, rfl, hb2, hcb⟩ := bool_at (hb.below hbr) hlt
        have hcall : Hid (∀ w, Calls Try.prog 61 #[.agg ths[k].arr, .int .i64 k1] w fun e w' => e = .returned (.int .i64 (edgeT ths[k] k1)) ∧ Below w.heap.size w w') := fun w => tedge_c ths[k] k1 w (Hok.out _ (List.getElem_mem hlk)) Hcap.out
        have hF2 := HF.out
        rw [edgeF_step hlk hlb] at hF2
        have HF2 := Lib.hid hF2
        clear hF2 HF
        subst hA
        generalize ths[k] = t at *
        generalize bs[k] = b at *
        generalize edgeT t k1 = E at *
        obtain ⟨sig, pct, amt, soft, grace⟩ := t
        unfold ThrV.arr at hcall
        obtain ⟨c0, c1, c2, c3, c4⟩ := hat
        dsimp only at c0 c1 c2 c3 c4 HF2 hcall
        have hcb2 : World.cell? (wr.alloc (.cells #[.int .i64 sig, .int .i64 pct, .int .i64 amt, .bool soft, .int .i64 grace] 67)) (ad2.add k) = some (.bool b) := Mem.keep_alloc hcb
        have hor : b = false ∨ b = true ∧ (sig ≠ 1 ∨ sig = 1) := by cases b <;> simp <;> omega
        rcases hor with rfl | ⟨rfl, hq | hq⟩
        · go_wp2_with fail
          go_roundw
          case rel => exact ⟨k + 1, e, by omega, by go_num, rfl, hbr.alloc hbr.size _, by simp <;> omega, B0.alloc, by show _ = _; have q := HF2.out; simpa using q⟩
          case measure => simp [intOf]; omega
        · have d1 : (sig == 1) = false := by simp [hq]
          have Hq := Lib.hid hq
          clear hq
          go_wp2_with fail
          go_roundw
          case rel => exact ⟨k + 1, e, by omega, by go_num, rfl, hbr.alloc hbr.size _, by simp <;> omega, B0.alloc, by show _ = _; have q := HF2.out; simpa [Hq.out] using q⟩
          case measure => simp [intOf]; omega
        · subst hq
          go_wp2_with fail
          clear c0 c1 c2 c3 c4
          obtain ⟨X, hX⟩ : ∃ X, X = World.drew (wr.alloc (.cells #[.int .i64 1, .int .i64 pct, .int .i64 amt, .bool soft, .int .i64 grace] 67)) := ⟨_, rfl⟩
          have LX : Below w.heap.size w X := by rw [hX]; exact (hbr.alloc hbr.size _).drew
          have zX : X.heap.size = wr.heap.size + 1 := by rw [hX]; simp
          have BX := B0.alloc (o := .cells #[.int .i64 1, .int .i64 pct, .int .i64 amt, .bool soft, .int .i64 grace] 67) |>.drew
          rw [← hX] at BX
          have SX : (fun w' => ThrV.AtB w' wr.heap.size ⟨1, pct, amt, soft, grace⟩ ∧ w'.cell? ⟨w.heap.size, 1, none⟩ = some (.int .i64 k1)) X := by
            refine ⟨?_, BX.cell 1⟩
            rw [hX]
            exact ThrV.AtB.drew (ThrV.of_blk (t := 67) (p := ⟨1, pct, amt, soft, grace⟩) Mem.Blk.new)
          refine Reg.start (S := (fun w' => ThrV.AtB w' wr.heap.size ⟨1, pct, amt, soft, grace⟩ ∧ w'.cell? ⟨w.heap.size, 1, none⟩ = some (.int .i64 k1))) (by kernel_rfl) ?_
          rw [← hX]
          clear hX
          refine Reg.takes (n := 3) (by kernel_rfl) (fun _ _ d _ _ h => by cases d <;> exact h) SX [0, 1, 2, 3, 4, 5] _ _ (by kernel_rfl) ?_
          iterate 6 (refine Reg.det_step rfl (fun K' hK' => ?_); go_simp; (first | (refine hK' _ ?_; clear hK' K') | (apply Exists.intro; refine ⟨fun wx hwx => ?_, hK' _ ?_⟩; (first | rfl | (have fa := hwx; intro fb; have g0 := ThrV.AtB.c0 fa; have g1 := ThrV.AtB.c1 fa; have g2 := ThrV.AtB.c2 fa; have g3 := ThrV.AtB.c3 fa; have g4 := ThrV.AtB.c4 fa; dsimp only at g0 g1 g2 g3 g4; go_simp; first | done | rfl)); clear hK' K')))
          refine Reg.det_nil ?_
          refine Reg.one (i := 6) (n := 2) (by kernel_rfl) ?_
          refine Reg.call rfl rfl (by go_simp; exact ⟨rfl, rfl⟩) ?_
          refine (hcall.out _).mono ?_
          rintro e1 w2 ⟨rfl, hb2⟩
          have L2 : Below w.heap.size w w2 := LX.trans (hb2.mono LX.size)
          have z2 : w.heap.size + 1 ≤ w2.heap.size := by have := hb2.size; omega
          have B2 := BX.belowS hb2
          have S2 : (fun w' => ThrV.AtB w' wr.heap.size ⟨1, pct, amt, soft, grace⟩ ∧ w'.cell? ⟨w.heap.size, 1, none⟩ = some (.int .i64 k1)) w2 := ⟨SX.1.below hb2 (by omega), B2.cell 1⟩
          refine ⟨_, rfl, S2, ?_⟩
          have hor : E < e ∨ e ≤ E := by omega
          rcases hor with hq | hq
          · have hmx : max e E = e := by omega
            have HM := Lib.hid hmx
            clear hmx
            refine Reg.takes (n := 0) (by kernel_rfl) (fun _ _ d _ _ h => by cases d <;> exact h) S2 [7, 8] _ _ (by kernel_rfl) ?_
            iterate 2 (refine Reg.det_step rfl (fun K' hK' => ?_); go_simp; (first | (refine hK' _ ?_; clear hK' K') | (apply Exists.intro; refine ⟨fun wx hwx => ?_, hK' _ ?_⟩; (first | rfl | (have fa := hwx; intro fb; have g0 := ThrV.AtB.c0 fa; have g1 := ThrV.AtB.c1 fa; have g2 := ThrV.AtB.c2 fa; have g3 := ThrV.AtB.c3 fa; have g4 := ThrV.AtB.c4 fa; dsimp only at g0 g1 g2 g3 g4; go_simp; first | done | rfl)); clear hK' K')))
            refine Reg.det_nil ?_
            refine wpAnyH_done (by kernel_rfl) ?_ _
            go_wp2_with fail
            all_goals
              go_roundw
              case rel => exact ⟨k + 1, _, by omega, by go_num, rfl, L2, z2, B2, by show _ = _; have q := HF2.out; have hif : (if e < E then E else e) = e := (by split <;> omega); simp only [hif]; simpa [HM.out] using q⟩
              case measure => simp [intOf]; omega
          · have hmx : max e E = E := by omega
            have HM := Lib.hid hmx
            clear hmx
            refine Reg.takes (n := 0) (by kernel_rfl) (fun _ _ d _ _ h => by cases d <;> exact h) S2 [7, 8] _ _ (by kernel_rfl) ?_
            iterate 2 (refine Reg.det_step rfl (fun K' hK' => ?_); go_simp; (first | (refine hK' _ ?_; clear hK' K') | (apply Exists.intro; refine ⟨fun wx hwx => ?_, hK' _ ?_⟩; (first | rfl | (have fa := hwx; intro fb; have g0 := ThrV.AtB.c0 fa; have g1 := ThrV.AtB.c1 fa; have g2 := ThrV.AtB.c2 fa; have g3 := ThrV.AtB.c3 fa; have g4 := ThrV.AtB.c4 fa; dsimp only at g0 g1 g2 g3 g4; go_simp; first | done | rfl)); clear hK' K')))
            refine Reg.det_nil ?_
            refine wpAnyH_done (by kernel_rfl) ?_ _
            go_wp2_with fail
            all_goals
              go_roundw
              case rel => exact ⟨k + 1, _, by omega, by go_num, rfl, L2, z2, B2, by show _ = _; have q := HF2.out; have hif : (if e < E then E else e) = E := (by split <;> omega); simp only [hif]; simpa [HM.out] using q⟩
              case measure => simp [intOf]; omega
      · obtain rfl : k = n := by omega
        have hF3 : e = F := by
          have q := HF.out
          rw [List.drop_eq_nil_of_le (by omega)] at q
          simpa [edgeF] using q
        subst hF3
        go_wp2_with fail
        go_ret
        exact ⟨rfl, hbr⟩
  · have hcp2 : Hid (pick3 k0 k1 k2 2 = k2) := by show _ = _; simp [pick3]
    rw [hcp2.out] at HF Hcap
    go_enter Try.func42, Try.ntmps42
    go_wp2_with fail
    go_loopw [7, 13] (fun ve vi wr => ∃ (k : Nat) (e : Int), k ≤ n ∧ vi = .int .i64 k ∧ ve = .int .i64 e ∧ Below w.heap.size w wr ∧ w.heap.size + 1 ≤ wr.heap.size ∧ Mem.Blk wr w.heap.size 47 #[.int .i64 k0, .int .i64 k1, .int .i64 k2, .int .i64 a0, .int .i64 a1, .int .i64 a2, .slice A n c, .int .i64 per, .int .i64 ret, .int .i64 age, .int .i64 dead] ∧ Hid (edgeF k2 2 (ths.drop k) (bs.drop k) e = F)) (fun _ i _ => n - (intOf i).toNat)
    case atStart => exact ⟨0, 0, by omega, rfl, rfl, (Below.refl _ _).alloc (Nat.le_refl _) _, by simp, Mem.Blk.new, HF⟩
    case round =>
      clear HF
      obtain ⟨k, e, hk, rfl, rfl, hbr, hz, B0, HF⟩ := hrel
      by_cases hlt : k < n
      · have m2 : wr.cell? ⟨w.heap.size, 2, none⟩ = some (.int .i64 k2) := B0.cell 2
        obtain ⟨ad, hlk, hA, _, hbk, hat⟩ := ThrV.at_ (hsl.below hbr) hlt
        obtain ⟨ad2, hlb, rfl, hb2, hcb⟩ := bool_at (hb.below hbr) hlt
        have hcall : Hid (∀ w, Calls Try.prog 61 #[.agg ths[k].arr, .int .i64 k2] w fun e w' => e = .returned (.int .i64 (edgeT ths[k] k2)) ∧ Below w.heap.size w w') := fun w => tedge_c ths[k] k2 w (Hok.out _ (List.getElem_mem hlk)) Hcap.out
        have hF2 := HF.out
        rw [edgeF_step hlk hlb] at hF2
        have HF2 := Lib.hid hF2
        clear hF2 HF
        subst hA
        generalize ths[k] = t at *
        generalize bs[k] = b at *
        generalize edgeT t k2 = E at *
        obtain ⟨sig, pct, amt, soft, grace⟩ := t
        unfold ThrV.arr at hcall
        obtain ⟨c0, c1, c2, c3, c4⟩ := hat
        dsimp only at c0 c1 c2 c3 c4 HF2 hcall
        have hcb2 : World.cell? (wr.alloc (.cells #[.int .i64 sig, .int .i64 pct, .int .i64 amt, .bool soft, .int .i64 grace] 67)) (ad2.add k) = some (.bool b) := Mem.keep_alloc hcb
        have hor : b = false ∨ b = true ∧ (sig ≠ 2 ∨ sig = 2) := by cases b <;> simp <;> omega
        rcases hor with rfl | ⟨rfl, hq | hq⟩
        · go_wp2_with fail
          go_roundw
          case rel => exact ⟨k + 1, e, by omega, by go_num, rfl, hbr.alloc hbr.size _, by simp <;> omega, B0.alloc, by show _ = _; have q := HF2.out; simpa using q⟩
          case measure => simp [intOf]; omega
        · have d1 : (sig == 2) = false := by simp [hq]
          have Hq := Lib.hid hq
          clear hq
          go_wp2_with fail
          go_roundw
          case rel => exact ⟨k + 1, e, by omega, by go_num, rfl, hbr.alloc hbr.size _, by simp <;> omega, B0.alloc, by show _ = _; have q := HF2.out; simpa [Hq.out] using q⟩
          case measure => simp [intOf]; omega
        · subst hq
          go_wp2_with fail
          clear c0 c1 c2 c3 c4
          obtain ⟨X, hX⟩ : ∃ X, X = World.drew (wr.alloc (.cells #[.int .i64 2, .int .i64 pct, .int .i64 amt, .bool soft, .int .i64 grace] 67)) := ⟨_, rfl⟩
          have LX : Below w.heap.size w X := by rw [hX]; exact (hbr.alloc hbr.size _).drew
          have zX : X.heap.size = wr.heap.size + 1 := by rw [hX]; simp
          have BX := B0.alloc (o := .cells #[.int .i64 2, .int .i64 pct, .int .i64 amt, .bool soft, .int .i64 grace] 67) |>.drew
          rw [← hX] at BX
          have SX : (fun w' => ThrV.AtB w' wr.heap.size ⟨2, pct, amt, soft, grace⟩ ∧ w'.cell? ⟨w.heap.size, 2, none⟩ = some (.int .i64 k2)) X := by
            refine ⟨?_, BX.cell 2⟩
            rw [hX]
            exact ThrV.AtB.drew (ThrV.of_blk (t := 67) (p := ⟨2, pct, amt, soft, grace⟩) Mem.Blk.new)
          refine Reg.start (S := (fun w' => ThrV.AtB w' wr.heap.size ⟨2, pct, amt, soft, grace⟩ ∧ w'.cell? ⟨w.heap.size, 2, none⟩ = some (.int .i64 k2))) (by kernel_rfl) ?_
          rw [← hX]
          clear hX
          refine Reg.takes (n := 3) (by kernel_rfl) (fun _ _ d _ _ h => by cases d <;> exact h) SX [0, 1, 2, 3, 4, 5] _ _ (by kernel_rfl) ?_
          iterate 6 (refine Reg.det_step rfl (fun K' hK' => ?_); go_simp; (first | (refine hK' _ ?_; clear hK' K') | (apply Exists.intro; refine ⟨fun wx hwx => ?_, hK' _ ?_⟩; (first | rfl | (have fa := hwx; intro fb; have g0 := ThrV.AtB.c0 fa; have g1 := ThrV.AtB.c1 fa; have g2 := ThrV.AtB.c2 fa; have g3 := ThrV.AtB.c3 fa; have g4 := ThrV.AtB.c4 fa; dsimp only at g0 g1 g2 g3 g4; go_simp; first | done | rfl)); clear hK' K')))
          refine Reg.det_nil ?_
          refine Reg.one (i := 6) (n := 2) (by kernel_rfl) ?_
          refine Reg.call rfl rfl (by go_simp; exact ⟨rfl, rfl⟩) ?_
          refine (hcall.out _).mono ?_
          rintro e1 w2 ⟨rfl, hb2⟩
          have L2 : Below w.heap.size w w2 := LX.trans (hb2.mono LX.size)
          have z2 : w.heap.size + 1 ≤ w2.heap.size := by have := hb2.size; omega
          have B2 := BX.belowS hb2
          have S2 : (fun w' => ThrV.AtB w' wr.heap.size ⟨2, pct, amt, soft, grace⟩ ∧ w'.cell? ⟨w.heap.size, 2, none⟩ = some (.int .i64 k2)) w2 := ⟨SX.1.below hb2 (by omega), B2.cell 2⟩
          refine ⟨_, rfl, S2, ?_⟩
          have hor : E < e ∨ e ≤ E := by omega
          rcases hor with hq | hq
          · have hmx : max e E = e := by omega
            have HM := Lib.hid hmx
            clear hmx
            refine Reg.takes (n := 0) (by kernel_rfl) (fun _ _ d _ _ h => by cases d <;> exact h) S2 [7, 8] _ _ (by kernel_rfl) ?_
            iterate 2 (refine Reg.det_step rfl (fun K' hK' => ?_); go_simp; (first | (refine hK' _ ?_; clear hK' K') | (apply Exists.intro; refine ⟨fun wx hwx => ?_, hK' _ ?_⟩; (first | rfl | (have fa := hwx; intro fb; have g0 := ThrV.AtB.c0 fa; have g1 := ThrV.AtB.c1 fa; have g2 := ThrV.AtB.c2 fa; have g3 := ThrV.AtB.c3 fa; have g4 := ThrV.AtB.c4 fa; dsimp only at g0 g1 g2 g3 g4; go_simp; first | done | rfl)); clear hK' K')))
            refine Reg.det_nil ?_
            refine wpAnyH_done (by kernel_rfl) ?_ _
            go_wp2_with fail
            all_goals
              go_roundw
              case rel => exact ⟨k + 1, _, by omega, by go_num, rfl, L2, z2, B2, by show _ = _; have q := HF2.out; have hif : (if e < E then E else e) = e := (by split <;> omega); simp only [hif]; simpa [HM.out] using q⟩
              case measure => simp [intOf]; omega
          · have hmx : max e E = E := by omega
            have HM := Lib.hid hmx
            clear hmx
            refine Reg.takes (n := 0) (by kernel_rfl) (fun _ _ d _ _ h => by cases d <;> exact h) S2 [7, 8] _ _ (by kernel_rfl) ?_
            iterate 2 (refine Reg.det_step rfl (fun K' hK' => ?_); go_simp; (first | (refine hK' _ ?_; clear hK' K') | (apply Exists.intro; refine ⟨fun wx hwx => ?_, hK' _ ?_⟩; (first | rfl | (have fa := hwx; intro fb; have g0 := ThrV.AtB.c0 fa; have g1 := ThrV.AtB.c1 fa; have g2 := ThrV.AtB.c2 fa; have g3 := ThrV.AtB.c3 fa; have g4 := ThrV.AtB.c4 fa; dsimp only at g0 g1 g2 g3 g4; go_simp; first | done | rfl)); clear hK' K')))
            refine Reg.det_nil ?_
            refine wpAnyH_done (by kernel_rfl) ?_ _
            go_wp2_with fail
            all_goals
              go_roundw
              case rel => exact ⟨k + 1, _, by omega, by go_num, rfl, L2, z2, B2, by show _ = _; have q := HF2.out; have hif : (if e < E then E else e) = E := (by split <;> omega); simp only [hif]; simpa [HM.out] using q⟩
              case measure => simp [intOf]; omega
      · obtain rfl : k = n := by omega
        have hF3 : e = F := by
          have q := HF.out
          rw [List.drop_eq_nil_of_le (by omega)] at q
          simpa [edgeF] using q
        subst hF3
        go_wp2_with fail
        go_ret
        exact ⟨rfl, hbr⟩
end Grc
end Go.Proofs.Ytjfbnobijlkicaa
