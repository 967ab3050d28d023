/- The walk of the document's layer 16: pull. -/
import Derived.Test.YthccojfflmfggaaMgW8
import Derived.Test.YthccojfflmfggaaMgW7
import Derived.Test.YthccojfflmfggaaMgW4
import Derived.Test.YthccojfflmfggaaMgW1
import Derived.Test.YthccojfflmfggaaRows
import Derived.WalkKit
import Derived.Test.YthccojfflmfggaaMgW0
namespace Go.Proofs.Ythccojfflmfggaa
open Go.RowKit
namespace Wo
set_option maxRecDepth 100000 in
set_option maxHeartbeats 4000000 in
theorem rpullV {w : World} {T : Nat → Prop} {v : Value} {s : St} {k : Nat} {id name : ByteArray} {size round : Int} (h : RV w T v s) (hs : Fine k s) (hk : k ≤ 999) :
    Calls Try.prog 43 #[v, .string id, .string name, .int .i64 size, .int .i64 round] w fun e w' =>
      (errM s.bx id 1 ≠ 0 → e = .returned (.tuple #[.bool false, .bool false, v, .int .i64 (errM s.bx id 1)]) ∧ Below w.heap.size w w') ∧
      (errM s.bx id 1 = 0 → NewV w T (pullS s id name size round) (fun v' => .returned (.tuple #[.bool (pullW s name), .bool (pullW s name && !Str.has (nms s.im) name), v', .int .i64 0])) e w') := by
  obtain ⟨rt, AO, nO, cO, AB, nB, cB, AI, nI, cI, rfl⟩ := h.shape
  obtain ⟨L0, N3, N6⟩ := two_blocks w #[.int .i64 rt, .slice AO nO cO, .slice AB nB cB, .slice AI nI cI] #[.int .i64 0, .slice none 0 0, .slice none 0 0, .slice none 0 0] 64
  have N3 := Lib.hid N3
  have N6 := Lib.hid N6
  have hli := hs.li
  have hM := Lib.hid (fun (X : World) (hX : Below w.heap.size w X) => rmayV (q := 1) (id := id) (h.below hX) hs (by omega))
  have hI := Lib.hid (fun (X : World) (hX : Below w.heap.size w X) => iplace_c AI nI cI w.heap.size s.im name X (h.parts.2.2.2.1.sl.below hX) hs.good.ri h.parts.1.2.2.2.symm (by have := h.parts.1.2.2.2; omega))
  have hRV := Lib.hid (fun (X : World) (hX : Below w.heap.size w X) => h.old.below hX)
  have HL := Lib.hid L0
  by_cases h0 : errM s.bx id 1 = 0
  · obtain ⟨hh, -⟩ := errM_zero hs.good.rb h0
    rw [h0] at hM
    rw [h0]
    cases hn : Str.has (nms s.im) name
    · have e1 : plc (nms s.im) name = -1 := by unfold plc; rw [hn]; rfl
      rw [e1] at hI
      have hS : Hid (∀ b, tk s.outs = b → pullS s id name size round = ⟨s.rt, s.outs.tail, doB s.bx (Str.pos (ids s.bx) id) 1 b s.rt round, if b then putI s.im name size round else s.im⟩ ∧ pullW s name = b) := by
        rintro _ rfl
        have e2 : pullW s name = tk s.outs := by unfold pullW; rw [hn, if_neg (by decide)]
        refine ⟨?_, e2⟩
        unfold pullS
        rw [e2, hn, if_neg (by decide)]
      have hN := Lib.hid (fun (X : World) (T' : Nat → Prop) (v' : Value) (hV : RV X T' v' s) => rnextV hV (by have := hs.good.no; omega))
      obtain ⟨tkv, htk⟩ : ∃ b, tk s.outs = b := ⟨_, rfl⟩
      obtain ⟨eS, eW⟩ := hS.out tkv htk
      have hD := Lib.hid (fun (X : World) (T' : Nat → Prop) (v' : Value) (hV : RV X T' v' ⟨s.rt, s.outs.tail, s.bx, s.im⟩) => rwdoV (q := 1) (well := tkv) (round := round) hV hs.next (by omega) hh)
      have hp := rputI_is (im := s.im) (s := name) (size := size) (round := round) hs.good.ri
      have hP := Lib.hid (fun (X : World) (T' : Nat → Prop) (bx' : List ConV) (rt2 : Int) (AO2 AB2 AI2 : Option Addr) (nO2 cO2 nB2 cB2 nI2 cI2 : Nat) (hV : RV X T' (.agg #[.int .i64 rt2, .slice AO2 nO2 cO2, .slice AB2 nB2 cB2, .slice AI2 nI2 cI2]) ⟨s.rt, s.outs.tail, bx', s.im⟩) => rput_c AI2 nI2 cI2 s.im name size round X hV.parts.2.2.2.1.sl hV.parts.1.2.2.2.symm (by have := hV.parts.1.2.2.2; dsimp only at this; omega))
      rw [hp] at hP
      rw [htk] at hN
      rw [eS, eW]
      clear e1 L0 h hs hk hh hS eS eW htk hli hp hn h0
      cases tkv
      · go_enter Try.func43, Try.ntmps43
        go_wp2_with fail
        generalize ((w.alloc (.cells #[.int .i64 rt, .slice AO nO cO, .slice AB nB cB, .slice AI nI cI] 64)).alloc (.cells #[.int .i64 0, .slice none 0 0, .slice none 0 0, .slice none 0 0] 64)) = X at *
        refine (hM.out X HL.out).mono ?_
        rintro e w1 ⟨rfl, hb1⟩
        obtain ⟨q0, q1, q2, q3, f3⟩ := blk4 (N3.out.below hb1 N3.out.lt)
        obtain ⟨r0, r1, r2, r3, f6⟩ := blk4 (N6.out.below hb1 N6.out.lt)
        have z1 : w.heap.size + 2 ≤ w1.heap.size := by have := hb1.size; have := N6.out.lt; omega
        have N3 := Lib.hid (N3.out.below hb1 N3.out.lt)
        have N6 := Lib.hid (N6.out.below hb1 N6.out.lt)
        have HB := Lib.hid (HL.out.trans (hb1.mono HL.out.size))
        clear hM hb1 HL
        go_wp2_with fail
        refine (hI.out w1 HB.out).mono ?_
        rintro e wx ⟨rfl, hwx⟩
        subst hwx
        have HV : Hid (RV wx (fun k => (T k ∧ k < w.heap.size) ∨ wx.heap.size ≤ k) (.agg #[.int .i64 rt, .slice AO nO cO, .slice AB nB cB, .slice AI nI cI]) s) := (hRV.out wx HB.out).mono fun k _ ht => .inl ht
        clear hI hRV
        go_wp2_with fail
        clear q0 q1 q2 q3 f3 r0 r1 r2 r3 f6
        refine (hN.out wx _ _ HV.out).mono ?_
        rintro e w2 ⟨v2, rfl, hV, hb⟩
        obtain ⟨rt2, AO2, nO2, cO2, AB2, nB2, cB2, AI2, nI2, cI2, rfl⟩ := hV.shape
        have z2 : wx.heap.size ≤ w2.heap.size := by have := hb.size; simpa using this
        have N3 := Lib.hid (N3.out.below hb N3.out.lt)
        have N6 := Lib.hid (N6.out.below hb N6.out.lt)
        obtain ⟨q0, q1, q2, q3, f3⟩ := blk4 N3.out
        obtain ⟨r0, r1, r2, r3, f6⟩ := blk4 N6.out
        have hTT : RV w2 (fun k => (T k ∧ k < w.heap.size) ∨ wx.heap.size ≤ k) (.agg #[.int .i64 rt2, .slice AO2 nO2 cO2, .slice AB2 nB2 cB2, .slice AI2 nI2 cI2]) _ := hV.mono (fun k _ ht => by
          rcases ht with ht | ht
          · exact ht
          · exact .inr (by first | omega | (simp at ht; omega)))
        have HB := Lib.hid (HB.out.trans (hb.mono (by simpa using HB.out.size)))
        have hO : Ro.Only (fun k => k = w.heap.size) w2 ((((w2.setCell ⟨w.heap.size, 0, none⟩ (.int .i64 rt2)).setCell ⟨w.heap.size, 1, none⟩ (.slice AO2 nO2 cO2)).setCell ⟨w.heap.size, 2, none⟩ (.slice AB2 nB2 cB2)).setCell ⟨w.heap.size, 3, none⟩ (.slice AI2 nI2 cI2)) := only4 w2 w.heap.size _ _ _ _
        have HV := Lib.hid (hTT.own hO (fun k _ ht c => by omega))
        have N3 : Hid (Mem.Blk ((((w2.setCell ⟨w.heap.size, 0, none⟩ (.int .i64 rt2)).setCell ⟨w.heap.size, 1, none⟩ (.slice AO2 nO2 cO2)).setCell ⟨w.heap.size, 2, none⟩ (.slice AB2 nB2 cB2)).setCell ⟨w.heap.size, 3, none⟩ (.slice AI2 nI2 cI2)) w.heap.size 64 #[.int .i64 rt2, .slice AO2 nO2 cO2, .slice AB2 nB2 cB2, .slice AI2 nI2 cI2]) := (((N3.out.set_ 0 (.int .i64 rt2)).set_ 1 (.slice AO2 nO2 cO2)).set_ 2 (.slice AB2 nB2 cB2)).set_ 3 (.slice AI2 nI2 cI2)
        have N6 : Hid (Mem.Blk ((((w2.setCell ⟨w.heap.size, 0, none⟩ (.int .i64 rt2)).setCell ⟨w.heap.size, 1, none⟩ (.slice AO2 nO2 cO2)).setCell ⟨w.heap.size, 2, none⟩ (.slice AB2 nB2 cB2)).setCell ⟨w.heap.size, 3, none⟩ (.slice AI2 nI2 cI2)) (w.heap.size + 1) 64 #[.int .i64 0, .slice none 0 0, .slice none 0 0, .slice none 0 0]) := (hO.block (w.heap.size + 1) N6.out.lt (by omega)).trans N6.out
        have HB : Hid (Below w.heap.size w ((((w2.setCell ⟨w.heap.size, 0, none⟩ (.int .i64 rt2)).setCell ⟨w.heap.size, 1, none⟩ (.slice AO2 nO2 cO2)).setCell ⟨w.heap.size, 2, none⟩ (.slice AB2 nB2 cB2)).setCell ⟨w.heap.size, 3, none⟩ (.slice AI2 nI2 cI2))) := HB.out.trans (hO.below HB.out.size (fun k hk e => by omega))
        clear hV hb hTT hO
        go_wp2_with fail
        clear q0 q1 q2 q3 f3 r0 r1 r2 r3 f6
        refine (hD.out ((((w2.setCell ⟨w.heap.size, 0, none⟩ (.int .i64 rt2)).setCell ⟨w.heap.size, 1, none⟩ (.slice AO2 nO2 cO2)).setCell ⟨w.heap.size, 2, none⟩ (.slice AB2 nB2 cB2)).setCell ⟨w.heap.size, 3, none⟩ (.slice AI2 nI2 cI2)) _ _ HV.out).mono ?_
        rintro e w3 ⟨v3, rfl, hV, hb⟩
        obtain ⟨rt3, AO3, nO3, cO3, AB3, nB3, cB3, AI3, nI3, cI3, rfl⟩ := hV.shape
        have z3 : w2.heap.size ≤ w3.heap.size := by have := hb.size; simpa using this
        have N3 := Lib.hid (N3.out.below hb N3.out.lt)
        have N6 := Lib.hid (N6.out.below hb N6.out.lt)
        obtain ⟨q0, q1, q2, q3, f3⟩ := blk4 N3.out
        obtain ⟨r0, r1, r2, r3, f6⟩ := blk4 N6.out
        have hTT : RV w3 (fun k => (T k ∧ k < w.heap.size) ∨ wx.heap.size ≤ k) (.agg #[.int .i64 rt3, .slice AO3 nO3 cO3, .slice AB3 nB3 cB3, .slice AI3 nI3 cI3]) _ := hV.mono (fun k _ ht => by
          rcases ht with ht | ht
          · exact ht
          · exact .inr (by first | omega | (simp at ht; omega)))
        have HB := Lib.hid (HB.out.trans (hb.mono (by simpa using HB.out.size)))
        have hO : Ro.Only (fun k => k = w.heap.size) w3 ((((w3.setCell ⟨w.heap.size, 0, none⟩ (.int .i64 rt3)).setCell ⟨w.heap.size, 1, none⟩ (.slice AO3 nO3 cO3)).setCell ⟨w.heap.size, 2, none⟩ (.slice AB3 nB3 cB3)).setCell ⟨w.heap.size, 3, none⟩ (.slice AI3 nI3 cI3)) := only4 w3 w.heap.size _ _ _ _
        have HV := Lib.hid (hTT.own hO (fun k _ ht c => by omega))
        have N3 : Hid (Mem.Blk ((((w3.setCell ⟨w.heap.size, 0, none⟩ (.int .i64 rt3)).setCell ⟨w.heap.size, 1, none⟩ (.slice AO3 nO3 cO3)).setCell ⟨w.heap.size, 2, none⟩ (.slice AB3 nB3 cB3)).setCell ⟨w.heap.size, 3, none⟩ (.slice AI3 nI3 cI3)) w.heap.size 64 #[.int .i64 rt3, .slice AO3 nO3 cO3, .slice AB3 nB3 cB3, .slice AI3 nI3 cI3]) := (((N3.out.set_ 0 (.int .i64 rt3)).set_ 1 (.slice AO3 nO3 cO3)).set_ 2 (.slice AB3 nB3 cB3)).set_ 3 (.slice AI3 nI3 cI3)
        have N6 : Hid (Mem.Blk ((((w3.setCell ⟨w.heap.size, 0, none⟩ (.int .i64 rt3)).setCell ⟨w.heap.size, 1, none⟩ (.slice AO3 nO3 cO3)).setCell ⟨w.heap.size, 2, none⟩ (.slice AB3 nB3 cB3)).setCell ⟨w.heap.size, 3, none⟩ (.slice AI3 nI3 cI3)) (w.heap.size + 1) 64 #[.int .i64 0, .slice none 0 0, .slice none 0 0, .slice none 0 0]) := (hO.block (w.heap.size + 1) N6.out.lt (by omega)).trans N6.out
        have HB : Hid (Below w.heap.size w ((((w3.setCell ⟨w.heap.size, 0, none⟩ (.int .i64 rt3)).setCell ⟨w.heap.size, 1, none⟩ (.slice AO3 nO3 cO3)).setCell ⟨w.heap.size, 2, none⟩ (.slice AB3 nB3 cB3)).setCell ⟨w.heap.size, 3, none⟩ (.slice AI3 nI3 cI3))) := HB.out.trans (hO.below HB.out.size (fun k hk e => by omega))
        clear hV hb hTT hO
        go_wp2_with fail
        clear q0 q1 q2 q3 f3 r0 r1 r2 r3 f6
        obtain ⟨q0, q1, q2, q3, f3⟩ := blk4 N3.out
        obtain ⟨r0, r1, r2, r3, f6⟩ := blk4 N6.out
        generalize ((((w3.setCell ⟨w.heap.size, 0, none⟩ (.int .i64 rt3)).setCell ⟨w.heap.size, 1, none⟩ (.slice AO3 nO3 cO3)).setCell ⟨w.heap.size, 2, none⟩ (.slice AB3 nB3 cB3)).setCell ⟨w.heap.size, 3, none⟩ (.slice AI3 nI3 cI3)) = w5 at *
        go_region
        all_goals
          go_wp2_with fail
          obtain ⟨e1, e2⟩ := fin_V (T := T) (B := wx.heap.size) (by omega) HV.out HB.out (only4' w5 w.heap.size (.int .i64 rt3) (.slice AO3 nO3 cO3) (.slice AB3 nB3 cB3) (.slice AI3 nI3 cI3)).drew
          refine bodyPost_ret (v := .tuple #[.bool false, .bool false, .agg #[.int .i64 rt3, .slice AO3 nO3 cO3, .slice AB3 nB3 cB3, .slice AI3 nI3 cI3], .int .i64 0]) (by simp [results, Try.results43, go_sem, r0, r1, r2, r3]) rfl (by first | exact ⟨_, rfl, e1, e2⟩ | exact ⟨fun c => absurd rfl c, fun _ => ⟨_, rfl, e1, e2⟩⟩ | exact fun _ => ⟨_, rfl, e1, e2⟩)
      · go_enter Try.func43, Try.ntmps43
        go_wp2_with fail
        generalize ((w.alloc (.cells #[.int .i64 rt, .slice AO nO cO, .slice AB nB cB, .slice AI nI cI] 64)).alloc (.cells #[.int .i64 0, .slice none 0 0, .slice none 0 0, .slice none 0 0] 64)) = X at *
        refine (hM.out X HL.out).mono ?_
        rintro e w1 ⟨rfl, hb1⟩
        obtain ⟨q0, q1, q2, q3, f3⟩ := blk4 (N3.out.below hb1 N3.out.lt)
        obtain ⟨r0, r1, r2, r3, f6⟩ := blk4 (N6.out.below hb1 N6.out.lt)
        have z1 : w.heap.size + 2 ≤ w1.heap.size := by have := hb1.size; have := N6.out.lt; omega
        have N3 := Lib.hid (N3.out.below hb1 N3.out.lt)
        have N6 := Lib.hid (N6.out.below hb1 N6.out.lt)
        have HB := Lib.hid (HL.out.trans (hb1.mono HL.out.size))
        clear hM hb1 HL
        go_wp2_with fail
        refine (hI.out w1 HB.out).mono ?_
        rintro e wx ⟨rfl, hwx⟩
        subst hwx
        have HV : Hid (RV wx (fun k => (T k ∧ k < w.heap.size) ∨ wx.heap.size ≤ k) (.agg #[.int .i64 rt, .slice AO nO cO, .slice AB nB cB, .slice AI nI cI]) s) := (hRV.out wx HB.out).mono fun k _ ht => .inl ht
        clear hI hRV
        go_wp2_with fail
        clear q0 q1 q2 q3 f3 r0 r1 r2 r3 f6
        refine (hN.out wx _ _ HV.out).mono ?_
        rintro e w2 ⟨v2, rfl, hV, hb⟩
        obtain ⟨rt2, AO2, nO2, cO2, AB2, nB2, cB2, AI2, nI2, cI2, rfl⟩ := hV.shape
        have z2 : wx.heap.size ≤ w2.heap.size := by have := hb.size; simpa using this
        have N3 := Lib.hid (N3.out.below hb N3.out.lt)
        have N6 := Lib.hid (N6.out.below hb N6.out.lt)
        obtain ⟨q0, q1, q2, q3, f3⟩ := blk4 N3.out
        obtain ⟨r0, r1, r2, r3, f6⟩ := blk4 N6.out
        have hTT : RV w2 (fun k => (T k ∧ k < w.heap.size) ∨ wx.heap.size ≤ k) (.agg #[.int .i64 rt2, .slice AO2 nO2 cO2, .slice AB2 nB2 cB2, .slice AI2 nI2 cI2]) _ := hV.mono (fun k _ ht => by
          rcases ht with ht | ht
          · exact ht
          · exact .inr (by first | omega | (simp at ht; omega)))
        have HB := Lib.hid (HB.out.trans (hb.mono (by simpa using HB.out.size)))
        have hO : Ro.Only (fun k => k = w.heap.size) w2 ((((w2.setCell ⟨w.heap.size, 0, none⟩ (.int .i64 rt2)).setCell ⟨w.heap.size, 1, none⟩ (.slice AO2 nO2 cO2)).setCell ⟨w.heap.size, 2, none⟩ (.slice AB2 nB2 cB2)).setCell ⟨w.heap.size, 3, none⟩ (.slice AI2 nI2 cI2)) := only4 w2 w.heap.size _ _ _ _
        have HV := Lib.hid (hTT.own hO (fun k _ ht c => by omega))
        have N3 : Hid (Mem.Blk ((((w2.setCell ⟨w.heap.size, 0, none⟩ (.int .i64 rt2)).setCell ⟨w.heap.size, 1, none⟩ (.slice AO2 nO2 cO2)).setCell ⟨w.heap.size, 2, none⟩ (.slice AB2 nB2 cB2)).setCell ⟨w.heap.size, 3, none⟩ (.slice AI2 nI2 cI2)) w.heap.size 64 #[.int .i64 rt2, .slice AO2 nO2 cO2, .slice AB2 nB2 cB2, .slice AI2 nI2 cI2]) := (((N3.out.set_ 0 (.int .i64 rt2)).set_ 1 (.slice AO2 nO2 cO2)).set_ 2 (.slice AB2 nB2 cB2)).set_ 3 (.slice AI2 nI2 cI2)
        have N6 : Hid (Mem.Blk ((((w2.setCell ⟨w.heap.size, 0, none⟩ (.int .i64 rt2)).setCell ⟨w.heap.size, 1, none⟩ (.slice AO2 nO2 cO2)).setCell ⟨w.heap.size, 2, none⟩ (.slice AB2 nB2 cB2)).setCell ⟨w.heap.size, 3, none⟩ (.slice AI2 nI2 cI2)) (w.heap.size + 1) 64 #[.int .i64 0, .slice none 0 0, .slice none 0 0, .slice none 0 0]) := (hO.block (w.heap.size + 1) N6.out.lt (by omega)).trans N6.out
        have HB : Hid (Below w.heap.size w ((((w2.setCell ⟨w.heap.size, 0, none⟩ (.int .i64 rt2)).setCell ⟨w.heap.size, 1, none⟩ (.slice AO2 nO2 cO2)).setCell ⟨w.heap.size, 2, none⟩ (.slice AB2 nB2 cB2)).setCell ⟨w.heap.size, 3, none⟩ (.slice AI2 nI2 cI2))) := HB.out.trans (hO.below HB.out.size (fun k hk e => by omega))
        clear hV hb hTT hO
        go_wp2_with fail
        clear q0 q1 q2 q3 f3 r0 r1 r2 r3 f6
        refine (hD.out ((((w2.setCell ⟨w.heap.size, 0, none⟩ (.int .i64 rt2)).setCell ⟨w.heap.size, 1, none⟩ (.slice AO2 nO2 cO2)).setCell ⟨w.heap.size, 2, none⟩ (.slice AB2 nB2 cB2)).setCell ⟨w.heap.size, 3, none⟩ (.slice AI2 nI2 cI2)) _ _ HV.out).mono ?_
        rintro e w3 ⟨v3, rfl, hV, hb⟩
        obtain ⟨rt3, AO3, nO3, cO3, AB3, nB3, cB3, AI3, nI3, cI3, rfl⟩ := hV.shape
        have z3 : w2.heap.size ≤ w3.heap.size := by have := hb.size; simpa using this
        have N3 := Lib.hid (N3.out.below hb N3.out.lt)
        have N6 := Lib.hid (N6.out.below hb N6.out.lt)
        obtain ⟨q0, q1, q2, q3, f3⟩ := blk4 N3.out
        obtain ⟨r0, r1, r2, r3, f6⟩ := blk4 N6.out
        have hTT : RV w3 (fun k => (T k ∧ k < w.heap.size) ∨ wx.heap.size ≤ k) (.agg #[.int .i64 rt3, .slice AO3 nO3 cO3, .slice AB3 nB3 cB3, .slice AI3 nI3 cI3]) _ := hV.mono (fun k _ ht => by
          rcases ht with ht | ht
          · exact ht
          · exact .inr (by first | omega | (simp at ht; omega)))
        have HB := Lib.hid (HB.out.trans (hb.mono (by simpa using HB.out.size)))
        have hO : Ro.Only (fun k => k = w.heap.size) w3 ((((w3.setCell ⟨w.heap.size, 0, none⟩ (.int .i64 rt3)).setCell ⟨w.heap.size, 1, none⟩ (.slice AO3 nO3 cO3)).setCell ⟨w.heap.size, 2, none⟩ (.slice AB3 nB3 cB3)).setCell ⟨w.heap.size, 3, none⟩ (.slice AI3 nI3 cI3)) := only4 w3 w.heap.size _ _ _ _
        have HV := Lib.hid (hTT.own hO (fun k _ ht c => by omega))
        have N3 : Hid (Mem.Blk ((((w3.setCell ⟨w.heap.size, 0, none⟩ (.int .i64 rt3)).setCell ⟨w.heap.size, 1, none⟩ (.slice AO3 nO3 cO3)).setCell ⟨w.heap.size, 2, none⟩ (.slice AB3 nB3 cB3)).setCell ⟨w.heap.size, 3, none⟩ (.slice AI3 nI3 cI3)) w.heap.size 64 #[.int .i64 rt3, .slice AO3 nO3 cO3, .slice AB3 nB3 cB3, .slice AI3 nI3 cI3]) := (((N3.out.set_ 0 (.int .i64 rt3)).set_ 1 (.slice AO3 nO3 cO3)).set_ 2 (.slice AB3 nB3 cB3)).set_ 3 (.slice AI3 nI3 cI3)
        have N6 : Hid (Mem.Blk ((((w3.setCell ⟨w.heap.size, 0, none⟩ (.int .i64 rt3)).setCell ⟨w.heap.size, 1, none⟩ (.slice AO3 nO3 cO3)).setCell ⟨w.heap.size, 2, none⟩ (.slice AB3 nB3 cB3)).setCell ⟨w.heap.size, 3, none⟩ (.slice AI3 nI3 cI3)) (w.heap.size + 1) 64 #[.int .i64 0, .slice none 0 0, .slice none 0 0, .slice none 0 0]) := (hO.block (w.heap.size + 1) N6.out.lt (by omega)).trans N6.out
        have HB : Hid (Below w.heap.size w ((((w3.setCell ⟨w.heap.size, 0, none⟩ (.int .i64 rt3)).setCell ⟨w.heap.size, 1, none⟩ (.slice AO3 nO3 cO3)).setCell ⟨w.heap.size, 2, none⟩ (.slice AB3 nB3 cB3)).setCell ⟨w.heap.size, 3, none⟩ (.slice AI3 nI3 cI3))) := HB.out.trans (hO.below HB.out.size (fun k hk e => by omega))
        clear hV hb hTT hO
        go_wp2_with fail
        clear q0 q1 q2 q3 f3 r0 r1 r2 r3 f6
        refine (hP.out ((((w3.setCell ⟨w.heap.size, 0, none⟩ (.int .i64 rt3)).setCell ⟨w.heap.size, 1, none⟩ (.slice AO3 nO3 cO3)).setCell ⟨w.heap.size, 2, none⟩ (.slice AB3 nB3 cB3)).setCell ⟨w.heap.size, 3, none⟩ (.slice AI3 nI3 cI3)) _ _ _ _ _ _ _ _ _ _ _ _ HV.out).mono ?_
        rintro e w4 ⟨A', c', rfl, hR, hb, hA⟩
        have z4 : w3.heap.size ≤ w4.heap.size := by have := hb.size; simpa using this
        obtain ⟨q0, q1, q2, q3, f3⟩ := blk4 (N3.out.below hb N3.out.lt)
        obtain ⟨r0, r1, r2, r3, f6⟩ := blk4 (N6.out.below hb N6.out.lt)
        have HV5 := Lib.hid ((HV.out.below hb).setI rfl hR (fun k hk => .inr (by have := hA k hk; simp at this; omega)))
        have HB5 := Lib.hid (HB.out.trans (hb.mono HB.out.size))
        clear hR hb hA HV HB N3 N6 hP
        generalize (putI s.im name size round).length = nn at *
        go_wp2_with fail
        go_region
        all_goals
          go_wp2_with fail
          obtain ⟨e1, e2⟩ := fin_V (T := T) (B := wx.heap.size) (by omega) HV5.out HB5.out (only5 w4 w.heap.size 3 (.slice A' nn c') (.int .i64 rt3) (.slice AO3 nO3 cO3) (.slice AB3 nB3 cB3) (.slice A' nn c')).drew
          refine bodyPost_ret (v := .tuple #[.bool true, .bool true, .agg #[.int .i64 rt3, .slice AO3 nO3 cO3, .slice AB3 nB3 cB3, .slice A' nn c'], .int .i64 0]) (by simp [results, Try.results43, go_sem, r0, r1, r2, r3]) rfl (by first | exact ⟨_, rfl, e1, e2⟩ | exact ⟨fun c => absurd rfl c, fun _ => ⟨_, rfl, e1, e2⟩⟩ | exact fun _ => ⟨_, rfl, e1, e2⟩)
    · have e1 : plc (nms s.im) name = (Str.pos (nms s.im) name : Int) := by unfold plc; rw [hn]; rfl
      rw [e1] at hI
      have eW : pullW s name = true := by unfold pullW; rw [hn, if_pos rfl]
      have eS : pullS s id name size round = ⟨s.rt, s.outs, doB s.bx (Str.pos (ids s.bx) id) 1 true s.rt round, putI s.im name size round⟩ := by
        unfold pullS
        rw [eW, hn, if_pos rfl, if_pos rfl]
      have hD := Lib.hid (fun (X : World) (T' : Nat → Prop) (v' : Value) (hV : RV X T' v' s) => rwdoV (q := 1) (well := true) (round := round) hV hs (by omega) hh)
      have hp := rputI_is (im := s.im) (s := name) (size := size) (round := round) hs.good.ri
      have hP := Lib.hid (fun (X : World) (T' : Nat → Prop) (bx' : List ConV) (rt2 : Int) (AO2 AB2 AI2 : Option Addr) (nO2 cO2 nB2 cB2 nI2 cI2 : Nat) (hV : RV X T' (.agg #[.int .i64 rt2, .slice AO2 nO2 cO2, .slice AB2 nB2 cB2, .slice AI2 nI2 cI2]) ⟨s.rt, s.outs, bx', s.im⟩) => rput_c AI2 nI2 cI2 s.im name size round X hV.parts.2.2.2.1.sl hV.parts.1.2.2.2.symm (by have := hV.parts.1.2.2.2; dsimp only at this; omega))
      rw [hp] at hP
      rw [eS, eW]
      generalize Str.pos (nms s.im) name = P at *
      clear e1 L0 h hs hk hh eS eW hli hp hn h0
      go_enter Try.func43, Try.ntmps43
      go_wp2_with fail
      generalize ((w.alloc (.cells #[.int .i64 rt, .slice AO nO cO, .slice AB nB cB, .slice AI nI cI] 64)).alloc (.cells #[.int .i64 0, .slice none 0 0, .slice none 0 0, .slice none 0 0] 64)) = X at *
      refine (hM.out X HL.out).mono ?_
      rintro e w1 ⟨rfl, hb1⟩
      obtain ⟨q0, q1, q2, q3, f3⟩ := blk4 (N3.out.below hb1 N3.out.lt)
      obtain ⟨r0, r1, r2, r3, f6⟩ := blk4 (N6.out.below hb1 N6.out.lt)
      have z1 : w.heap.size + 2 ≤ w1.heap.size := by have := hb1.size; have := N6.out.lt; omega
      have N3 := Lib.hid (N3.out.below hb1 N3.out.lt)
      have N6 := Lib.hid (N6.out.below hb1 N6.out.lt)
      have HB := Lib.hid (HL.out.trans (hb1.mono HL.out.size))
      clear hM hb1 HL
      go_wp2_with fail
      refine (hI.out w1 HB.out).mono ?_
      rintro e wx ⟨rfl, hwx⟩
      subst hwx
      have HV : Hid (RV wx (fun k => (T k ∧ k < w.heap.size) ∨ wx.heap.size ≤ k) (.agg #[.int .i64 rt, .slice AO nO cO, .slice AB nB cB, .slice AI nI cI]) s) := (hRV.out wx HB.out).mono fun k _ ht => .inl ht
      clear hI hRV
      go_wp2_with fail
      clear q0 q1 q2 q3 f3 r0 r1 r2 r3 f6
      refine (hD.out wx _ _ HV.out).mono ?_
      rintro e w2 ⟨v2, rfl, hV, hb⟩
      obtain ⟨rt2, AO2, nO2, cO2, AB2, nB2, cB2, AI2, nI2, cI2, rfl⟩ := hV.shape
      have z2 : wx.heap.size ≤ w2.heap.size := by have := hb.size; simpa using this
      have N3 := Lib.hid (N3.out.below hb N3.out.lt)
      have N6 := Lib.hid (N6.out.below hb N6.out.lt)
      obtain ⟨q0, q1, q2, q3, f3⟩ := blk4 N3.out
      obtain ⟨r0, r1, r2, r3, f6⟩ := blk4 N6.out
      have hTT : RV w2 (fun k => (T k ∧ k < w.heap.size) ∨ wx.heap.size ≤ k) (.agg #[.int .i64 rt2, .slice AO2 nO2 cO2, .slice AB2 nB2 cB2, .slice AI2 nI2 cI2]) _ := hV.mono (fun k _ ht => by
        rcases ht with ht | ht
        · exact ht
        · exact .inr (by first | omega | (simp at ht; omega)))
      have HB := Lib.hid (HB.out.trans (hb.mono (by simpa using HB.out.size)))
      have hO : Ro.Only (fun k => k = w.heap.size) w2 ((((w2.setCell ⟨w.heap.size, 0, none⟩ (.int .i64 rt2)).setCell ⟨w.heap.size, 1, none⟩ (.slice AO2 nO2 cO2)).setCell ⟨w.heap.size, 2, none⟩ (.slice AB2 nB2 cB2)).setCell ⟨w.heap.size, 3, none⟩ (.slice AI2 nI2 cI2)) := only4 w2 w.heap.size _ _ _ _
      have HV := Lib.hid (hTT.own hO (fun k _ ht c => by omega))
      have N3 : Hid (Mem.Blk ((((w2.setCell ⟨w.heap.size, 0, none⟩ (.int .i64 rt2)).setCell ⟨w.heap.size, 1, none⟩ (.slice AO2 nO2 cO2)).setCell ⟨w.heap.size, 2, none⟩ (.slice AB2 nB2 cB2)).setCell ⟨w.heap.size, 3, none⟩ (.slice AI2 nI2 cI2)) w.heap.size 64 #[.int .i64 rt2, .slice AO2 nO2 cO2, .slice AB2 nB2 cB2, .slice AI2 nI2 cI2]) := (((N3.out.set_ 0 (.int .i64 rt2)).set_ 1 (.slice AO2 nO2 cO2)).set_ 2 (.slice AB2 nB2 cB2)).set_ 3 (.slice AI2 nI2 cI2)
      have N6 : Hid (Mem.Blk ((((w2.setCell ⟨w.heap.size, 0, none⟩ (.int .i64 rt2)).setCell ⟨w.heap.size, 1, none⟩ (.slice AO2 nO2 cO2)).setCell ⟨w.heap.size, 2, none⟩ (.slice AB2 nB2 cB2)).setCell ⟨w.heap.size, 3, none⟩ (.slice AI2 nI2 cI2)) (w.heap.size + 1) 64 #[.int .i64 0, .slice none 0 0, .slice none 0 0, .slice none 0 0]) := (hO.block (w.heap.size + 1) N6.out.lt (by omega)).trans N6.out
      have HB : Hid (Below w.heap.size w ((((w2.setCell ⟨w.heap.size, 0, none⟩ (.int .i64 rt2)).setCell ⟨w.heap.size, 1, none⟩ (.slice AO2 nO2 cO2)).setCell ⟨w.heap.size, 2, none⟩ (.slice AB2 nB2 cB2)).setCell ⟨w.heap.size, 3, none⟩ (.slice AI2 nI2 cI2))) := HB.out.trans (hO.below HB.out.size (fun k hk e => by omega))
      clear hV hb hTT hO
      go_wp2_with fail
      clear q0 q1 q2 q3 f3 r0 r1 r2 r3 f6
      refine (hP.out ((((w2.setCell ⟨w.heap.size, 0, none⟩ (.int .i64 rt2)).setCell ⟨w.heap.size, 1, none⟩ (.slice AO2 nO2 cO2)).setCell ⟨w.heap.size, 2, none⟩ (.slice AB2 nB2 cB2)).setCell ⟨w.heap.size, 3, none⟩ (.slice AI2 nI2 cI2)) _ _ _ _ _ _ _ _ _ _ _ _ HV.out).mono ?_
      rintro e w4 ⟨A', c', rfl, hR, hb, hA⟩
      have z4 : w2.heap.size ≤ w4.heap.size := by have := hb.size; simpa using this
      obtain ⟨q0, q1, q2, q3, f3⟩ := blk4 (N3.out.below hb N3.out.lt)
      obtain ⟨r0, r1, r2, r3, f6⟩ := blk4 (N6.out.below hb N6.out.lt)
      have HV5 := Lib.hid ((HV.out.below hb).setI rfl hR (fun k hk => .inr (by have := hA k hk; simp at this; omega)))
      have HB5 := Lib.hid (HB.out.trans (hb.mono HB.out.size))
      clear hR hb hA HV HB N3 N6 hP
      generalize (putI s.im name size round).length = nn at *
      go_wp2_with fail
      go_region
      all_goals
        go_wp2_with fail
        obtain ⟨e1, e2⟩ := fin_V (T := T) (B := wx.heap.size) (by omega) HV5.out HB5.out (only5 w4 w.heap.size 3 (.slice A' nn c') (.int .i64 rt2) (.slice AO2 nO2 cO2) (.slice AB2 nB2 cB2) (.slice A' nn c')).drew
        refine bodyPost_ret (v := .tuple #[.bool true, .bool false, .agg #[.int .i64 rt2, .slice AO2 nO2 cO2, .slice AB2 nB2 cB2, .slice A' nn c'], .int .i64 0]) (by simp [results, Try.results43, go_sem, r0, r1, r2, r3]) rfl (by first | exact ⟨_, rfl, e1, e2⟩ | exact ⟨fun c => absurd rfl c, fun _ => ⟨_, rfl, e1, e2⟩⟩ | exact fun _ => ⟨_, rfl, e1, e2⟩)
  · generalize errM s.bx id 1 = E at *
    have h0n : (E != 0) = true := by simpa using h0
    have HE := Lib.hid h0
    clear h hs hk h0 hI hRV hli L0
    go_enter Try.func43, Try.ntmps43
    go_wp2_with fail
    generalize ((w.alloc (.cells #[.int .i64 rt, .slice AO nO cO, .slice AB nB cB, .slice AI nI cI] 64)).alloc (.cells #[.int .i64 0, .slice none 0 0, .slice none 0 0, .slice none 0 0] 64)) = X at *
    refine (hM.out X HL.out).mono ?_
    rintro e w1 ⟨rfl, hb1⟩
    obtain ⟨q0, q1, q2, q3, f3⟩ := blk4 (N3.out.below hb1 N3.out.lt)
    obtain ⟨r0, r1, r2, r3, f6⟩ := blk4 (N6.out.below hb1 N6.out.lt)
    have z1 : w.heap.size + 2 ≤ w1.heap.size := by have := hb1.size; have := N6.out.lt; omega
    have N3 := Lib.hid (N3.out.below hb1 N3.out.lt)
    have N6 := Lib.hid (N6.out.below hb1 N6.out.lt)
    have HB := Lib.hid (HL.out.trans (hb1.mono HL.out.size))
    clear hM hb1 HL
    go_wp2_with fail
    go_region
    all_goals
      go_wp2_with fail
      refine bodyPost_ret (v := .tuple #[.bool false, .bool false, .agg #[.int .i64 rt, .slice AO nO cO, .slice AB nB cB, .slice AI nI cI], .int .i64 E]) (by simp [results, Try.results43, go_sem, r0, r1, r2, r3]) rfl ⟨fun _ => ⟨rfl, ?_⟩, fun c => absurd c HE.out⟩
      exact HB.out.trans (Ro.Only.below (only4' w1 w.heap.size _ _ _ _).drew HB.out.size (fun k hk e => by omega))
end Wo
end Go.Proofs.Ythccojfflmfggaa
/- The walks of layer 16: the document's feed, create, touch on values; a runtime seen as it is. -/
namespace Go.Proofs.Ythccojfflmfggaa
open Go.RowKit
namespace Wo
theorem rfeedV {w : World} {T : Nat → Prop} {v : Value} {s : St} {A2 : Option Addr} {m d : Nat} {ws : List Bool} (h : RV w T v s) (ho : s.outs.length ≤ 4096) (h2 : Mem.Sl w w.heap.size 1 A2 m (ws.map Value.bool)) (hm : m ≤ 10000) :
    Calls Try.prog 40 #[v, .slice A2 m d] w fun e w' =>
      (4096 < s.outs.length + m → e = .returned (.tuple #[v, .int .i64 6]) ∧ Below w.heap.size w w') ∧
      (s.outs.length + m ≤ 4096 → NewV w T { s with outs := s.outs ++ ws } (fun v' => .returned (.tuple #[v', .int .i64 0])) e w') := by
  obtain ⟨rt, AO, nO, cO, AB, nB, cB, AI, nI, cI, rfl⟩ := h.shape
  have hl2 : ws.length = m := by have := h2.1; simpa using this
  obtain ⟨⟨rfl, rfl, rfl, rfl⟩, r1, r2, r3, t1, t2, t3⟩ := h.parts
  refine (rfeed_c s.rt AO AB AI A2 s.outs.length cO s.bx.length cB s.im.length cI m d s.outs ws w r1.sl h2 ho hm).mono ?_
  rintro e w' ⟨p1, p2⟩
  refine ⟨p1, fun c => ?_⟩
  obtain ⟨A', c', rfl, hR, hb, hf⟩ := p2 c
  have hl : (s.outs ++ ws).length = s.outs.length + m := by simp [hl2]
  rw [← hl] at hR ⊢
  exact ⟨_, rfl, ⟨A', AB, AI, c', cB, cI, rfl, hR, Ro.Row.keep r2 fun b hk => hb.block b (Ro.Row.lt r2 hk), Ro.Row.keep r3 fun b hk => hb.block b (Ro.Row.lt r3 hk), fun k hk => .inr (hf k hk), fun k hk => .inl (t2 k hk), fun k hk => .inl (t3 k hk)⟩, hb⟩
theorem rcreateV {w : World} {T : Nat → Prop} {v : Value} {s : St} {k : Nat} {id : ByteArray} {round : Int} (h : RV w T v s) (hs : Fine k s) (hk : k ≤ 1000) :
    Calls Try.prog 41 #[v, .string id, .int .i64 round] w fun e w' =>
      (Str.has (ids s.bx) id = true → e = .returned (.tuple #[v, .int .i64 5]) ∧ Below w.heap.size w w') ∧
      (Str.has (ids s.bx) id = false → NewV w T { s with bx := insB s.bx id round } (fun v' => .returned (.tuple #[v', .int .i64 0])) e w') := by
  obtain ⟨rt, AO, nO, cO, AB, nB, cB, AI, nI, cI, rfl⟩ := h.shape
  obtain ⟨⟨rfl, rfl, rfl, rfl⟩, r1, r2, r3, t1, t2, t3⟩ := h.parts
  have hl := hs.lb
  refine (rcreate_c s.rt AO AB AI s.outs.length cO s.bx.length cB s.im.length cI s.bx id round w r2.sl hs.good.rb rfl (by omega)).mono ?_
  rintro e w' ⟨p1, p2⟩
  refine ⟨p1, fun c => ?_⟩
  have p := p2 c
  rw [crB_is hs.good.rb c] at p
  obtain ⟨A', c', rfl, hR, hb, hf⟩ := p
  exact ⟨_, rfl, ⟨AO, A', AI, cO, c', cI, rfl, Ro.Row.keep r1 fun b hk => hb.block b (Ro.Row.lt r1 hk), hR, Ro.Row.keep r3 fun b hk => hb.block b (Ro.Row.lt r3 hk), fun k hk => .inl (t1 k hk), fun k hk => .inr (hf k hk), fun k hk => .inl (t3 k hk)⟩, hb⟩
theorem rtouchV {w : World} {T : Nat → Prop} {v : Value} {s : St} {k : Nat} {A2 : Option Addr} {m d : Nat} {us : List ByteArray} {round : Int} (h : RV w T v s) (hs : Fine k s) (hk : k ≤ 1000) (h2 : Strs w w.heap.size A2 m us) (hm : m ≤ 10000) :
    Calls Try.prog 46 #[v, .slice A2 m d, .int .i64 round] w (NewV w T { s with im := tchTo round s.im us } fun v' => .returned v') := by
  obtain ⟨rt, AO, nO, cO, AB, nB, cB, AI, nI, cI, rfl⟩ := h.shape
  obtain ⟨⟨rfl, rfl, rfl, rfl⟩, r1, r2, r3, t1, t2, t3⟩ := h.parts
  have hl := hs.li
  have hp := tchTo_is (round := round) us hs.good.ri
  refine (rwtouch_c s.rt AO AB AI A2 s.outs.length cO s.bx.length cB s.im.length cI m d s.im us round w r3.sl h2 rfl (by omega) hm).mono ?_
  rintro e w' ⟨A', c', rfl, hR, hb, hf⟩
  rw [← hp] at hR
  have hll := len_to round us s.im
  rw [← hll] at hR ⊢
  exact ⟨_, rfl, ⟨AO, AB, A', cO, cB, c', rfl, Ro.Row.keep r1 fun b hk => hb.block b (Ro.Row.lt r1 hk), Ro.Row.keep r2 fun b hk => hb.block b (Ro.Row.lt r2 hk), hR, fun k hk => .inl (t1 k hk), fun k hk => .inl (t2 k hk), fun k hk => .inr (hf k hk)⟩, hb⟩
set_option maxRecDepth 100000 in
set_option maxHeartbeats 4000000 in
theorem same_c {wr w : World} {ks T : Nat → Prop} {g k : Nat} {v : Value} {s : St} (h : Has wr ks w g s) (hs : Fine k s) (hk : k ≤ 1000) (hv : RV w T v s) :
    Calls Try.prog 26 #[.pointer (some ⟨g, 0, none⟩), v] w fun e w' => e = .returned (.bool true) ∧ Below w.heap.size w w' := by
  obtain ⟨rt, AO, nO, cO, AB, nB, cB, AI, nI, cI, rfl⟩ := hv.shape
  have hal : Below w.heap.size w (w.alloc (.cells #[.int .i64 rt, .slice AO nO cO, .slice AB nB cB, .slice AI nI cI] 64)) := (Below.refl _ _).alloc (Nat.le_refl _) _
  have HA := Lib.hid hal
  have N3 := Lib.hid (Mem.Blk.new (w := w) (t := 64) (cs := #[.int .i64 rt, .slice AO nO cO, .slice AB nB cB, .slice AI nI cI]))
  have H1 := Lib.hid (h.below hal)
  have V1 := Lib.hid (hv.below hal)
  have HG := Lib.hid hs.good
  have hno := hs.good.no
  have hlb := hs.lb
  have hli := hs.li
  clear h hv hal hs
  go_enter Try.func26, Try.ntmps26
  go_wp2_with fail
  generalize w.alloc (.cells #[.int .i64 rt, .slice AO nO cO, .slice AB nB cB, .slice AI nI cI] 64) = X at *
  refine Reg.start (S := fun w' => Below X.heap.size X w') (by kernel_rfl) ?_
  refine Reg.takes (n := 6) (by kernel_rfl) (fun _ _ d _ _ h => by cases d <;> exact h) (Below.refl _ _).drew [0, 1, 2, 4, 6, 9] _ _ (by kernel_rfl) ?_
  iterate 6 (refine Reg.det_step rfl (fun K' hK' => ?_); go_simp; (first | (refine hK' _ ?_; clear hK' K') | (apply Exists.intro; refine ⟨fun wx hwx => ?_, hK' _ ?_⟩; (first | rfl | (obtain ⟨k0, k1, k2, k3, kf⟩ := blk4 (N3.out.below hwx N3.out.lt); go_simp; first | done | rfl)); clear hK' K')))
  refine Reg.det_nil ?_
  have H2 := Lib.hid (H1.out.below (Below.refl _ _).drew)
  have V2 := Lib.hid (V1.out.below (Below.refl _ _).drew)
  have B2 : Hid (Below X.heap.size X X.drew) := (Below.refl _ _).drew
  clear H1 V1
  generalize X.drew = w2 at *
  refine Reg.one (i := 3) (n := 5) (by kernel_rfl) ?_
  refine Reg.call rfl rfl (by go_simp; exact ⟨rfl, rfl⟩) ?_
  refine (waitingH H2.out HG.out).mono ?_
  rintro e w3 ⟨⟨A1, cA1, rfl, RA1, hb, -⟩, hp⟩
  have B3 : Hid (Below X.heap.size X w3) := B2.out.trans (hb.mono B2.out.size)
  have H3 := Lib.hid hp
  have V3 := Lib.hid (V2.out.below hb)
  have RA1 := Lib.hid RA1
  clear hb hp H2 V2
  refine ⟨_, rfl, B3.out, ?_⟩
  refine Reg.one (i := 5) (n := 4) (by kernel_rfl) ?_
  refine Reg.call rfl rfl (by go_simp; exact ⟨rfl, rfl⟩) ?_
  refine (containersH H3.out HG.out).mono ?_
  rintro e w4 ⟨⟨A2, cA2, rfl, RA2, hb, -⟩, hp⟩
  have B4 : Hid (Below X.heap.size X w4) := B3.out.trans (hb.mono B3.out.size)
  have H4 := Lib.hid hp
  have V4 := Lib.hid (V3.out.below hb)
  have RA1 := Lib.hid (Ro.Row.keep RA1.out fun b hk => hb.block b (Ro.Row.lt RA1.out hk))
  have RA2 := Lib.hid RA2
  clear hb hp H3 V3
  refine ⟨_, rfl, B4.out, ?_⟩
  refine Reg.one (i := 7) (n := 3) (by kernel_rfl) ?_
  refine Reg.call rfl rfl (by go_simp; exact ⟨rfl, rfl⟩) ?_
  refine (imagesH H4.out HG.out).mono ?_
  rintro e w5 ⟨⟨A3, cA3, rfl, RA3, hb, -⟩, hp⟩
  have B5 : Hid (Below X.heap.size X w5) := B4.out.trans (hb.mono B4.out.size)
  have H5 := Lib.hid hp
  have V5 := Lib.hid (V4.out.below hb)
  have RA1 := Lib.hid (Ro.Row.keep RA1.out fun b hk => hb.block b (Ro.Row.lt RA1.out hk))
  have RA2 := Lib.hid (Ro.Row.keep RA2.out fun b hk => hb.block b (Ro.Row.lt RA2.out hk))
  have RA3 := Lib.hid RA3
  clear hb hp H4 V4
  refine ⟨_, rfl, B5.out, ?_⟩
  refine Reg.takes (n := 2) (by kernel_rfl) (fun _ _ d _ _ h => by cases d <;> exact h) B5.out [8] _ _ (by kernel_rfl) ?_
  iterate 1 (refine Reg.det_step rfl (fun K' hK' => ?_); go_simp; (first | (refine hK' _ ?_; clear hK' K') | (apply Exists.intro; refine ⟨fun wx hwx => ?_, hK' _ ?_⟩; (first | rfl | (go_simp; first | done | rfl)); clear hK' K')))
  refine Reg.det_nil ?_
  refine Reg.one (i := 10) (n := 1) (by kernel_rfl) ?_
  refine Reg.call rfl rfl (by go_simp; exact ⟨rfl, rfl⟩) ?_
  obtain ⟨⟨e1, e2, e3, e4⟩, s1, s2, s3, -⟩ := V5.out.parts
  subst e1 e2 e3 e4
  refine (rsame_c 0 s.rt A1 A2 A3 AO AB AI s.outs.length cA1 s.bx.length cA2 s.im.length cA3 cO cB cI s.outs s.bx s.im w5 (Ro.Row.sl RA1.out) (Ro.Row.sl RA2.out) (Ro.Row.sl RA3.out) (Ro.Row.sl s1) (Ro.Row.sl s2) (Ro.Row.sl s3) (by omega) (by omega) (by omega)).mono ?_
  rintro e w6 ⟨rfl, hb⟩
  have B6 : Hid (Below X.heap.size X w6) := B5.out.trans (hb.mono B5.out.size)
  clear hb
  refine ⟨_, rfl, B6.out, ?_⟩
  refine Reg.takes (n := 0) (by kernel_rfl) (fun _ _ d _ _ h => by cases d <;> exact h) B6.out [11] _ _ (by kernel_rfl) ?_
  iterate 1 (refine Reg.det_step rfl (fun K' hK' => ?_); go_simp; (first | (refine hK' _ ?_; clear hK' K') | (apply Exists.intro; refine ⟨fun wx hwx => ?_, hK' _ ?_⟩; (first | rfl | (go_simp; first | done | rfl)); clear hK' K')))
  refine Reg.det_nil ?_
  refine wpAnyH_done (by kernel_rfl) ?_ _
  go_wp2_with fail
  go_ret
  exact ⟨rfl, HA.out.trans (B6.out.mono HA.out.size)⟩
end Wo
end Go.Proofs.Ythccojfflmfggaa
/- The plain law of layer 16 (world): what an act makes of a runtime. -/
namespace Go.Proofs.Ythccojfflmfggaa
open Go.RowKit
namespace Wo
/-- an act: what is asked -/
structure Ac where
  d : Int
  well : List Bool
  id : ByteArray
  what : Int
  name : ByteArray
  size : Int
  round : Int
  used : List ByteArray
/-- the runtime behind it -/
def actS (s : St) (a : Ac) : St :=
  if a.d = 0 then (if 4096 < s.outs.length + a.well.length then s else { s with outs := s.outs ++ a.well })
  else if a.d = 1 then (if Str.has (ids s.bx) a.id then s else { s with bx := insB s.bx a.id a.round })
  else if a.d = 2 then (if askE s a.id a.what = 0 then askS s a.id a.what a.round else s)
  else if a.d = 3 then (if errM s.bx a.id 1 = 0 then pullS s a.id a.name a.size a.round else s)
  else if a.d = 4 then (if Str.has (nms s.im) a.name then dropS s a.name else s)
  else { s with im := tchTo a.round s.im a.used }
section
variable {k : Nat} {s : St} {id name : ByteArray} {size round q : Int}
theorem Fine.ask (h : Fine k s) : Fine k (askS s id q round) := Fine.doB (s := { s with outs := s.outs.tail }) h.next _
theorem Fine.pull (h : Fine k s) (hk : k < 1000) : Fine (k + 1) (pullS s id name size round) := by
  have h1 : Fine k { s with outs := if Str.has (nms s.im) name then s.outs else s.outs.tail } := by
    by_cases c : Str.has (nms s.im) name = true
    · rw [if_pos c]; exact h
    · rw [if_neg c]; exact h.next
  have h2 := Fine.doB (q := 1) (well := pullW s name) (round := round) h1 (Str.pos (ids s.bx) id)
  unfold pullS
  by_cases c : pullW s name = true
  · rw [if_pos c]
    exact Fine.put (name := name) (size := size) (round := round) h2 hk
  · rw [if_neg c]
    exact h2.mono
theorem Fine.drp (h : Fine k s) : Fine k (dropS s name) := by
  unfold dropS
  by_cases c : tk s.outs = true
  · rw [if_pos c]; exact Fine.drop (name := name) h.next
  · rw [if_neg c]; exact h.next
theorem Fine.act (h : Fine k s) (hk : k < 1000) (a : Ac) : Fine (k + 1) (actS s a) := by
  unfold actS
  split
  · split
    · exact h.mono
    · exact (h.outs (by simp; omega)).mono
  split
  · split
    · exact h.mono
    · exact h.ins hk (by simpa using ‹¬ Str.has (ids s.bx) a.id = true›)
  split
  · split
    · exact h.ask.mono
    · exact h.mono
  split
  · split
    · exact h.pull hk
    · exact h.mono
  split
  · split
    · exact h.drp.mono
    · exact h.mono
  · exact (h.tch a.used).mono
end
section
variable {s : St} {a : Ac}
theorem act_full (d : a.d = 0) (c : 4096 < s.outs.length + a.well.length) : actS s a = s := by unfold actS; rw [if_pos d, if_pos c]
theorem act_feed (d : a.d = 0) (c : s.outs.length + a.well.length ≤ 4096) : actS s a = { s with outs := s.outs ++ a.well } := by unfold actS; rw [if_pos d, if_neg (by omega)]
theorem act_twice (d : a.d = 1) (c : Str.has (ids s.bx) a.id = true) : actS s a = s := by unfold actS; rw [if_neg (by omega), if_pos d, if_pos c]
theorem act_create (d : a.d = 1) (c : Str.has (ids s.bx) a.id = false) : actS s a = { s with bx := insB s.bx a.id a.round } := by unfold actS; rw [if_neg (by omega), if_pos d, if_neg (by simp [c])]
theorem act_noask (d : a.d = 2) (c : askE s a.id a.what ≠ 0) : actS s a = s := by unfold actS; rw [if_neg (by omega), if_neg (by omega), if_pos d, if_neg c]
theorem act_ask (d : a.d = 2) (c : askE s a.id a.what = 0) : actS s a = askS s a.id a.what a.round := by unfold actS; rw [if_neg (by omega), if_neg (by omega), if_pos d, if_pos c]
theorem act_nopull (d : a.d = 3) (c : errM s.bx a.id 1 ≠ 0) : actS s a = s := by unfold actS; rw [if_neg (by omega), if_neg (by omega), if_neg (by omega), if_pos d, if_neg c]
theorem act_pull (d : a.d = 3) (c : errM s.bx a.id 1 = 0) : actS s a = pullS s a.id a.name a.size a.round := by unfold actS; rw [if_neg (by omega), if_neg (by omega), if_neg (by omega), if_pos d, if_pos c]
theorem act_nodrop (d : a.d = 4) (c : Str.has (nms s.im) a.name = false) : actS s a = s := by unfold actS; rw [if_neg (by omega), if_neg (by omega), if_neg (by omega), if_neg (by omega), if_pos d, if_neg (by simp [c])]
theorem act_drop (d : a.d = 4) (c : Str.has (nms s.im) a.name = true) : actS s a = dropS s a.name := by unfold actS; rw [if_neg (by omega), if_neg (by omega), if_neg (by omega), if_neg (by omega), if_pos d, if_pos c]
theorem act_touch (d0 : a.d ≠ 0) (d1 : a.d ≠ 1) (d2 : a.d ≠ 2) (d3 : a.d ≠ 3) (d4 : a.d ≠ 4) : actS s a = { s with im := tchTo a.round s.im a.used } := by unfold actS; rw [if_neg d0, if_neg d1, if_neg d2, if_neg d3, if_neg d4]
end
end Wo
end Go.Proofs.Ythccojfflmfggaa
/- Words for cells that read as slices of plain things: bools, texts, numbers. -/
namespace Go.Proofs.Ythccojfflmfggaa
open Go.RowKit
namespace Frame
section
variable {P : Program} {W : World} {t e : TypeId} {cs : List Value}
/-- cells of a slice whose elements are one cell each, each of a kind -/
theorem Dat.ones {α : Type} {f : α → Value} {ok : α → Prop} (h : Dat P W t cs) (ht : P.underlying t = some (.slice e)) (hc : P.cellsOf e = 1) (hf : ∀ xs, Dat P W e xs → ∃ a, xs = [f a] ∧ ok a) :
    ∃ (A : Option Addr) (n c : Nat) (ls : List α), cs = [.slice A n c] ∧ n ≤ c ∧ c ≤ maxLen ∧ ls.length = n ∧ (∀ a ∈ ls, ok a) ∧ Mem.Sl W W.heap.size 1 A n (ls.map f) := by
  obtain ⟨A, n, c, xss, hcs, h1, h2, h3, h4, h5, _⟩ := h.slice ht hc (by omega)
  have key : ∀ xss : List (List Value), (∀ xs ∈ xss, xs.length = 1 ∧ Dat P W e xs) → ∃ ls : List α, ls.length = xss.length ∧ (∀ a ∈ ls, ok a) ∧ xss.flatten = ls.map f := by
    intro xss
    induction xss with
    | nil => intro _; exact ⟨[], rfl, by simp, rfl⟩
    | cons xs xss ih =>
      intro hx
      obtain ⟨ls, hb1, hb2, hb3⟩ := ih (fun y hy => hx y (by simp [hy]))
      obtain ⟨a, rfl, ha⟩ := hf _ (hx xs (by simp)).2
      exact ⟨a :: ls, by simp [hb1], by simpa using ⟨ha, hb2⟩, by simp [hb3]⟩
  obtain ⟨ls, hb1, hb2, hb3⟩ := key xss h4
  exact ⟨A, n, c, ls, hcs, h1, h2, by omega, hb2, by rw [← hb3]; exact h5⟩
theorem Dat.bools (h : Dat P W t cs) (ht : P.underlying t = some (.slice e)) (he : P.underlying e = some .bool) (hc : P.cellsOf e = 1) :
    ∃ (A : Option Addr) (n c : Nat) (ls : List Bool), cs = [.slice A n c] ∧ n ≤ c ∧ c ≤ maxLen ∧ ls.length = n ∧ (∀ a ∈ ls, True) ∧ Mem.Sl W W.heap.size 1 A n (ls.map Value.bool) :=
  h.ones ht hc (fun _ hx => by obtain ⟨b, rfl⟩ := hx.bool he; exact ⟨b, rfl, trivial⟩)
theorem Dat.strs (h : Dat P W t cs) (ht : P.underlying t = some (.slice e)) (he : P.underlying e = some .string) (hc : P.cellsOf e = 1) :
    ∃ (A : Option Addr) (n c : Nat) (ls : List ByteArray), cs = [.slice A n c] ∧ n ≤ c ∧ c ≤ maxLen ∧ ls.length = n ∧ (∀ a ∈ ls, a.size ≤ maxLen) ∧ Mem.Sl W W.heap.size 1 A n (ls.map Value.string) :=
  h.ones ht hc (fun _ hx => by obtain ⟨b, rfl, hb⟩ := hx.string he; exact ⟨b, rfl, hb⟩)
theorem Dat.ints {k : IntKind} (h : Dat P W t cs) (ht : P.underlying t = some (.slice e)) (he : P.underlying e = some (.int k)) (hc : P.cellsOf e = 1) :
    ∃ (A : Option Addr) (n c : Nat) (ls : List Int), cs = [.slice A n c] ∧ n ≤ c ∧ c ≤ maxLen ∧ ls.length = n ∧ (∀ a ∈ ls, (Lit.int k a).wf = true) ∧ Mem.Sl W W.heap.size 1 A n (ls.map (Value.int k)) :=
  h.ones ht hc (fun _ hx => by obtain ⟨b, rfl, hb⟩ := hx.int he; exact ⟨b, rfl, hb⟩)
end
end Frame
end Go.Proofs.Ythccojfflmfggaa
/- Words for bilge/bilgelaw16.Act: its parts; a slice of them; cells in memory. -/
namespace Go.Proofs.Ythccojfflmfggaa
open Go.RowKit
structure ActV where
  d : Int
  well : List Bool
  wellA : Option Addr
  welln : Nat
  wellc : Nat
  id : ByteArray
  what : Int
  name : ByteArray
  size : Int
  round : Int
  used : List ByteArray
  usedA : Option Addr
  usedn : Nat
  usedc : Nat
namespace ActV
/-- a number that an int holds -/
def I64 (n : Int) : Prop := -9223372036854775808 ≤ n ∧ n ≤ 9223372036854775807
def arr (p : ActV) : Array Value := #[.int .i64 p.d, .slice p.wellA p.welln p.wellc, .string p.id, .int .i64 p.what, .string p.name, .int .i64 p.size, .int .i64 p.round, .slice p.usedA p.usedn p.usedc]
def cells (p : ActV) : List Value := [.int .i64 p.d, .slice p.wellA p.welln p.wellc, .string p.id, .int .i64 p.what, .string p.name, .int .i64 p.size, .int .i64 p.round, .slice p.usedA p.usedn p.usedc]
theorem arr_cells (p : ActV) : p.arr.toList = p.cells := rfl
/-- its numbers are ints, its texts are texts, its slices have their lengths -/
structure ok (p : ActV) : Prop where
  d : I64 p.d
  well : p.welln ≤ p.wellc ∧ p.wellc ≤ maxLen ∧ p.well.length = p.welln ∧ ∀ a ∈ p.well, True
  id : p.id.size ≤ maxLen
  what : I64 p.what
  name : p.name.size ≤ maxLen
  size : I64 p.size
  round : I64 p.round
  used : p.usedn ≤ p.usedc ∧ p.usedc ≤ maxLen ∧ p.used.length = p.usedn ∧ ∀ a ∈ p.used, a.size ≤ maxLen
/-- what its slices hold lies in memory, below B -/
structure lies (w : World) (B : Nat) (p : ActV) : Prop where
  well : Mem.Sl w B 1 p.wellA p.welln (p.well.map Value.bool)
  used : Mem.Sl w B 1 p.usedA p.usedn (p.used.map Value.string)
theorem lies.below {w w' : World} {B : Nat} {p : ActV} (h : lies w B p) (hb : Below B w w') : lies w' B p := ⟨h.well.below hb, h.used.below hb⟩
theorem lies.more {w : World} {B B' : Nat} {p : ActV} (h : lies w B p) (hb : B ≤ B') : lies w B' p := ⟨h.well.more hb, h.used.more hb⟩
section
variable {W : World}
set_option maxRecDepth 100000 in
theorem of_dat {cs : List Value} (h : Frame.Dat Try.prog W 69 cs) : ∃ p : ActV, cs = p.cells ∧ p.ok ∧ lies W W.heap.size p := by
  obtain ⟨hl, hf⟩ := h.struct Try.underlying69
  have cN : (Try.prog).cellsOf 69 = 8 := by kernel_rfl
  have c_0 : (Try.prog).cellsOf 22 = 1 := by kernel_rfl
  have c_1 : (Try.prog).cellsOf 67 = 1 := by kernel_rfl
  have c_2 : (Try.prog).cellsOf 3 = 1 := by kernel_rfl
  have c_3 : (Try.prog).cellsOf 9 = 1 := by kernel_rfl
  rw [cN] at hl
  match cs, hl with
  | [a0, a1, a2, a3, a4, a5, a6, a7], _ =>
    have f0 : Frame.Dat Try.prog W 3 [a0] := by simpa [c_2] using hf 0 _ rfl
    obtain ⟨x0, e0, b0⟩ := f0.int Try.underlying3
    have f1 : Frame.Dat Try.prog W 22 [a1] := by simpa [c_0] using hf 1 _ rfl
    obtain ⟨A1, n1, c1, x1, e1, b1, b1', b1'', b1''', l1⟩ := f1.bools Try.underlying22 Try.underlying4 (by kernel_rfl)
    have f2 : Frame.Dat Try.prog W 9 [a2] := by simpa [c_3] using hf 2 _ rfl
    obtain ⟨x2, e2, b2⟩ := f2.string Try.underlying9
    have f3 : Frame.Dat Try.prog W 3 [a3] := by simpa [c_2] using hf 3 _ rfl
    obtain ⟨x3, e3, b3⟩ := f3.int Try.underlying3
    have f4 : Frame.Dat Try.prog W 9 [a4] := by simpa [c_3] using hf 4 _ rfl
    obtain ⟨x4, e4, b4⟩ := f4.string Try.underlying9
    have f5 : Frame.Dat Try.prog W 3 [a5] := by simpa [c_2] using hf 5 _ rfl
    obtain ⟨x5, e5, b5⟩ := f5.int Try.underlying3
    have f6 : Frame.Dat Try.prog W 3 [a6] := by simpa [c_2] using hf 6 _ rfl
    obtain ⟨x6, e6, b6⟩ := f6.int Try.underlying3
    have f7 : Frame.Dat Try.prog W 67 [a7] := by simpa [c_1] using hf 7 _ rfl
    obtain ⟨A7, n7, c7, x7, e7, b7, b7', b7'', b7''', l7⟩ := f7.strs Try.underlying67 Try.underlying9 (by kernel_rfl)
    simp only [List.cons.injEq, and_true] at e0 e1 e2 e3 e4 e5 e6 e7
    subst e0 e1 e2 e3 e4 e5 e6 e7
    exact ⟨⟨x0, x1, A1, n1, c1, x2, x3, x4, x5, x6, x7, A7, n7, c7⟩, rfl, ⟨Frame.bd_i64 b0, ⟨b1, b1', b1'', b1'''⟩, b2, Frame.bd_i64 b3, b4, Frame.bd_i64 b5, Frame.bd_i64 b6, ⟨b7, b7', b7'', b7'''⟩⟩, ⟨l1, l7⟩⟩
theorem of_arg {v : Value} (h : Frame.Arg Try.prog W 69 v) : ∃ p : ActV, v = .agg p.arr ∧ p.ok ∧ lies W W.heap.size p := by
  obtain ⟨cs, rfl⟩ := h.agg Try.underlying69
  obtain ⟨p, e, hp⟩ := of_dat h.dat
  refine ⟨p, ?_, hp⟩
  congr 1
  exact Array.toList_inj.1 e
/-- their cells, one behind the other -/
def flat (ps : List ActV) : List Value := (ps.map cells).flatten
theorem of_slice_dat {cs : List Value} (h : Frame.Dat Try.prog W 61 cs) :
    ∃ (A : Option Addr) (n c : Nat) (ps : List ActV), cs = [.slice A n c] ∧ n ≤ c ∧ c ≤ maxLen ∧ ps.length = n ∧ (∀ p ∈ ps, p.ok ∧ lies W W.heap.size p) ∧ Mem.Sl W W.heap.size 8 A n (flat ps) := by
  obtain ⟨A, n, c, xss, hcs, h1, h2, h3, h4, h5, _⟩ := h.slice (size := 8) Try.underlying61 (by kernel_rfl) (by omega)
  have key : ∀ xss : List (List Value), (∀ xs ∈ xss, xs.length = 8 ∧ Frame.Dat Try.prog W 69 xs) → ∃ ps : List ActV, ps.length = xss.length ∧ (∀ p ∈ ps, p.ok ∧ lies W W.heap.size p) ∧ xss = ps.map cells := by
    intro xss
    induction xss with
    | nil => intro _; exact ⟨[], rfl, by simp, rfl⟩
    | cons xs xss ih =>
      intro hx
      obtain ⟨ps, hb1, hb2, hb3⟩ := ih (fun y hy => hx y (by simp [hy]))
      obtain ⟨p, rfl, hp⟩ := of_dat (hx xs (by simp)).2
      exact ⟨p :: ps, by simp [hb1], by simpa using ⟨hp, hb2⟩, by simp [hb3]⟩
  obtain ⟨ps, hb1, hb2, hb3⟩ := key xss h4
  exact ⟨A, n, c, ps, hcs, h1, h2, by omega, hb2, by unfold flat; rw [← hb3]; exact h5⟩
theorem of_slice {v : Value} (h : Frame.Arg Try.prog W 61 v) :
    ∃ (A : Option Addr) (n c : Nat) (ps : List ActV), v = .slice A n c ∧ n ≤ c ∧ c ≤ maxLen ∧ ps.length = n ∧ (∀ p ∈ ps, p.ok ∧ lies W W.heap.size p) ∧ Mem.Sl W W.heap.size 8 A n (flat ps) := by
  obtain ⟨A, n, c, rfl⟩ := h.one Try.underlying61
  obtain ⟨A', n', c', ps, hcs, h1⟩ := of_slice_dat h.dat
  simp [Value.cells] at hcs
  obtain ⟨rfl, rfl, rfl⟩ := hcs
  exact ⟨A, n, c, ps, rfl, h1⟩
end
theorem flat_app (ps qs : List ActV) : flat (ps ++ qs) = flat ps ++ flat qs := by simp [flat]
theorem flat_cons (p : ActV) (qs : List ActV) : flat (p :: qs) = p.cells ++ flat qs := by simp [flat]
theorem flat_take (ps : List ActV) (i : Nat) : (flat ps).take (i * 8) = flat (ps.take i) := by
  induction ps generalizing i with
  | nil => simp [flat]
  | cons p ps ih =>
    cases i with
    | zero => simp [flat]
    | succ i =>
      rw [flat_cons, List.take_succ_cons, flat_cons, ← ih i, List.take_append, List.take_of_length_le (show p.cells.length ≤ (i + 1) * 8 by simp [cells]; omega)]
      congr 2
      simp [cells]
      omega
theorem flat_drop (ps : List ActV) (i : Nat) : (flat ps).drop (i * 8) = flat (ps.drop i) := by
  induction ps generalizing i with
  | nil => simp [flat]
  | cons p ps ih =>
    cases i with
    | zero => simp [flat]
    | succ i =>
      rw [flat_cons, List.drop_succ_cons, ← ih i, List.drop_append, List.drop_of_length_le (show p.cells.length ≤ (i + 1) * 8 by simp [cells]; omega)]
      simp only [List.nil_append]
      congr 1
      simp [cells]
      omega
theorem flat_len (ps : List ActV) : (flat ps).length = ps.length * 8 := by
  unfold flat
  rw [Frame.flatten_len (size := 8) _ (by intro xs hx; obtain ⟨p, _, rfl⟩ := List.mem_map.1 hx; rfl)]
  simp
theorem flat_get (ps : List ActV) (i j : Nat) (hi : i < ps.length) (hj : j < 8) : (flat ps)[i * 8 + j]? = (ps[i].cells)[j]? := by
  unfold flat
  exact Frame.flatten_get (size := 8) _ (by intro xs hx; obtain ⟨p, _, rfl⟩ := List.mem_map.1 hx; rfl) i j hj _ (by simp [hi])
theorem flat_one (ps : List ActV) : ∀ u ∈ flat ps, u.oneCell' = true := by
  intro u hu
  unfold flat at hu
  obtain ⟨l, hl, hul⟩ := List.mem_flatten.1 hu
  obtain ⟨p, _, rfl⟩ := List.mem_map.1 hl
  simp only [cells, List.mem_cons, List.not_mem_nil, or_false] at hul
  rcases hul with rfl | rfl | rfl | rfl | rfl | rfl | rfl | rfl <;> rfl
/-- at an address lie the cells -/
structure At (w : World) (ad : Addr) (p : ActV) : Prop where
  c0 : w.cell? ad = some (.int .i64 p.d)
  c1 : w.cell? { block := ad.block, off := ad.off + 1 } = some (.slice p.wellA p.welln p.wellc)
  c2 : w.cell? { block := ad.block, off := ad.off + 2 } = some (.string p.id)
  c3 : w.cell? { block := ad.block, off := ad.off + 3 } = some (.int .i64 p.what)
  c4 : w.cell? { block := ad.block, off := ad.off + 4 } = some (.string p.name)
  c5 : w.cell? { block := ad.block, off := ad.off + 5 } = some (.int .i64 p.size)
  c6 : w.cell? { block := ad.block, off := ad.off + 6 } = some (.int .i64 p.round)
  c7 : w.cell? { block := ad.block, off := ad.off + 7 } = some (.slice p.usedA p.usedn p.usedc)
theorem add_off (ad : Addr) (j : Nat) (h : j ≠ 0) : ad.add j = { block := ad.block, off := ad.off + j } := by unfold Addr.add; rw [if_neg h]
theorem at_ {w : World} {B n : Nat} {A : Option Addr} {ps : List ActV} (h : Mem.Sl w B 8 A n (flat ps)) {k : Nat} (hk : k < n) :
    ∃ (ad : Addr) (hl : k < ps.length), A = some ad ∧ ad.block < B ∧ (ad.add (k * 8)).block < B ∧ At w (ad.add (k * 8)) ps[k] := by
  obtain ⟨ad, e, hb, hc⟩ := h.2 (by omega)
  have hn : ps.length * 8 = n * 8 := by rw [← flat_len]; exact h.1
  have hl : k < ps.length := by omega
  refine ⟨ad, hl, e, hb, by rw [Mem.add_block]; exact hb, ?_⟩
  have key : ∀ (j : Nat) (hj : j < 8), w.cell? ((ad.add (k * 8)).add j) = (ps[k].cells)[j]? := by
    intro j hj
    have hlt : k * 8 + j < (flat ps).length := by rw [flat_len]; omega
    rw [Mem.add_add, hc (k * 8 + j) hlt, ← flat_get ps k j hl hj]
    exact (List.getElem?_eq_getElem hlt).symm
  have k0 := key 0 (by decide)
  rw [show (ad.add (k * 8)).add 0 = ad.add (k * 8) from by simp [Addr.add]] at k0
  have kj : ∀ (j : Nat) (hj : j < 8) (h0 : j ≠ 0), w.cell? { block := (ad.add (k * 8)).block, off := (ad.add (k * 8)).off + j } = (ps[k].cells)[j]? := fun j hj h0 => by rw [← add_off _ _ h0]; exact key j hj
  exact ⟨k0, kj 1 (by decide) (by decide), kj 2 (by decide) (by decide), kj 3 (by decide) (by decide), kj 4 (by decide) (by decide), kj 5 (by decide) (by decide), kj 6 (by decide) (by decide), kj 7 (by decide) (by decide)⟩
theorem At.below {w w' : World} {B : Nat} {ad : Addr} {p : ActV} (h : At w ad p) (hb : Below B w w') (hg : ad.block < B) : At w' ad p :=
  ⟨(hb.cell (p := ad) hg).trans h.c0, (hb.cell (p := { block := ad.block, off := ad.off + 1 }) hg).trans h.c1, (hb.cell (p := { block := ad.block, off := ad.off + 2 }) hg).trans h.c2, (hb.cell (p := { block := ad.block, off := ad.off + 3 }) hg).trans h.c3, (hb.cell (p := { block := ad.block, off := ad.off + 4 }) hg).trans h.c4, (hb.cell (p := { block := ad.block, off := ad.off + 5 }) hg).trans h.c5, (hb.cell (p := { block := ad.block, off := ad.off + 6 }) hg).trans h.c6, (hb.cell (p := { block := ad.block, off := ad.off + 7 }) hg).trans h.c7⟩
theorem At.drew {w : World} {ad : Addr} {p : ActV} (h : At w ad p) : At w.drew ad p := ⟨h.c0, h.c1, h.c2, h.c3, h.c4, h.c5, h.c6, h.c7⟩
/-- a block holds them -/
structure AtB (w : World) (g : Nat) (p : ActV) : Prop where
  c0 : w.cell? ⟨g, 0, none⟩ = some (.int .i64 p.d)
  c1 : w.cell? ⟨g, 1, none⟩ = some (.slice p.wellA p.welln p.wellc)
  c2 : w.cell? ⟨g, 2, none⟩ = some (.string p.id)
  c3 : w.cell? ⟨g, 3, none⟩ = some (.int .i64 p.what)
  c4 : w.cell? ⟨g, 4, none⟩ = some (.string p.name)
  c5 : w.cell? ⟨g, 5, none⟩ = some (.int .i64 p.size)
  c6 : w.cell? ⟨g, 6, none⟩ = some (.int .i64 p.round)
  c7 : w.cell? ⟨g, 7, none⟩ = some (.slice p.usedA p.usedn p.usedc)
theorem of_blk {w : World} {g : Nat} {t : TypeId} {p : ActV} (h : Mem.Blk w g t p.arr) : AtB w g p :=
  ⟨h.cell 0, h.cell 1, h.cell 2, h.cell 3, h.cell 4, h.cell 5, h.cell 6, h.cell 7⟩
theorem AtB.below {w w' : World} {g : Nat} {p : ActV} (h : AtB w g p) (hb : Below w.heap.size w w') (hg : g < w.heap.size) : AtB w' g p :=
  ⟨(hb.cell (p := ⟨g, 0, none⟩) hg).trans h.c0, (hb.cell (p := ⟨g, 1, none⟩) hg).trans h.c1, (hb.cell (p := ⟨g, 2, none⟩) hg).trans h.c2, (hb.cell (p := ⟨g, 3, none⟩) hg).trans h.c3, (hb.cell (p := ⟨g, 4, none⟩) hg).trans h.c4, (hb.cell (p := ⟨g, 5, none⟩) hg).trans h.c5, (hb.cell (p := ⟨g, 6, none⟩) hg).trans h.c6, (hb.cell (p := ⟨g, 7, none⟩) hg).trans h.c7⟩
theorem AtB.drew {w : World} {g : Nat} {p : ActV} (h : AtB w g p) : AtB w.drew g p := ⟨h.c0, h.c1, h.c2, h.c3, h.c4, h.c5, h.c6, h.c7⟩
end ActV
end Go.Proofs.Ythccojfflmfggaa
