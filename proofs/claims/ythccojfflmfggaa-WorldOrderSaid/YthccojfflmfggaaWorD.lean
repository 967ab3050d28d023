/- The walks of layer 16 (world): what may be asked is done. -/
import Derived.Test.YthccojfflmfggaaWorC
namespace Go.Proofs.Ythccojfflmfggaa
open Go.RowKit
namespace Wo
theorem flat_mid {bx : List ConV} {P : Nat} (h : P < bx.length) : ConV.flat bx = ConV.flat (bx.take P) ++ (bx[P].cells ++ ConV.flat (bx.drop (P + 1))) := by
  rw [← ConV.flat_cons, ← ConV.flat_app, ← List.drop_eq_getElem_cons h, List.take_append_drop]
theorem set_mid {A B : List Value} {n : Nat} (hA : A.length = n) (c0 c1 c2 c3 x y z : Value) :
    ((A ++ ([c0, c1, c2, c3] ++ B)).set (n + 1) x).set (n + 2) y = A ++ ([c0, x, y, c3] ++ B) ∧ (A ++ ([c0, c1, c2, c3] ++ B)).set (n + 3) z = A ++ ([c0, c1, c2, z] ++ B) := by
  subst hA
  constructor
  · rw [List.set_append_right _ _ (by omega), Nat.add_sub_cancel_left, List.set_append_right _ _ (by omega), Nat.add_sub_cancel_left]
    rfl
  · rw [List.set_append_right _ _ (by omega), Nat.add_sub_cancel_left]
    rfl
theorem flat_set12 {bx : List ConV} {P : Nat} (h : P < bx.length) (x y : Int) : ((ConV.flat bx).set (P * 4 + 1) (.int .i64 x)).set (P * 4 + 2) (.int .i64 y) = ConV.flat (bx.set P ⟨bx[P].id, x, y, bx[P].last⟩) := by
  have e : bx.set P ⟨bx[P].id, x, y, bx[P].last⟩ = bx.take P ++ ⟨bx[P].id, x, y, bx[P].last⟩ :: bx.drop (P + 1) := by
    rw [List.set_eq_take_append_cons_drop, if_pos h]
  rw [e, ConV.flat_app, ConV.flat_cons, flat_mid h]
  exact (set_mid (by rw [ConV.flat_len, List.length_take]; congr 1; omega) _ _ _ _ _ _ (.int .i64 0)).1
theorem flat_set3 {bx : List ConV} {P : Nat} (h : P < bx.length) (z : Int) : (ConV.flat bx).set (P * 4 + 3) (.int .i64 z) = ConV.flat (bx.set P ⟨bx[P].id, bx[P].st, bx[P].tr, z⟩) := by
  have e : bx.set P ⟨bx[P].id, bx[P].st, bx[P].tr, z⟩ = bx.take P ++ ⟨bx[P].id, bx[P].st, bx[P].tr, z⟩ :: bx.drop (P + 1) := by
    rw [List.set_eq_take_append_cons_drop, if_pos h]
  rw [e, ConV.flat_app, ConV.flat_cons, flat_mid h]
  exact (set_mid (by rw [ConV.flat_len, List.length_take]; congr 1; omega) _ _ _ _ (.int .i64 0) (.int .i64 0) _).2
/-- what is done at a place -/
def doP (p : ConV) (q : Int) (well : Bool) (rt round : Int) : ConV := ⟨p.id, (Box.step (p.st, p.tr) q well rt).1, (Box.step (p.st, p.tr) q well rt).2, if well then round else p.last⟩
def doB (bx : List ConV) (P : Nat) (q : Int) (well : Bool) (rt round : Int) : List ConV := match bx[P]? with
  | some p => if (doP p q well rt round).st = 5 then bx.take P ++ bx.drop (P + 1) else bx.set P (doP p q well rt round)
  | none => bx
section
variable {w : World} {gB off nb cb P : Nat} {bx : List ConV}
theorem crow12 (h : CRow w (some ⟨gB, off, none⟩) nb cb bx) (hP : P < bx.length) (x y : Int) : CRow ((w.setCell ⟨gB, off + P * 4 + 1, none⟩ (.int .i64 x)).setCell ⟨gB, off + P * 4 + 1 + 1, none⟩ (.int .i64 y)) (some ⟨gB, off, none⟩) nb cb (bx.set P ⟨bx[P].id, x, y, bx[P].last⟩) := by
  have hl : (ConV.flat bx).length = bx.length * 4 := ConV.flat_len bx
  have h1 := Ro.Row.set1 h (P * 4 + 1) (by omega) (.int .i64 x)
  have h2 := h1.set1 (P * 4 + 2) (by simp; omega) (.int .i64 y)
  rw [flat_set12 hP, ← Nat.add_assoc, ← Nat.add_assoc] at h2
  exact h2
theorem crow3 (h : CRow w (some ⟨gB, off, none⟩) nb cb bx) (hP : P < bx.length) (z : Int) : CRow (w.setCell ⟨gB, off + P * 4 + 3, none⟩ (.int .i64 z)) (some ⟨gB, off, none⟩) nb cb (bx.set P ⟨bx[P].id, bx[P].st, bx[P].tr, z⟩) := by
  have hl : (ConV.flat bx).length = bx.length * 4 := ConV.flat_len bx
  have h1 := Ro.Row.set1 h (P * 4 + 3) (by omega) (.int .i64 z)
  rw [flat_set3 hP, ← Nat.add_assoc] at h1
  exact h1
/-- the cells of one -/
theorem crow_at (h : CRow w (some ⟨gB, off, none⟩) nb cb bx) (hP : P < bx.length) : w.cell? ⟨gB, off + P * 4 + 1, none⟩ = some (.int .i64 bx[P].st) ∧ w.cell? ⟨gB, off + P * 4 + 2, none⟩ = some (.int .i64 bx[P].tr) ∧ w.cell? ⟨gB, off + P * 4 + 3, none⟩ = some (.int .i64 bx[P].last) := by
  have key : ∀ (j : Nat) (hj : j < 4) (v : Value), (bx[P].cells)[j]? = some v → w.cell? ⟨gB, off + P * 4 + j, none⟩ = some v := by
    intro j hj v hv
    have hlt : P * 4 + j < (ConV.flat bx).length := by rw [ConV.flat_len]; omega
    rw [Nat.add_assoc, Ro.Row.cell h _ hlt, ← hv, ← ConV.flat_get bx P j hP hj, List.getElem?_eq_getElem hlt]
  exact ⟨key 1 (by decide) _ rfl, key 2 (by decide) _ rfl, key 3 (by decide) _ rfl⟩
variable {g : Nat} {s : St} {S : Nat → Prop} {AQ AI : Option Addr} {nq cq ni ci : Nat}
/-- the containers' row is turned in place -/
theorem AtL.turn {w' : World} {bx' : List ConV} (h : AtL w g s S AQ nq cq (some ⟨gB, off, none⟩) nb cb AI ni ci) (ho : Ro.Only (fun k => k = gB) w w') (hR : CRow w' (some ⟨gB, off, none⟩) nb cb bx') : AtL w' g { s with bx := bx' } S AQ nq cq (some ⟨gB, off, none⟩) nb cb AI ni ci := by
  obtain ⟨h1, h2, h3⟩ := h.onlyB (ho.mono fun k _ e => by rw [e]; rfl)
  exact ⟨h1, h2, hR, h3, h.sg, h.sq, h.sb, h.si⟩
end
/-- the end: the container is gone, or stays -/
theorem do_keep {w X : World} {g : Nat} {s : St} {S : Nat → Prop} {AQ AB AI : Option Addr} {nq cq nb cb ni ci : Nat} {bx' : List ConV} (T : AtL X g { s with bx := bx' } S AQ nq cq AB nb cb AI ni ci) (O : Ro.Only S w X) : Post S w X g { s with bx := bx' } :=
  ⟨(show At X g _ S from ⟨_, _, _, _, _, _, _, _, _, T⟩).mono fun _ _ c => .inl c, O⟩
theorem do_gone {w X w5 : World} {g gB off : Nat} {s : St} {S : Nat → Prop} {AQ AI : Option Addr} {nq cq nb cb ni ci P : Nat} {bx' : List ConV} {e : Ending} (T : AtL X g { s with bx := bx' } S AQ nq cq (some ⟨gB, off, none⟩) nb cb AI ni ci) (O : Ro.Only S w X) (hS : S gB)
    (hd : DelSaid (some ⟨gB, off, none⟩) (nb - 1) cb (bx'.take P ++ bx'.drop (P + 1)) X e w5) : Post S w (w5.setCell ⟨g, 2, none⟩ (.slice (some ⟨gB, off, none⟩) (nb - 1) cb)) g { s with bx := bx'.take P ++ bx'.drop (P + 1) } := by
  obtain ⟨_, hR, hO⟩ := hd
  obtain ⟨h1, h2, h3⟩ := T.onlyB hO
  have hat : AtL (w5.setCell ⟨g, 2, none⟩ (.slice (some ⟨gB, off, none⟩) (nb - 1) cb)) g { s with bx := bx'.take P ++ bx'.drop (P + 1) } S AQ nq cq (some ⟨gB, off, none⟩) (nb - 1) cb AI ni ci :=
    ⟨h1.set_ 2 _, h2.only (Ro.Only.setCell _ _ _) (h2.apartB h1 (by decide)), hR.only (Ro.Only.setCell _ _ _) (hR.apartB h1 (by decide)), h3.only (Ro.Only.setCell _ _ _) (h3.apartB h1 (by decide)), T.sg, T.sq, T.sb, T.si⟩
  refine ⟨(show At _ g _ S from ⟨_, _, _, _, _, _, _, _, _, hat⟩).mono fun _ _ c => .inl c, (O.trans hO fun k _ e => ?_).trans (Ro.Only.setCell _ _ _) fun k _ e => by rw [e]; exact T.sg⟩
  have : gB = k := by simpa [Ro.blk] using e
  rw [← this]; exact hS
theorem set_out {bx : List ConV} {P : Nat} (p : ConV) : (bx.set P p).take P ++ (bx.set P p).drop (P + 1) = bx.take P ++ bx.drop (P + 1) := by
  rw [List.take_set_of_le (Nat.le_refl _), List.drop_set_of_lt (Nat.lt_succ_self _)]
set_option maxRecDepth 100000 in
set_option maxHeartbeats 8000000 in
theorem wdo_c (g : Nat) (s : St) (S : Nat → Prop) (P : Nat) (q : Int) (well : Bool) (round : Int) (w : World) (h : At w g s S) (hs : Good s) (hP : P < s.bx.length) (hq : (Lit.int .i64 q).wf = true) (hn : Box.nxt s.bx[P].st q ≠ 0) :
    Calls Try.prog 33 #[.pointer (some ⟨g, 0, none⟩), .int .i64 P, .int .i64 q, .bool well, .int .i64 round] w fun e w' => e = .returned (.tuple #[]) ∧ Post S w w' g { s with bx := doB s.bx P q well s.rt round } := by
  obtain ⟨AQ, nq, cq, AB, nb, cb, AI, ni, ci, h⟩ := h
  obtain ⟨_, l1, _⟩ := h.lens
  have hok := hs.ok _ (List.getElem_mem hP)
  have hnb := hs.nb
  have hle := h.b.le
  obtain ⟨gB, off, rfl⟩ := h.b.some_of (by omega)
  obtain ⟨c1, c2, c3⟩ := crow_at h.b hP
  have m1 : w.cell? ⟨g, 1, none⟩ = some (.int .i64 s.rt) := h.blk.cell 1
  have m2 : w.cell? ⟨g, 2, none⟩ = some (.slice (some ⟨gB, off, none⟩) nb cb) := h.blk.cell 2
  have hgB := h.b.lt (g := gB) rfl
  have hg := h.blk.lt
  have hbf := h.b.frozen
  have hne : gB ≠ g := h.b.apartB h.blk (by decide) gB rfl
  have hw1 : (Lit.int .i64 s.bx[P].st).wf = true := WalkArith.wf_i64 (by have := hok.1; have := hok.2.1; dsimp only at *; omega)
  obtain ⟨x, y, hxy⟩ : ∃ x y, Box.step (s.bx[P].st, s.bx[P].tr) q well s.rt = (x, y) := ⟨_, _, rfl⟩
  have hdo : ∀ w, Calls Try.prog 55 #[.agg #[.int .i64 s.bx[P].st, .int .i64 s.bx[P].tr], .int .i64 q, .bool well, .int .i64 s.rt] w fun e w' => e = .returned (.tuple #[.agg #[.int .i64 x, .int .i64 y], .int .i64 (Box.err s.bx[P].st q)]) ∧ Below w.heap.size w w' := by
    intro w
    have := Box.do_c s.bx[P].st s.bx[P].tr q s.rt well w hw1 hq hok.2.2.2
    unfold Box.Said at this
    rw [hxy] at this
    exact this
  -- the list behind it, and what is then
  have fin : Hid (∀ p', p' = (⟨s.bx[P].id, x, y, if well then round else s.bx[P].last⟩ : ConV) → doB s.bx P q well s.rt round = if x = 5 then s.bx.take P ++ s.bx.drop (P + 1) else s.bx.set P p') := by
    rintro p' rfl
    unfold doB
    rw [List.getElem?_eq_getElem hP]
    dsimp only
    unfold doP
    rw [hxy]
  have turn : Hid (∀ w1, Below w.heap.size w w1 → AtL ((w1.setCell ⟨gB, off + P * 4 + 1, none⟩ (.int .i64 x)).setCell ⟨gB, off + P * 4 + 1 + 1, none⟩ (.int .i64 y)) g { s with bx := s.bx.set P ⟨s.bx[P].id, x, y, s.bx[P].last⟩ } S AQ nq cq (some ⟨gB, off, none⟩) nb cb AI ni ci) := by
    intro w1 hb1
    have h1 := h.keep (w' := w1) (fun k hk _ => hb1.block k hk)
    exact h1.turn ((Ro.Only.setCell w1 ⟨gB, off + P * 4 + 1, none⟩ _).trans (Ro.Only.setCell _ ⟨gB, off + P * 4 + 1 + 1, none⟩ _) (fun _ _ e => e)) (crow12 h1.b hP x y)
  have hS := h.sb gB rfl
  have hSg := h.sg
  obtain ⟨st, hst⟩ : ∃ st, st = s.bx[P].st := ⟨_, rfl⟩
  obtain ⟨tr, htr⟩ : ∃ tr, tr = s.bx[P].tr := ⟨_, rfl⟩
  obtain ⟨ls, hls⟩ : ∃ ls, ls = s.bx[P].last := ⟨_, rfl⟩
  obtain ⟨r, hr⟩ : ∃ r, r = s.rt := ⟨_, rfl⟩
  rw [← hst] at c1 hdo
  rw [← htr] at c2 hdo
  rw [← hls] at c3
  rw [← hr] at m1 hdo
  have Hdo := Lib.hid hdo
  have HN := Lib.hid hn
  clear h hr hs hst htr hls hdo hxy hw1 hok hq hn
  generalize Box.err st q = er at *
  go_enter Try.func33, Try.ntmps33
  go_wp2_with fail
  go_region_with
    (go_at_call 55
     refine (Hdo.out _).mono ?_
     rintro e w1 ⟨rfl, hb1⟩
     have k1 : w1.cell? ⟨gB, off + P * 4 + 1, none⟩ = some (.int .i64 st) := (hb1.cell (p := ⟨gB, off + P * 4 + 1, none⟩) hgB).trans c1
     have k2 : w1.cell? ⟨gB, off + P * 4 + 2, none⟩ = some (.int .i64 tr) := (hb1.cell (p := ⟨gB, off + P * 4 + 2, none⟩) hgB).trans c2
     have kf : ∀ o, w1.frozen? ⟨gB, o, none⟩ = false := fun o => (hb1.frozen (p := ⟨gB, o, none⟩) hgB).trans (hbf o))
  all_goals
    have hb : Below w.heap.size w w1 := (show Below w.heap.size w w.drew from (Below.refl _ _).drew).trans hb1
    have T := turn.out w1 hb
    have O1 : Ro.Only S w ((w1.setCell ⟨gB, off + P * 4 + 1, none⟩ (.int .i64 x)).setCell ⟨gB, off + P * 4 + 1 + 1, none⟩ (.int .i64 y)) := ((Ro.Only.of_below hb).trans (Ro.Only.setCell w1 _ _) (fun _ _ e => by rw [e]; exact hS)).trans (Ro.Only.setCell _ _ _) (fun _ _ e => by rw [e]; exact hS)
    obtain ⟨X, hX⟩ : ∃ X, X = ((w1.setCell ⟨gB, off + P * 4 + 1, none⟩ (.int .i64 x)).setCell ⟨gB, off + P * 4 + 1 + 1, none⟩ (.int .i64 y)) := ⟨_, rfl⟩
    rw [← hX] at T O1 ⊢
    clear hX k1 k2 kf hb1 hb
    have hPl : P < (s.bx.set P ⟨s.bx[P].id, x, y, s.bx[P].last⟩).length := by simpa using hP
    have hself : (s.bx.set P ⟨s.bx[P].id, x, y, s.bx[P].last⟩)[P] = ⟨s.bx[P].id, x, y, s.bx[P].last⟩ := List.getElem_set_self _
    obtain ⟨k1, k2, k3⟩ := crow_at T.b hPl
    dsimp only at k1 k2 k3
    rw [hself] at k1 k2 k3
    dsimp only at k1 k2 k3
    have kf := T.b.frozen
    have h5x : (x == 5) = decide (x = 5) := by
      by_cases h5 : x = 5
      · rw [decide_eq_true h5, h5]; rfl
      · rw [decide_eq_false h5]; exact beq_eq_false_iff_ne.2 h5
    cases well
    · have F := Lib.hid (fin.out ⟨s.bx[P].id, x, y, s.bx[P].last⟩ rfl)
      have mX : X.cell? ⟨g, 2, none⟩ = some (.slice (some ⟨gB, off, none⟩) nb cb) := T.blk.cell 2
      have gf := T.blk.frozen
      by_cases h5 : x = 5
      · rw [decide_eq_true h5] at h5x
        have HD := Lib.hid (delete_c (some ⟨gB, off, none⟩) nb cb P _ X T.b (by omega) (by omega))
        have hG : Hid (∀ e w5, DelSaid (some ⟨gB, off, none⟩) (nb - 1) cb ((s.bx.set P ⟨s.bx[P].id, x, y, s.bx[P].last⟩).take P ++ (s.bx.set P ⟨s.bx[P].id, x, y, s.bx[P].last⟩).drop (P + 1)) X e w5 → w5.cell? ⟨g, 2, none⟩ = some (.slice (some ⟨gB, off, none⟩) nb cb) ∧ (∀ o, w5.frozen? ⟨g, o, none⟩ = false) ∧ Post S w (w5.setCell ⟨g, 2, none⟩ (.slice (some ⟨gB, off, none⟩) (nb - 1) cb)) g { s with bx := doB s.bx P q false s.rt round }) := by
          intro e w5 hd
          have hP2 := do_gone T O1 hS hd
          obtain ⟨_, _, hO⟩ := hd
          obtain ⟨hb5, _, _⟩ := T.onlyB hO
          refine ⟨hb5.cell 2, hb5.frozen, ?_⟩
          rw [F.out, if_pos h5]
          rw [set_out] at hP2
          exact hP2
        clear T O1 fin F turn hself hPl h5
        go_wp2_with fail
        refine HD.out.mono ?_
        intro e w5 hd
        obtain ⟨q1, q2, q3⟩ := hG.out e w5 hd
        obtain ⟨rfl, _, _⟩ := hd
        have Q3 := Lib.hid q3
        clear q3 HD hG
        go_wp2_with fail
        refine bodyPost_end (results_none rfl _ _ _) rfl ⟨rfl, Q3.out⟩
      · rw [decide_eq_false h5] at h5x
        have Q3 : Hid (Post S w X g { s with bx := doB s.bx P q false s.rt round }) := by
          show Post _ _ _ _ _
          rw [F.out, if_neg h5]
          exact do_keep T O1
        clear T O1 fin F turn hself hPl h5
        go_wp2_with fail
        refine bodyPost_end (results_none rfl _ _ _) rfl ⟨rfl, Q3.out⟩
    · have F := Lib.hid (fin.out ⟨s.bx[P].id, x, y, round⟩ rfl)
      have T3 : AtL (X.setCell ⟨gB, off + P * 4 + 3, none⟩ (.int .i64 round)) g { s with bx := s.bx.set P ⟨s.bx[P].id, x, y, round⟩ } S AQ nq cq (some ⟨gB, off, none⟩) nb cb AI ni ci := by
        have h3 := T.turn (Ro.Only.setCell X ⟨gB, off + P * 4 + 3, none⟩ (.int .i64 round)) (crow3 T.b hPl round)
        rw [hself] at h3
        dsimp only at h3
        rw [List.set_set] at h3
        exact h3
      have O3 : Ro.Only S w (X.setCell ⟨gB, off + P * 4 + 3, none⟩ (.int .i64 round)) := O1.trans (Ro.Only.setCell _ _ _) (fun _ _ e => by rw [e]; exact hS)
      clear T O1
      have mX : (X.setCell ⟨gB, off + P * 4 + 3, none⟩ (.int .i64 round)).cell? ⟨g, 2, none⟩ = some (.slice (some ⟨gB, off, none⟩) nb cb) := T3.blk.cell 2
      have gf := T3.blk.frozen
      by_cases h5 : x = 5
      · rw [decide_eq_true h5] at h5x
        have HD := Lib.hid (delete_c (some ⟨gB, off, none⟩) nb cb P _ (X.setCell ⟨gB, off + P * 4 + 3, none⟩ (.int .i64 round)) T3.b (by omega) (by omega))
        have hG : Hid (∀ e w5, DelSaid (some ⟨gB, off, none⟩) (nb - 1) cb ((s.bx.set P ⟨s.bx[P].id, x, y, round⟩).take P ++ (s.bx.set P ⟨s.bx[P].id, x, y, round⟩).drop (P + 1)) (X.setCell ⟨gB, off + P * 4 + 3, none⟩ (.int .i64 round)) e w5 → w5.cell? ⟨g, 2, none⟩ = some (.slice (some ⟨gB, off, none⟩) nb cb) ∧ (∀ o, w5.frozen? ⟨g, o, none⟩ = false) ∧ Post S w (w5.setCell ⟨g, 2, none⟩ (.slice (some ⟨gB, off, none⟩) (nb - 1) cb)) g { s with bx := doB s.bx P q true s.rt round }) := by
          intro e w5 hd
          have hP2 := do_gone T3 O3 hS hd
          obtain ⟨_, _, hO⟩ := hd
          obtain ⟨hb5, _, _⟩ := T3.onlyB hO
          refine ⟨hb5.cell 2, hb5.frozen, ?_⟩
          rw [F.out, if_pos h5]
          rw [set_out] at hP2
          exact hP2
        clear T3 O3 fin F turn hself hPl h5
        go_wp2_with fail
        refine HD.out.mono ?_
        intro e w5 hd
        obtain ⟨q1, q2, q3⟩ := hG.out e w5 hd
        obtain ⟨rfl, _, _⟩ := hd
        have Q3 := Lib.hid q3
        clear q3 HD hG
        go_wp2_with fail
        refine bodyPost_end (results_none rfl _ _ _) rfl ⟨rfl, Q3.out⟩
      · rw [decide_eq_false h5] at h5x
        have Q3 : Hid (Post S w (X.setCell ⟨gB, off + P * 4 + 3, none⟩ (.int .i64 round)) g { s with bx := doB s.bx P q true s.rt round }) := by
          show Post _ _ _ _ _
          rw [F.out, if_neg h5]
          exact do_keep T3 O3
        clear T3 O3 fin F turn hself hPl h5
        go_wp2_with fail
        refine bodyPost_end (results_none rfl _ _ _) rfl ⟨rfl, Q3.out⟩
end Wo
end Go.Proofs.Ythccojfflmfggaa
