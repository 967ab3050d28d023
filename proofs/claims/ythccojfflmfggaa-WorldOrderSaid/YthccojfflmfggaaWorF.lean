/- The walks of layer 16 (world): what is asked of a container; its image is pulled. -/
import Derived.Test.YthccojfflmfggaaWorE
import Derived.Test.YthccojfflmfggaaImgW
namespace Go.Proofs.Ythccojfflmfggaa
open Go.RowKit
namespace Wo
theorem errM_zero {bx : List ConV} {id : ByteArray} {q : Int} (hr : Str.Rises (ids bx)) (h : errM bx id q = 0) : Str.has (ids bx) id = true ∧ ∃ hl : Str.pos (ids bx) id < bx.length, Box.nxt bx[Str.pos (ids bx) id].st q ≠ 0 := by
  cases hh : Str.has (ids bx) id
  · unfold errM at h
    rw [the_none hh] at h
    cases h
  · obtain ⟨hl, ht, _⟩ := the_some hr hh
    refine ⟨rfl, hl, ?_⟩
    unfold errM at h
    rw [ht] at h
    dsimp only at h
    intro hz
    rw [if_pos hz] at h
    cases h
theorem errM_val (bx : List ConV) (id : ByteArray) (q : Int) : errM bx id q = 0 ∨ errM bx id q = 4 ∨ errM bx id q = 7 := by
  unfold errM
  cases the bx id with
  | none => exact .inr (.inl rfl)
  | some p => dsimp only; split <;> simp
theorem Good.take {s : St} (h : Good s) : Good { s with outs := s.outs.tail } := ⟨h.rb, h.ri, h.ok, h.nb, h.ni, by have := h.no; simp; omega⟩
/-- what asking answers -/
def askE (s : St) (id : ByteArray) (q : Int) : Int := if errM s.bx id q = 0 then (if q = 1 then 7 else 0) else errM s.bx id q
def askS (s : St) (id : ByteArray) (q round : Int) : St := { s with outs := s.outs.tail, bx := doB s.bx (Str.pos (ids s.bx) id) q (tk s.outs) s.rt round }
set_option maxRecDepth 100000 in
set_option maxHeartbeats 4000000 in
theorem wask_c (g : Nat) (s : St) (S : Nat → Prop) (id : ByteArray) (q round : Int) (w : World) (h : At w g s S) (hs : Good s) (hq : (Lit.int .i64 q).wf = true) :
    Calls Try.prog 18 #[.pointer (some ⟨g, 0, none⟩), .string id, .int .i64 q, .int .i64 round] w fun e w' => (askE s id q ≠ 0 → e = .returned (.tuple #[.bool false, .int .i64 (askE s id q)]) ∧ Post S w w' g s) ∧ (askE s id q = 0 → e = .returned (.tuple #[.bool (tk s.outs), .int .i64 0]) ∧ Post S w w' g (askS s id q round)) := by
  have hm := Lib.hid (wmay_c g s S id q w h hs hq)
  have hb := Lib.hid (fun w' (hb : Below w.heap.size w w') => Post.of_below h hb)
  have hev := errM_val s.bx id q
  by_cases h0 : errM s.bx id q = 0
  · by_cases h1 : q = 1
    · have hE : askE s id q = 7 := by unfold askE; rw [if_pos h0, if_pos h1]
      rw [hE]
      rw [h0] at hm
      have d1 : (q == 1) = true := beq_iff_eq.2 h1
      generalize plM s.bx id q = L at *
      clear h hs hE h0 hev hq h1
      go_enter Try.func18, Try.ntmps18
      go_wp2_with fail
      refine hm.out.mono ?_
      rintro e w1 ⟨rfl, hb1⟩
      have P1 := Lib.hid (hb.out _ hb1)
      clear hm hb hb1
      go_wp2_with fail
      go_ret2
      exact ⟨fun _ => ⟨rfl, P1.out⟩, fun c => by (cases c)⟩
    · have hE : askE s id q = 0 := by unfold askE; rw [if_pos h0, if_neg h1]
      obtain ⟨hh, hl, hn⟩ := errM_zero hs.rb h0
      have hP : plM s.bx id q = (Str.pos (ids s.bx) id : Int) := by unfold plM; rw [if_pos h0]
      rw [hE]
      rw [h0, hP] at hm
      have d1 : (q == 1) = false := beq_eq_false_iff_ne.2 h1
      have hA : Hid (∀ w', Below w.heap.size w w' → At w' g s (ext S w w')) := fun w' hb1 => (hb.out w' hb1).at_
      have hdo : Hid (∀ w2 S2, At w2 g { s with outs := s.outs.tail } S2 → Calls Try.prog 33 #[.pointer (some ⟨g, 0, none⟩), .int .i64 (Str.pos (ids s.bx) id), .int .i64 q, .bool (tk s.outs), .int .i64 round] w2 fun e w' => e = .returned (.tuple #[]) ∧ Post S2 w2 w' g (askS s id q round)) :=
        fun w2 S2 h2 => wdo_c g { s with outs := s.outs.tail } S2 (Str.pos (ids s.bx) id) q (tk s.outs) round w2 h2 hs.take hl hq hn
      have htk : Hid (∀ w1 S1, At w1 g s S1 → Calls Try.prog 32 #[.pointer (some ⟨g, 0, none⟩)] w1 fun e w' => e = .returned (.bool (tk s.outs)) ∧ Post S1 w1 w' g { s with outs := s.outs.tail }) := fun w1 S1 h1 => take_c g s S1 w1 h1
      generalize askS s id q round = s2 at *
      generalize Str.pos (ids s.bx) id = P at *
      generalize tk s.outs = well at *
      obtain ⟨s1, hs1⟩ : ∃ s1 : St, s1 = { s with outs := s.outs.tail } := ⟨_, rfl⟩
      rw [← hs1] at hdo htk
      clear h hs hE h0 hev hq h1 hh hn hP hs1
      go_enter Try.func18, Try.ntmps18
      go_wp2_with fail
      refine hm.out.mono ?_
      rintro e w1 ⟨rfl, hb1⟩
      have P1 := Lib.hid (hb.out _ hb1)
      clear hm
      go_wp2_with fail
      refine (htk.out _ _ P1.out.at_).mono ?_
      rintro e w2 ⟨rfl, hP2⟩
      have P2 := Lib.hid (P1.out.trans hP2)
      clear hP2
      go_wp2_with fail
      refine (hdo.out _ _ P2.out.at_).mono ?_
      rintro e w3 ⟨rfl, hP3⟩
      have P3 := Lib.hid (P2.out.trans hP3)
      clear hP3
      go_wp2_with fail
      go_ret2
      exact ⟨fun c => absurd rfl c, fun _ => ⟨rfl, P3.out⟩⟩
  · have hE : askE s id q = errM s.bx id q := by unfold askE; rw [if_neg h0]
    rw [hE]
    have d0 : (errM s.bx id q == 0) = false := beq_eq_false_iff_ne.2 h0
    have h0' := Lib.hid h0
    generalize plM s.bx id q = L at *
    generalize errM s.bx id q = E at *
    clear h hs hE h0 hev hq
    go_enter Try.func18, Try.ntmps18
    go_wp2_with fail
    refine hm.out.mono ?_
    rintro e w1 ⟨rfl, hb1⟩
    have P1 := Lib.hid (hb.out _ hb1)
    clear hm hb hb1
    go_wp2_with fail
    go_ret2
    exact ⟨fun _ => ⟨rfl, P1.out⟩, fun c => absurd c h0'.out⟩
theorem post_setI {w w6 : World} {g : Nat} {s : St} {S : Nat → Prop} {A' : Option Addr} {n' c' : Nat} {im' : List ImgV} (h : At w g s S) (hb : Below w.heap.size w w6) (hR : IRow w6 A' n' c' im') (hA : ∀ b, Ro.blk A' = some b → w.heap.size ≤ b) :
    (∃ v, w6.cell? ⟨g, 3, none⟩ = some v) ∧ (∀ o, w6.frozen? ⟨g, o, none⟩ = false) ∧ Post S w (w6.setCell ⟨g, 3, none⟩ (.slice A' n' c')) g { s with im := im' } := by
  obtain ⟨AQ, nq, cq, AB, nb, cb, AI, ni, ci, h⟩ := h
  have h1 := h.keep (w' := w6) (fun k hk _ => hb.block k hk)
  refine ⟨⟨_, h1.blk.cell 3⟩, h1.blk.frozen, ?_⟩
  have h2 : AtL w6 g s (ext S w w6) AQ nq cq AB nb cb AI ni ci := h1.mono fun _ _ c => .inl c
  have h3 := h2.setI hR (fun k hk => .inr ⟨hA k hk, Ro.Row.lt hR hk⟩)
  refine ⟨(show At _ g _ (ext S w w6) from ⟨_, _, _, _, _, _, _, _, _, h3⟩).mono fun k _ c => ?_, (Ro.Only.of_below hb).trans (Ro.Only.setCell _ _ _) fun k _ e => by rw [e]; exact h.sg⟩
  rcases c with c | c
  · exact .inl c
  · exact .inr ⟨c.1, by simpa using c.2⟩
/-- what pulling answers -/
def pullW (s : St) (name : ByteArray) : Bool := if Str.has (nms s.im) name then true else tk s.outs
def pullS (s : St) (id name : ByteArray) (size round : Int) : St := { s with outs := if Str.has (nms s.im) name then s.outs else s.outs.tail, bx := doB s.bx (Str.pos (ids s.bx) id) 1 (pullW s name) s.rt round, im := if pullW s name then putI s.im name size round else s.im }
set_option maxRecDepth 100000 in
set_option maxHeartbeats 4000000 in
theorem wpull_c (g : Nat) (s : St) (S : Nat → Prop) (id name : ByteArray) (size round : Int) (w : World) (h : At w g s S) (hs : Good s) :
    Calls Try.prog 15 #[.pointer (some ⟨g, 0, none⟩), .string id, .string name, .int .i64 size, .int .i64 round] w fun e w' => (errM s.bx id 1 ≠ 0 → e = .returned (.tuple #[.bool false, .bool false, .int .i64 (errM s.bx id 1)]) ∧ Post S w w' g s) ∧ (errM s.bx id 1 = 0 → e = .returned (.tuple #[.bool (pullW s name), .bool (pullW s name && !Str.has (nms s.im) name), .int .i64 0]) ∧ Post S w w' g (pullS s id name size round)) := by
  have hm := Lib.hid (wmay_c g s S id 1 w h hs (by decide))
  have hb := Lib.hid (fun w' (hb : Below w.heap.size w w') => Post.of_below h hb)
  by_cases h0 : errM s.bx id 1 = 0
  · obtain ⟨hh, hl, hn⟩ := errM_zero hs.rb h0
    have hP : plM s.bx id 1 = (Str.pos (ids s.bx) id : Int) := by unfold plM; rw [if_pos h0]
    rw [h0, hP] at hm
    rw [h0]
    have htk : Hid (∀ X, Below w.heap.size w X → Calls Try.prog 32 #[.pointer (some ⟨g, 0, none⟩)] X fun e w' => e = .returned (.bool (tk s.outs)) ∧ Post S w w' g { s with outs := s.outs.tail }) :=
      fun X hX => (take_c g s _ X (hb.out X hX).at_).mono fun e w' h2 => ⟨h2.1, (hb.out X hX).trans h2.2⟩
    have hdo : Hid (∀ w3 well, Post S w w3 g { s with outs := s.outs.tail } → Calls Try.prog 33 #[.pointer (some ⟨g, 0, none⟩), .int .i64 (Str.pos (ids s.bx) id), .int .i64 1, .bool well, .int .i64 round] w3 fun e w' => e = .returned (.tuple #[]) ∧ Post S w w' g { s with outs := s.outs.tail, bx := doB s.bx (Str.pos (ids s.bx) id) 1 well s.rt round }) :=
      fun w3 well h3 => (wdo_c g { s with outs := s.outs.tail } _ (Str.pos (ids s.bx) id) 1 well round w3 h3.at_ hs.take hl (by decide) hn).mono fun e w' h2 => ⟨h2.1, h3.trans h2.2⟩
    have hdo0 : Hid (∀ X well, Below w.heap.size w X → Calls Try.prog 33 #[.pointer (some ⟨g, 0, none⟩), .int .i64 (Str.pos (ids s.bx) id), .int .i64 1, .bool well, .int .i64 round] X fun e w' => e = .returned (.tuple #[]) ∧ Post S w w' g { s with bx := doB s.bx (Str.pos (ids s.bx) id) 1 well s.rt round }) :=
      fun X well hX => (wdo_c g s _ (Str.pos (ids s.bx) id) 1 well round X (hb.out X hX).at_ hs hl (by decide) hn).mono fun e w' h2 => ⟨h2.1, (hb.out X hX).trans h2.2⟩
    have hri := hs.ri
    have hni := hs.ni
    obtain ⟨AQ, nq, cq, AB, nb, cb, AI, ni, ci, hL⟩ := h
    have hlen := hL.lens.2.2
    have m3 : w.cell? ⟨g, 3, none⟩ = some (.slice AI ni ci) := hL.blk.cell 3
    have hg := hL.blk.lt
    have hfind : Hid (∀ w1, Below w.heap.size w w1 → Calls Try.prog 31 #[.slice AI ni ci, .string name] w1 fun e w' => ∃ p : ImgV, e = .returned (.tuple #[.agg p.arr, .bool (Str.has (nms s.im) name)]) ∧ Below w1.heap.size w1 w') :=
      fun w1 hb1 => find_c AI ni ci s.im name w1 ((hL.i.sl.below hb1).more hb1.size) hri hlen (by omega)
    clear hL hs hn hh hP h0 hl
    cases hth : Str.has (nms s.im) name
    · have hW : pullW s name = tk s.outs := by unfold pullW; rw [hth]; rfl
      have eS : pullS s id name size round = { s with outs := s.outs.tail, bx := doB s.bx (Str.pos (ids s.bx) id) 1 (tk s.outs) s.rt round, im := if tk s.outs then putI s.im name size round else s.im } := by
        unfold pullS
        rw [hW, hth]
        rfl
      rw [hW]
      rw [hth] at hfind
      have hfin : Hid (∀ w', Post S w w' g { s with outs := s.outs.tail, bx := doB s.bx (Str.pos (ids s.bx) id) 1 (tk s.outs) s.rt round, im := if tk s.outs then putI s.im name size round else s.im } ↔ Post S w w' g (pullS s id name size round)) := by
        intro w'
        rw [eS]
      clear hth hW hdo0 eS
      generalize pullS s id name size round = sf at *
      generalize Str.pos (ids s.bx) id = P at *
      obtain ⟨tb, htb⟩ : ∃ tb, tb = tk s.outs := ⟨_, rfl⟩
      rw [← htb] at hfin htk ⊢
      clear htb
      cases tb
      · simp only [Bool.false_eq_true, if_false, if_true] at hfin
        obtain ⟨s2, hs2⟩ : ∃ s2 : St, s2 = { s with outs := s.outs.tail, bx := doB s.bx P 1 false s.rt round } := ⟨_, rfl⟩
        have hs2i : Hid (s2.im = s.im) := by rw [hs2]; rfl
        have hdo2 : Hid (∀ w3, Post S w w3 g { s with outs := s.outs.tail } → Calls Try.prog 33 #[.pointer (some ⟨g, 0, none⟩), .int .i64 P, .int .i64 1, .bool false, .int .i64 round] w3 fun e w' => e = .returned (.tuple #[]) ∧ Post S w w' g s2) := by rw [hs2]; exact fun w3 h3 => hdo.out w3 false h3
        have hfin : Hid (∀ w', Post S w w' g s2 ↔ Post S w w' g sf) := by rw [hs2]; exact hfin.out
        clear hdo hs2
        go_enter Try.func15, Try.ntmps15
        go_wp2_with fail
        refine hm.out.mono ?_
        rintro e w1 ⟨rfl, hb1⟩
        have m13 : w1.cell? ⟨g, 3, none⟩ = some (.slice AI ni ci) := (hb1.cell (p := ⟨g, 3, none⟩) hg).trans m3
        clear hm
        go_wp2_with fail
        refine (hfind.out w1 hb1).mono ?_
        rintro e w2 ⟨⟨pn, ps, pl⟩, rfl, hb2⟩
        have B2 : Below w.heap.size w w2 := hb1.trans (hb2.mono hb1.size)
        unfold ImgV.arr
        dsimp only
        have hz := B2.size
        clear hfind m13 hb1 hb2
        go_wp2_with fail
        refine (htk.out _ ?hb).mono ?_
        case hb => exact B2.alloc hz _
        rintro e w3 ⟨rfl, hP3⟩
        have P3 := Lib.hid hP3
        clear hP3 htk
        go_wp2_with fail
        refine (hdo2.out _ P3.out).mono ?_
        rintro e w4 ⟨rfl, hP4⟩
        have P4 := Lib.hid hP4
        clear hP4 hdo2
        go_wp2_with fail
        go_ret3
        exact ⟨fun c => absurd rfl c, fun _ => ⟨rfl, (hfin.out _).mp P4.out⟩⟩
      · simp only [Bool.false_eq_true, if_false, if_true] at hfin
        obtain ⟨s2, hs2⟩ : ∃ s2 : St, s2 = { s with outs := s.outs.tail, bx := doB s.bx P 1 true s.rt round } := ⟨_, rfl⟩
        have hs2i : Hid (s2.im = s.im) := by rw [hs2]; rfl
        have hdo2 : Hid (∀ w3, Post S w w3 g { s with outs := s.outs.tail } → Calls Try.prog 33 #[.pointer (some ⟨g, 0, none⟩), .int .i64 P, .int .i64 1, .bool true, .int .i64 round] w3 fun e w' => e = .returned (.tuple #[]) ∧ Post S w w' g s2) := by rw [hs2]; exact fun w3 h3 => hdo.out w3 true h3
        have hfin : Hid (∀ w', Post S w w' g { s2 with im := putI s.im name size round } ↔ Post S w w' g sf) := by rw [hs2]; exact hfin.out
        clear hdo hs2
        go_enter Try.func15, Try.ntmps15
        go_wp2_with fail
        refine hm.out.mono ?_
        rintro e w1 ⟨rfl, hb1⟩
        have m13 : w1.cell? ⟨g, 3, none⟩ = some (.slice AI ni ci) := (hb1.cell (p := ⟨g, 3, none⟩) hg).trans m3
        clear hm
        go_wp2_with fail
        refine (hfind.out w1 hb1).mono ?_
        rintro e w2 ⟨⟨pn, ps, pl⟩, rfl, hb2⟩
        have B2 : Below w.heap.size w w2 := hb1.trans (hb2.mono hb1.size)
        unfold ImgV.arr
        dsimp only
        have hz := B2.size
        clear hfind m13 hb1 hb2
        go_wp2_with fail
        refine (htk.out _ ?hb).mono ?_
        case hb => exact B2.alloc hz _
        rintro e w3 ⟨rfl, hP3⟩
        have P3 := Lib.hid hP3
        clear hP3 htk
        go_wp2_with fail
        refine (hdo2.out _ P3.out).mono ?_
        rintro e w4 ⟨rfl, hP4⟩
        have P4 := Lib.hid hP4
        clear hP4 hdo2
        obtain ⟨AQ4, nq4, cq4, AB4, nb4, cb4, AI4, ni4, ci4, h4⟩ := P4.out.at_
        have m43 : w4.cell? ⟨g, 3, none⟩ = some (.slice AI4 ni4 ci4) := h4.blk.cell 3
        have hput := Lib.hid (put_c AI4 ni4 ci4 s2.im name size round w4 h4.i.sl (by rw [hs2i.out]; exact hri) h4.lens.2.2 (by have := h4.lens.2.2; rw [hs2i.out] at this; omega) (row_nil h4.i))
        rw [hs2i.out] at hput
        clear h4
        go_wp2_with fail
        refine hput.out.mono ?_
        rintro e w5 ⟨A5, c5, rfl, hR5, hb5, hA5⟩
        obtain ⟨⟨v5, hv5⟩, hf5, hP5⟩ := post_setI P4.out.at_ hb5 hR5 hA5
        have P5 := Lib.hid (P4.out.trans hP5)
        clear hP5 hput
        go_wp2_with fail
        go_ret3
        exact ⟨fun c => absurd rfl c, fun _ => ⟨rfl, (hfin.out _).mp P5.out⟩⟩
    · have hW : pullW s name = true := by unfold pullW; rw [hth]; rfl
      have eS : pullS s id name size round = { s with bx := doB s.bx (Str.pos (ids s.bx) id) 1 true s.rt round, im := putI s.im name size round } := by
        unfold pullS
        rw [hW, hth]
        rfl
      rw [hW]
      rw [hth] at hfind
      have hfin : Hid (∀ w', Post S w w' g { s with bx := doB s.bx (Str.pos (ids s.bx) id) 1 true s.rt round, im := putI s.im name size round } ↔ Post S w w' g (pullS s id name size round)) := by
        intro w'
        rw [eS]
      clear hth hW hdo htk eS
      generalize pullS s id name size round = sf at *
      generalize Str.pos (ids s.bx) id = P at *
      obtain ⟨s2, hs2⟩ : ∃ s2 : St, s2 = { s with bx := doB s.bx P 1 true s.rt round } := ⟨_, rfl⟩
      have hs2i : Hid (s2.im = s.im) := by rw [hs2]; rfl
      have hdo2 : Hid (∀ X, Below w.heap.size w X → Calls Try.prog 33 #[.pointer (some ⟨g, 0, none⟩), .int .i64 P, .int .i64 1, .bool true, .int .i64 round] X fun e w' => e = .returned (.tuple #[]) ∧ Post S w w' g s2) := by rw [hs2]; exact fun X h3 => hdo0.out X true h3
      have hfin : Hid (∀ w', Post S w w' g { s2 with im := putI s.im name size round } ↔ Post S w w' g sf) := by rw [hs2]; exact hfin.out
      clear hdo0 hs2
      go_enter Try.func15, Try.ntmps15
      go_wp2_with fail
      refine hm.out.mono ?_
      rintro e w1 ⟨rfl, hb1⟩
      have m13 : w1.cell? ⟨g, 3, none⟩ = some (.slice AI ni ci) := (hb1.cell (p := ⟨g, 3, none⟩) hg).trans m3
      clear hm
      go_wp2_with fail
      refine (hfind.out w1 hb1).mono ?_
      rintro e w2 ⟨⟨pn, ps, pl⟩, rfl, hb2⟩
      have B2 : Below w.heap.size w w2 := hb1.trans (hb2.mono hb1.size)
      unfold ImgV.arr
      dsimp only
      have hz := B2.size
      clear hfind m13 hb1 hb2
      go_wp2_with fail
      refine (hdo2.out _ ?hb).mono ?_
      case hb => exact B2.alloc hz _
      rintro e w4 ⟨rfl, hP4⟩
      have P4 := Lib.hid hP4
      clear hP4 hdo2
      obtain ⟨AQ4, nq4, cq4, AB4, nb4, cb4, AI4, ni4, ci4, h4⟩ := P4.out.at_
      have m43 : w4.cell? ⟨g, 3, none⟩ = some (.slice AI4 ni4 ci4) := h4.blk.cell 3
      have hput := Lib.hid (put_c AI4 ni4 ci4 s2.im name size round w4 h4.i.sl (by rw [hs2i.out]; exact hri) h4.lens.2.2 (by have := h4.lens.2.2; rw [hs2i.out] at this; omega) (row_nil h4.i))
      rw [hs2i.out] at hput
      clear h4
      go_wp2_with fail
      refine hput.out.mono ?_
      rintro e w5 ⟨A5, c5, rfl, hR5, hb5, hA5⟩
      obtain ⟨⟨v5, hv5⟩, hf5, hP5⟩ := post_setI P4.out.at_ hb5 hR5 hA5
      have P5 := Lib.hid (P4.out.trans hP5)
      clear hP5 hput
      go_wp2_with fail
      go_ret3
      exact ⟨fun c => absurd rfl c, fun _ => ⟨rfl, (hfin.out _).mp P5.out⟩⟩
  · have h0' := Lib.hid h0
    have d0 : (errM s.bx id 1 == 0) = false := beq_eq_false_iff_ne.2 h0
    generalize plM s.bx id 1 = L at *
    generalize errM s.bx id 1 = E at *
    clear h hs h0
    go_enter Try.func15, Try.ntmps15
    go_wp2_with fail
    refine hm.out.mono ?_
    rintro e w1 ⟨rfl, hb1⟩
    have P1 := Lib.hid (hb.out _ hb1)
    clear hm hb hb1
    go_wp2_with fail
    go_ret3
    exact ⟨fun _ => ⟨rfl, P1.out⟩, fun c => absurd c h0'.out⟩
end Wo
end Go.Proofs.Ythccojfflmfggaa
