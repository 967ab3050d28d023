/- The walks of layer 15 (image): find, put, drop. -/
import Derived.Test.YthccojfflmfggaaMgW4
namespace Go.Proofs.Ythccojfflmfggaa
open Go.RowKit
namespace Wo
set_option maxRecDepth 100000 in
theorem iat_c (A : Option Addr) (n c : Nat) (im : List ImgV) (s : ByteArray) (w : World) (h : Mem.Sl w w.heap.size 3 A n (ImgV.flat im)) (hr : Str.Rises (nms im)) (hlen : im.length = n) (hn : n ≤ 1000000) :
    Calls Try.prog 54 #[.slice A n c, .string s] w fun e w' => e = .returned (.tuple #[.int .i64 (Str.pos (nms im) s), .bool (Str.has (nms im) s)]) ∧ Below w.heap.size w w' := by
  have hc := Lib.hid (isearch_c A n c im s w h hr hlen hn)
  generalize Str.pos (nms im) s = P at *
  generalize Str.has (nms im) s = F at *
  clear h hr
  go_enter Try.func54, Try.ntmps54
  go_wp2_with fail
  refine hc.out.mono ?_
  rintro e w' ⟨rfl, h2⟩
  go_wp2_with fail
  go_ret2
  exact ⟨rfl, h2⟩
/-- an image of a name -/
def theI (im : List ImgV) (s : ByteArray) : Option ImgV := if Str.has (nms im) s then im[Str.pos (nms im) s]? else none
theorem theI_some {im : List ImgV} {s : ByteArray} (hr : Str.Rises (nms im)) (h : Str.has (nms im) s = true) : ∃ (hl : Str.pos (nms im) s < im.length), theI im s = some im[Str.pos (nms im) s] ∧ im[Str.pos (nms im) s].name = s := by
  obtain ⟨hp, e⟩ := Str.has_at hr h
  have hl : Str.pos (nms im) s < im.length := by rw [nms_len] at hp; exact hp
  refine ⟨hl, ?_, ?_⟩
  · unfold theI
    rw [h, if_pos rfl, List.getElem?_eq_getElem hl]
  · rw [← nms_at hl hp]; exact e
theorem theI_none {im : List ImgV} {s : ByteArray} (h : Str.has (nms im) s = false) : theI im s = none := by
  unfold theI
  rw [h]
  rfl
set_option maxRecDepth 100000 in
set_option maxHeartbeats 1000000 in
theorem find_c (A : Option Addr) (n c : Nat) (im : List ImgV) (s : ByteArray) (w : World) (h : Mem.Sl w w.heap.size 3 A n (ImgV.flat im)) (hr : Str.Rises (nms im)) (hlen : im.length = n) (hn : n ≤ 1000000) :
    Calls Try.prog 31 #[.slice A n c, .string s] w fun e w' => ∃ p : ImgV, e = .returned (.tuple #[.agg p.arr, .bool (Str.has (nms im) s)]) ∧ Below w.heap.size w w' := by
  have hat := fun w' (hb : Below w.heap.size w w') => iat_c A n c im s w' ((h.below hb).more hb.size) hr hlen hn
  cases hh : Str.has (nms im) s
  · rw [hh] at hat
    have Hat := Lib.hid hat
    generalize Str.pos (nms im) s = P at *
    clear h hr hh hat
    go_enter Try.func31, Try.ntmps31
    go_wp2_with fail
    refine (Hat.out _ ((Below.refl _ _).alloc (Nat.le_refl _) _)).mono ?_
    rintro e w1 ⟨rfl, hb1⟩
    have N1 := Mem.Blk.belowS (Mem.Blk.new (w := w) (t := 54) (cs := #[.string ⟨#[]⟩, .int .i64 0, .int .i64 0])) hb1
    have hr0 : w1.cell? ⟨w.heap.size, 0, none⟩ = some (.string ⟨#[]⟩) := N1.cell 0
    have hr1 : w1.cell? ⟨w.heap.size, 1, none⟩ = some (.int .i64 0) := N1.cell 1
    have hr2 : w1.cell? ⟨w.heap.size, 2, none⟩ = some (.int .i64 0) := N1.cell 2
    have hf1 := N1.frozen
    have hbl : Below w.heap.size w w1 := ((Below.refl _ _).alloc (Nat.le_refl _) _).trans (hb1.mono (by simp))
    clear N1 hb1 Hat
    go_wp2_with fail
    refine bodyPost_ret (v := .tuple #[.agg #[.string ⟨#[]⟩, .int .i64 0, .int .i64 0], .bool false]) (by simp [results, Try.results31, go_sem, hr0, hr1, hr2]) rfl ⟨⟨⟨#[]⟩, 0, 0⟩, rfl, ?_⟩
    exact ((hbl.setCell (by simp) _).setCell (by simp) _).setCell (by simp) _
  · obtain ⟨hl, ht, _⟩ := theI_some hr hh
    rw [hh] at hat
    have Hat := Lib.hid hat
    obtain ⟨ad, hl2, rfl, hbk, _, hc⟩ := ImgV.at_ h (k := Str.pos (nms im) s) (by omega)
    obtain ⟨q, hq⟩ : ∃ q, q = im[Str.pos (nms im) s] := ⟨_, rfl⟩
    rw [← hq] at hc
    clear hq ht hh hat
    obtain ⟨P, hP⟩ : ∃ P, P = Str.pos (nms im) s := ⟨_, rfl⟩
    rw [← hP] at Hat hc hl hl2
    clear hP
    obtain ⟨qi, qs, ql⟩ := q
    have hP : P < n := by omega
    clear h hr hl2 hl
    go_enter Try.func31, Try.ntmps31
    go_wp2_with fail
    refine (Hat.out _ ((Below.refl _ _).alloc (Nat.le_refl _) _)).mono ?_
    rintro e w1 ⟨rfl, hb1⟩
    have N1 := Mem.Blk.belowS (Mem.Blk.new (w := w) (t := 54) (cs := #[.string ⟨#[]⟩, .int .i64 0, .int .i64 0])) hb1
    have hr0 : w1.cell? ⟨w.heap.size, 0, none⟩ = some (.string ⟨#[]⟩) := N1.cell 0
    have hr1 : w1.cell? ⟨w.heap.size, 1, none⟩ = some (.int .i64 0) := N1.cell 1
    have hr2 : w1.cell? ⟨w.heap.size, 2, none⟩ = some (.int .i64 0) := N1.cell 2
    have hf1 := N1.frozen
    have hbl : Below w.heap.size w w1 := ((Below.refl _ _).alloc (Nat.le_refl _) _).trans (hb1.mono (by simp))
    have hc' := hc.below hbl (by rw [Mem.add_block]; exact hbk)
    obtain ⟨c0, c1, c2⟩ := hc'
    dsimp only at c0 c1 c2
    clear N1 hb1 hc Hat
    go_wp2_with fail
    refine bodyPost_ret (v := .tuple #[.agg #[.string qi, .int .i64 qs, .int .i64 ql], .bool true]) (by simp [results, Try.results31, go_sem, hr0, hr1, hr2]) rfl ⟨⟨qi, qs, ql⟩, rfl, ?_⟩
    exact ((hbl.setCell (by simp) _).setCell (by simp) _).setCell (by simp) _
/-- the images with one more, or one used later -/
def putI (im : List ImgV) (s : ByteArray) (size round : Int) : List ImgV := if Str.has (nms im) s then im.set (Str.pos (nms im) s) ⟨s, (im.getD (Str.pos (nms im) s) ⟨s, 0, 0⟩).size, round⟩ else im.take (Str.pos (nms im) s) ++ ⟨s, size, round⟩ :: im.drop (Str.pos (nms im) s)
theorem flati_mid {im : List ImgV} {P : Nat} (h : P < im.length) : ImgV.flat im = ImgV.flat (im.take P) ++ (im[P].cells ++ ImgV.flat (im.drop (P + 1))) := by
  rw [← ImgV.flat_cons, ← ImgV.flat_app, ← List.drop_eq_getElem_cons h, List.take_append_drop]
theorem flati_set2 {im : List ImgV} {P : Nat} (h : P < im.length) (z : Int) : (ImgV.flat im).set (P * 3 + 2) (.int .i64 z) = ImgV.flat (im.set P ⟨im[P].name, im[P].size, z⟩) := by
  have e : im.set P ⟨im[P].name, im[P].size, z⟩ = im.take P ++ ⟨im[P].name, im[P].size, z⟩ :: im.drop (P + 1) := by
    rw [List.set_eq_take_append_cons_drop, if_pos h]
  have hl : (ImgV.flat (im.take P)).length = P * 3 := by rw [ImgV.flat_len, List.length_take]; congr 1; omega
  rw [e, ImgV.flat_app, ImgV.flat_cons, flati_mid h, List.set_append_right _ _ (by omega), hl, Nat.add_sub_cancel_left]
  rfl
/-- new images -/
def NewI (n : Nat) (im : List ImgV) (w : World) (e : Ending) (w' : World) : Prop := ∃ A' c', e = .returned (.slice A' n c') ∧ IRow w' A' n c' im ∧ Below w.heap.size w w' ∧ ∀ b, Ro.blk A' = some b → w.heap.size ≤ b
set_option maxRecDepth 100000 in
set_option maxHeartbeats 4000000 in
theorem put_c (A : Option Addr) (n c : Nat) (im : List ImgV) (s : ByteArray) (size round : Int) (w : World) (h : Mem.Sl w w.heap.size 3 A n (ImgV.flat im)) (hr : Str.Rises (nms im)) (hlen : im.length = n) (hn : n ≤ 100000) (hA : A = none → n = 0 ∧ c = 0) :
    Calls Try.prog 34 #[.slice A n c, .string s, .int .i64 size, .int .i64 round] w (NewI (putI im s size round).length (putI im s size round) w) := by
  have hat := iat_c A n c im s w h hr hlen (by omega)
  have hcl := Lib.hid (fun w' (hb : Below w.heap.size w w') => clonei_c A n c im w' ((h.below hb).more hb.size) (by omega) hA)
  have hpl : Str.pos (nms im) s ≤ n := by have := Str.pos_le (nms im) s; rw [nms_len] at this; omega
  cases hh : Str.has (nms im) s
  · have hI : Hid (putI im s size round = im.take (Str.pos (nms im) s) ++ ⟨s, size, round⟩ :: im.drop (Str.pos (nms im) s)) := by
      show _ = _
      unfold putI
      rw [hh, if_neg (by decide)]
    have hL : Hid ((putI im s size round).length = n + 1) := by
      show _ = _
      rw [hI.out]
      simp
      omega
    rw [hh] at hat
    have Hat := Lib.hid hat
    obtain ⟨P, hP⟩ : ∃ P, P = Str.pos (nms im) s := ⟨_, rfl⟩
    rw [← hP] at Hat hpl hI
    generalize putI im s size round = im' at *
    clear h hr hh hat hP
    go_enter Try.func34, Try.ntmps34
    go_wp2_with fail
    refine Hat.out.mono ?_
    rintro e w1 ⟨rfl, hb1⟩
    go_wp2_with fail
    refine (hcl.out _ hb1).mono ?_
    rintro e w2 ⟨A2, c2, rfl, hR2, hb2, hA2⟩
    have B2 : Below w.heap.size w w2 := hb1.trans (hb2.mono hb1.size)
    have hA3 := Lib.hid hA2
    have hz := B2.size
    have hz1 := hb1.size
    clear Hat hb1 hb2 hcl hA2
    go_wp2_with fail
    refine (inserti_c A2 n c2 P w2.heap.size im ⟨s, size, round⟩ _ (Ro.Row.keep hR2 fun k hk => Below.heap_alloc w2 _ k (Ro.Row.lt hR2 hk)) hpl Mem.Blk.new (fun c => by have := Ro.Row.lt hR2 c; omega) (by omega)).mono ?_
    rintro e w3 ⟨A3, c3, rfl, hR3, hO3, hb3⟩
    have B3 : Below w.heap.size w w3 := (B2.alloc hz _).trans (hO3.below (by simp; omega) (fun k hk e => by have := hA3.out k e; omega))
    go_wp2_with fail
    go_ret
    rw [hL.out, hI.out]
    refine ⟨A3, c3, rfl, hR3, B3, fun b hb => ?_⟩
    rcases hb3 with hb3 | ⟨k, hk, hk2⟩
    · rw [hb3] at hb; have := hA3.out b hb; omega
    · have : k = b := by rw [hk] at hb; simpa using hb
      simp at hk2
      omega
  · obtain ⟨hl, ht, hnm⟩ := theI_some hr hh
    have hI0 : ∀ (P : Nat) (_ : P = Str.pos (nms im) s) (hl : P < im.length), putI im s size round = im.set P ⟨im[P].name, im[P].size, round⟩ := by
      rintro _ rfl _
      unfold putI
      rw [hh, if_pos rfl, List.getD_eq_getElem?_getD, List.getElem?_eq_getElem hl, Option.getD_some, hnm]
    have hL : Hid ((putI im s size round).length = n) := by
      show _ = _
      rw [hI0 _ rfl hl]
      simpa using hlen
    rw [hh] at hat
    have Hat := Lib.hid hat
    obtain ⟨P, hP⟩ : ∃ P, P = Str.pos (nms im) s := ⟨_, rfl⟩
    have hl' : P < im.length := by rw [hP]; exact hl
    have hI := Lib.hid (hI0 P hP hl')
    rw [← hP] at Hat hpl
    clear hl hI0 ht hnm
    rename P < im.length => hl
    generalize putI im s size round = im' at *
    clear h hr hh hat hP
    go_enter Try.func34, Try.ntmps34
    go_wp2_with fail
    refine Hat.out.mono ?_
    rintro e w1 ⟨rfl, hb1⟩
    go_wp2_with fail
    refine (hcl.out _ hb1).mono ?_
    rintro e w2 ⟨A2, c2, rfl, hR2, hb2, hA2⟩
    have B2 : Below w.heap.size w w2 := hb1.trans (hb2.mono hb1.size)
    have hz := B2.size
    have hz1 := hb1.size
    have hle2 := Ro.Row.le hR2
    obtain ⟨gI, off, rfl⟩ := Ro.Row.some_of hR2 (by omega)
    have hg := hA2 gI rfl
    have hlt : P * 3 + 2 < (ImgV.flat im).length := by rw [ImgV.flat_len]; omega
    have hcell := Ro.Row.cell hR2 (P * 3 + 2) hlt
    have hget : (ImgV.flat im)[P * 3 + 2] = .int .i64 im[P].last := by
      have := ImgV.flat_get im P 2 hl (by decide)
      rw [List.getElem?_eq_getElem hlt] at this
      exact Option.some.inj this
    rw [hget, ← Nat.add_assoc] at hcell
    have hfz := Ro.Row.frozen hR2
    have hset := Ro.Row.set1 hR2 (P * 3 + 2) hlt (.int .i64 round)
    rw [flati_set2 hl, ← Nat.add_assoc] at hset
    have HS := Lib.hid hset
    have hA3 := Lib.hid hA2
    generalize im[P].last = ls at *
    clear Hat hb1 hb2 hcl hA2 hset hR2 hget
    go_wp2_with fail
    go_ret
    rw [hL.out, hI.out]
    exact ⟨some ⟨gI, off, none⟩, c2, rfl, HS.out, B2.setCell (by show w.heap.size ≤ gI; omega) _, fun b hb => by have := hA3.out b hb; omega⟩
end Wo
end Go.Proofs.Ythccojfflmfggaa
/- The walks of layer 16 (world): what is asked of a container; its image is pulled. -/
namespace Go.Proofs.Ythccojfflmfggaa
open Go.RowKit
namespace Wo
theorem errM_zero {bx : List ConV} {id : ByteArray} {q : Int} (hr : Str.Rises (ids bx)) (h : errM bx id q = 0) : Str.has (ids bx) id = true ∧ ∃ hl : Str.pos (ids bx) id < bx.length, Box.nxt bx[Str.pos (ids bx) id].st q ≠ 0 := by
  cases hh : Str.has (ids bx) id
  · unfold errM at h
    rw [the_none hh] at h
    cases h
  · obtain ⟨hl, ht, _⟩ := the_some hr hh
    refine ⟨rfl, hl, ?_⟩
    unfold errM at h
    rw [ht] at h
    dsimp only at h
    intro hz
    rw [if_pos hz] at h
    cases h
theorem errM_val (bx : List ConV) (id : ByteArray) (q : Int) : errM bx id q = 0 ∨ errM bx id q = 4 ∨ errM bx id q = 7 := by
  unfold errM
  cases the bx id with
  | none => exact .inr (.inl rfl)
  | some p => dsimp only; split <;> simp
theorem Good.take {s : St} (h : Good s) : Good { s with outs := s.outs.tail } := ⟨h.rb, h.ri, h.ok, h.nb, h.ni, by have := h.no; simp; omega⟩
/-- what asking answers -/
def askE (s : St) (id : ByteArray) (q : Int) : Int := if errM s.bx id q = 0 then (if q = 1 then 7 else 0) else errM s.bx id q
def askS (s : St) (id : ByteArray) (q round : Int) : St := { s with outs := s.outs.tail, bx := doB s.bx (Str.pos (ids s.bx) id) q (tk s.outs) s.rt round }
set_option maxRecDepth 100000 in
set_option maxHeartbeats 4000000 in
theorem wask_c (g : Nat) (s : St) (S : Nat → Prop) (id : ByteArray) (q round : Int) (w : World) (h : At w g s S) (hs : Good s) (hq : (Lit.int .i64 q).wf = true) :
    Calls Try.prog 18 #[.pointer (some ⟨g, 0, none⟩), .string id, .int .i64 q, .int .i64 round] w fun e w' => (askE s id q ≠ 0 → e = .returned (.tuple #[.bool false, .int .i64 (askE s id q)]) ∧ Post S w w' g s) ∧ (askE s id q = 0 → e = .returned (.tuple #[.bool (tk s.outs), .int .i64 0]) ∧ Post S w w' g (askS s id q round)) := by
  have hm := Lib.hid (wmay_c g s S id q w h hs hq)
  have hb := Lib.hid (fun w' (hb : Below w.heap.size w w') => Post.of_below h hb)
  have hev := errM_val s.bx id q
  by_cases h0 : errM s.bx id q = 0
  · by_cases h1 : q = 1
    · have hE : askE s id q = 7 := by unfold askE; rw [if_pos h0, if_pos h1]
      rw [hE]
      rw [h0] at hm
      have d1 : (q == 1) = true := beq_iff_eq.2 h1
      generalize plM s.bx id q = L at *
      clear h hs hE h0 hev hq h1
      go_enter Try.func18, Try.ntmps18
      go_wp2_with fail
      refine hm.out.mono ?_
      rintro e w1 ⟨rfl, hb1⟩
      have P1 := Lib.hid (hb.out _ hb1)
      clear hm hb hb1
      go_wp2_with fail
      go_ret2
      exact ⟨fun _ => ⟨rfl, P1.out⟩, fun c => by (cases c)⟩
    · have hE : askE s id q = 0 := by unfold askE; rw [if_pos h0, if_neg h1]
      obtain ⟨hh, hl, hn⟩ := errM_zero hs.rb h0
      have hP : plM s.bx id q = (Str.pos (ids s.bx) id : Int) := by unfold plM; rw [if_pos h0]
      rw [hE]
      rw [h0, hP] at hm
      have d1 : (q == 1) = false := beq_eq_false_iff_ne.2 h1
      have hA : Hid (∀ w', Below w.heap.size w w' → At w' g s (ext S w w')) := fun w' hb1 => (hb.out w' hb1).at_
      have hdo : Hid (∀ w2 S2, At w2 g { s with outs := s.outs.tail } S2 → Calls Try.prog 33 #[.pointer (some ⟨g, 0, none⟩), .int .i64 (Str.pos (ids s.bx) id), .int .i64 q, .bool (tk s.outs), .int .i64 round] w2 fun e w' => e = .returned (.tuple #[]) ∧ Post S2 w2 w' g (askS s id q round)) :=
        fun w2 S2 h2 => wdo_c g { s with outs := s.outs.tail } S2 (Str.pos (ids s.bx) id) q (tk s.outs) round w2 h2 hs.take hl hq hn
      have htk : Hid (∀ w1 S1, At w1 g s S1 → Calls Try.prog 32 #[.pointer (some ⟨g, 0, none⟩)] w1 fun e w' => e = .returned (.bool (tk s.outs)) ∧ Post S1 w1 w' g { s with outs := s.outs.tail }) := fun w1 S1 h1 => take_c g s S1 w1 h1
      generalize askS s id q round = s2 at *
      generalize Str.pos (ids s.bx) id = P at *
      generalize tk s.outs = well at *
      obtain ⟨s1, hs1⟩ : ∃ s1 : St, s1 = { s with outs := s.outs.tail } := ⟨_, rfl⟩
      rw [← hs1] at hdo htk
      clear h hs hE h0 hev hq h1 hh hn hP hs1
      go_enter Try.func18, Try.ntmps18
      go_wp2_with fail
      refine hm.out.mono ?_
      rintro e w1 ⟨rfl, hb1⟩
      have P1 := Lib.hid (hb.out _ hb1)
      clear hm
      go_wp2_with fail
      refine (htk.out _ _ P1.out.at_).mono ?_
      rintro e w2 ⟨rfl, hP2⟩
      have P2 := Lib.hid (P1.out.trans hP2)
      clear hP2
      go_wp2_with fail
      refine (hdo.out _ _ P2.out.at_).mono ?_
      rintro e w3 ⟨rfl, hP3⟩
      have P3 := Lib.hid (P2.out.trans hP3)
      clear hP3
      go_wp2_with fail
      go_ret2
      exact ⟨fun c => absurd rfl c, fun _ => ⟨rfl, P3.out⟩⟩
  · have hE : askE s id q = errM s.bx id q := by unfold askE; rw [if_neg h0]
    rw [hE]
    have d0 : (errM s.bx id q == 0) = false := beq_eq_false_iff_ne.2 h0
    have h0' := Lib.hid h0
    generalize plM s.bx id q = L at *
    generalize errM s.bx id q = E at *
    clear h hs hE h0 hev hq
    go_enter Try.func18, Try.ntmps18
    go_wp2_with fail
    refine hm.out.mono ?_
    rintro e w1 ⟨rfl, hb1⟩
    have P1 := Lib.hid (hb.out _ hb1)
    clear hm hb hb1
    go_wp2_with fail
    go_ret2
    exact ⟨fun _ => ⟨rfl, P1.out⟩, fun c => absurd c h0'.out⟩
theorem post_setI {w w6 : World} {g : Nat} {s : St} {S : Nat → Prop} {A' : Option Addr} {n' c' : Nat} {im' : List ImgV} (h : At w g s S) (hb : Below w.heap.size w w6) (hR : IRow w6 A' n' c' im') (hA : ∀ b, Ro.blk A' = some b → w.heap.size ≤ b) :
    (∃ v, w6.cell? ⟨g, 3, none⟩ = some v) ∧ (∀ o, w6.frozen? ⟨g, o, none⟩ = false) ∧ Post S w (w6.setCell ⟨g, 3, none⟩ (.slice A' n' c')) g { s with im := im' } := by
  obtain ⟨AQ, nq, cq, AB, nb, cb, AI, ni, ci, h⟩ := h
  have h1 := h.keep (w' := w6) (fun k hk _ => hb.block k hk)
  refine ⟨⟨_, h1.blk.cell 3⟩, h1.blk.frozen, ?_⟩
  have h2 : AtL w6 g s (ext S w w6) AQ nq cq AB nb cb AI ni ci := h1.mono fun _ _ c => .inl c
  have h3 := h2.setI hR (fun k hk => .inr ⟨hA k hk, Ro.Row.lt hR hk⟩)
  refine ⟨(show At _ g _ (ext S w w6) from ⟨_, _, _, _, _, _, _, _, _, h3⟩).mono fun k _ c => ?_, (Ro.Only.of_below hb).trans (Ro.Only.setCell _ _ _) fun k _ e => by rw [e]; exact h.sg⟩
  rcases c with c | c
  · exact .inl c
  · exact .inr ⟨c.1, by simpa using c.2⟩
/-- what pulling answers -/
def pullW (s : St) (name : ByteArray) : Bool := if Str.has (nms s.im) name then true else tk s.outs
def pullS (s : St) (id name : ByteArray) (size round : Int) : St := { s with outs := if Str.has (nms s.im) name then s.outs else s.outs.tail, bx := doB s.bx (Str.pos (ids s.bx) id) 1 (pullW s name) s.rt round, im := if pullW s name then putI s.im name size round else s.im }
set_option maxRecDepth 100000 in
set_option maxHeartbeats 4000000 in
theorem wpull_c (g : Nat) (s : St) (S : Nat → Prop) (id name : ByteArray) (size round : Int) (w : World) (h : At w g s S) (hs : Good s) :
    Calls Try.prog 15 #[.pointer (some ⟨g, 0, none⟩), .string id, .string name, .int .i64 size, .int .i64 round] w fun e w' => (errM s.bx id 1 ≠ 0 → e = .returned (.tuple #[.bool false, .bool false, .int .i64 (errM s.bx id 1)]) ∧ Post S w w' g s) ∧ (errM s.bx id 1 = 0 → e = .returned (.tuple #[.bool (pullW s name), .bool (pullW s name && !Str.has (nms s.im) name), .int .i64 0]) ∧ Post S w w' g (pullS s id name size round)) := by
  have hm := Lib.hid (wmay_c g s S id 1 w h hs (by decide))
  have hb := Lib.hid (fun w' (hb : Below w.heap.size w w') => Post.of_below h hb)
  by_cases h0 : errM s.bx id 1 = 0
  · obtain ⟨hh, hl, hn⟩ := errM_zero hs.rb h0
    have hP : plM s.bx id 1 = (Str.pos (ids s.bx) id : Int) := by unfold plM; rw [if_pos h0]
    rw [h0, hP] at hm
    rw [h0]
    have htk : Hid (∀ X, Below w.heap.size w X → Calls Try.prog 32 #[.pointer (some ⟨g, 0, none⟩)] X fun e w' => e = .returned (.bool (tk s.outs)) ∧ Post S w w' g { s with outs := s.outs.tail }) :=
      fun X hX => (take_c g s _ X (hb.out X hX).at_).mono fun e w' h2 => ⟨h2.1, (hb.out X hX).trans h2.2⟩
    have hdo : Hid (∀ w3 well, Post S w w3 g { s with outs := s.outs.tail } → Calls Try.prog 33 #[.pointer (some ⟨g, 0, none⟩), .int .i64 (Str.pos (ids s.bx) id), .int .i64 1, .bool well, .int .i64 round] w3 fun e w' => e = .returned (.tuple #[]) ∧ Post S w w' g { s with outs := s.outs.tail, bx := doB s.bx (Str.pos (ids s.bx) id) 1 well s.rt round }) :=
      fun w3 well h3 => (wdo_c g { s with outs := s.outs.tail } _ (Str.pos (ids s.bx) id) 1 well round w3 h3.at_ hs.take hl (by decide) hn).mono fun e w' h2 => ⟨h2.1, h3.trans h2.2⟩
    have hdo0 : Hid (∀ X well, Below w.heap.size w X → Calls Try.prog 33 #[.pointer (some ⟨g, 0, none⟩), .int .i64 (Str.pos (ids s.bx) id), .int .i64 1, .bool well, .int .i64 round] X fun e w' => e = .returned (.tuple #[]) ∧ Post S w w' g { s with bx := doB s.bx (Str.pos (ids s.bx) id) 1 well s.rt round }) :=
      fun X well hX => (wdo_c g s _ (Str.pos (ids s.bx) id) 1 well round X (hb.out X hX).at_ hs hl (by decide) hn).mono fun e w' h2 => ⟨h2.1, (hb.out X hX).trans h2.2⟩
    have hri := hs.ri
    have hni := hs.ni
    obtain ⟨AQ, nq, cq, AB, nb, cb, AI, ni, ci, hL⟩ := h
    have hlen := hL.lens.2.2
    have m3 : w.cell? ⟨g, 3, none⟩ = some (.slice AI ni ci) := hL.blk.cell 3
    have hg := hL.blk.lt
    have hfind : Hid (∀ w1, Below w.heap.size w w1 → Calls Try.prog 31 #[.slice AI ni ci, .string name] w1 fun e w' => ∃ p : ImgV, e = .returned (.tuple #[.agg p.arr, .bool (Str.has (nms s.im) name)]) ∧ Below w1.heap.size w1 w') :=
      fun w1 hb1 => find_c AI ni ci s.im name w1 ((hL.i.sl.below hb1).more hb1.size) hri hlen (by omega)
    clear hL hs hn hh hP h0 hl
    cases hth : Str.has (nms s.im) name
    · have hW : pullW s name = tk s.outs := by unfold pullW; rw [hth]; rfl
      have eS : pullS s id name size round = { s with outs := s.outs.tail, bx := doB s.bx (Str.pos (ids s.bx) id) 1 (tk s.outs) s.rt round, im := if tk s.outs then putI s.im name size round else s.im } := by
        unfold pullS
        rw [hW, hth]
        rfl
      rw [hW]
      rw [hth] at hfind
      have hfin : Hid (∀ w', Post S w w' g { s with outs := s.outs.tail, bx := doB s.bx (Str.pos (ids s.bx) id) 1 (tk s.outs) s.rt round, im := if tk s.outs then putI s.im name size round else s.im } ↔ Post S w w' g (pullS s id name size round)) := by
        intro w'
        rw [eS]
      clear hth hW hdo0 eS
      generalize pullS s id name size round = sf at *
      generalize Str.pos (ids s.bx) id = P at *
      obtain ⟨tb, htb⟩ : ∃ tb, tb = tk s.outs := ⟨_, rfl⟩
      rw [← htb] at hfin htk ⊢
      clear htb
      cases tb
      · simp only [Bool.false_eq_true, if_false] at hfin
        obtain ⟨s2, hs2⟩ : ∃ s2 : St, s2 = { s with outs := s.outs.tail, bx := doB s.bx P 1 false s.rt round } := ⟨_, rfl⟩
        have hs2i : Hid (s2.im = s.im) := by rw [hs2]; rfl
        have hdo2 : Hid (∀ w3, Post S w w3 g { s with outs := s.outs.tail } → Calls Try.prog 33 #[.pointer (some ⟨g, 0, none⟩), .int .i64 P, .int .i64 1, .bool false, .int .i64 round] w3 fun e w' => e = .returned (.tuple #[]) ∧ Post S w w' g s2) := by rw [hs2]; exact fun w3 h3 => hdo.out w3 false h3
        have hfin : Hid (∀ w', Post S w w' g s2 ↔ Post S w w' g sf) := by rw [hs2]; exact hfin.out
        clear hdo hs2
        go_enter Try.func15, Try.ntmps15
        go_wp2_with fail
        refine hm.out.mono ?_
        rintro e w1 ⟨rfl, hb1⟩
        have m13 : w1.cell? ⟨g, 3, none⟩ = some (.slice AI ni ci) := (hb1.cell (p := ⟨g, 3, none⟩) hg).trans m3
        clear hm
        go_wp2_with fail
        refine (hfind.out w1 hb1).mono ?_
        rintro e w2 ⟨⟨pn, ps, pl⟩, rfl, hb2⟩
        have B2 : Below w.heap.size w w2 := hb1.trans (hb2.mono hb1.size)
        unfold ImgV.arr
        dsimp only
        have hz := B2.size
        clear hfind m13 hb1 hb2
        go_wp2_with fail
        refine (htk.out _ ?hb).mono ?_
        case hb => exact B2.alloc hz _
        rintro e w3 ⟨rfl, hP3⟩
        have P3 := Lib.hid hP3
        clear hP3 htk
        go_wp2_with fail
        refine (hdo2.out _ P3.out).mono ?_
        rintro e w4 ⟨rfl, hP4⟩
        have P4 := Lib.hid hP4
        clear hP4 hdo2
        go_wp2_with fail
        go_ret3
        exact ⟨fun c => absurd rfl c, fun _ => ⟨rfl, (hfin.out _).mp P4.out⟩⟩
      · simp only [if_true] at hfin
        obtain ⟨s2, hs2⟩ : ∃ s2 : St, s2 = { s with outs := s.outs.tail, bx := doB s.bx P 1 true s.rt round } := ⟨_, rfl⟩
        have hs2i : Hid (s2.im = s.im) := by rw [hs2]; rfl
        have hdo2 : Hid (∀ w3, Post S w w3 g { s with outs := s.outs.tail } → Calls Try.prog 33 #[.pointer (some ⟨g, 0, none⟩), .int .i64 P, .int .i64 1, .bool true, .int .i64 round] w3 fun e w' => e = .returned (.tuple #[]) ∧ Post S w w' g s2) := by rw [hs2]; exact fun w3 h3 => hdo.out w3 true h3
        have hfin : Hid (∀ w', Post S w w' g { s2 with im := putI s.im name size round } ↔ Post S w w' g sf) := by rw [hs2]; exact hfin.out
        clear hdo hs2
        go_enter Try.func15, Try.ntmps15
        go_wp2_with fail
        refine hm.out.mono ?_
        rintro e w1 ⟨rfl, hb1⟩
        have m13 : w1.cell? ⟨g, 3, none⟩ = some (.slice AI ni ci) := (hb1.cell (p := ⟨g, 3, none⟩) hg).trans m3
        clear hm
        go_wp2_with fail
        refine (hfind.out w1 hb1).mono ?_
        rintro e w2 ⟨⟨pn, ps, pl⟩, rfl, hb2⟩
        have B2 : Below w.heap.size w w2 := hb1.trans (hb2.mono hb1.size)
        unfold ImgV.arr
        dsimp only
        have hz := B2.size
        clear hfind m13 hb1 hb2
        go_wp2_with fail
        refine (htk.out _ ?hb).mono ?_
        case hb => exact B2.alloc hz _
        rintro e w3 ⟨rfl, hP3⟩
        have P3 := Lib.hid hP3
        clear hP3 htk
        go_wp2_with fail
        refine (hdo2.out _ P3.out).mono ?_
        rintro e w4 ⟨rfl, hP4⟩
        have P4 := Lib.hid hP4
        clear hP4 hdo2
        obtain ⟨AQ4, nq4, cq4, AB4, nb4, cb4, AI4, ni4, ci4, h4⟩ := P4.out.at_
        have m43 : w4.cell? ⟨g, 3, none⟩ = some (.slice AI4 ni4 ci4) := h4.blk.cell 3
        have hput := Lib.hid (put_c AI4 ni4 ci4 s2.im name size round w4 h4.i.sl (by rw [hs2i.out]; exact hri) h4.lens.2.2 (by have := h4.lens.2.2; rw [hs2i.out] at this; omega) (row_nil h4.i))
        rw [hs2i.out] at hput
        clear h4
        go_wp2_with fail
        refine hput.out.mono ?_
        rintro e w5 ⟨A5, c5, rfl, hR5, hb5, hA5⟩
        obtain ⟨⟨v5, hv5⟩, hf5, hP5⟩ := post_setI P4.out.at_ hb5 hR5 hA5
        have P5 := Lib.hid (P4.out.trans hP5)
        clear hP5 hput
        go_wp2_with fail
        go_ret3
        exact ⟨fun c => absurd rfl c, fun _ => ⟨rfl, (hfin.out _).mp P5.out⟩⟩
    · have hW : pullW s name = true := by unfold pullW; rw [hth]; rfl
      have eS : pullS s id name size round = { s with bx := doB s.bx (Str.pos (ids s.bx) id) 1 true s.rt round, im := putI s.im name size round } := by
        unfold pullS
        rw [hW, hth]
        rfl
      rw [hW]
      rw [hth] at hfind
      have hfin : Hid (∀ w', Post S w w' g { s with bx := doB s.bx (Str.pos (ids s.bx) id) 1 true s.rt round, im := putI s.im name size round } ↔ Post S w w' g (pullS s id name size round)) := by
        intro w'
        rw [eS]
      clear hth hW hdo htk eS
      generalize pullS s id name size round = sf at *
      generalize Str.pos (ids s.bx) id = P at *
      obtain ⟨s2, hs2⟩ : ∃ s2 : St, s2 = { s with bx := doB s.bx P 1 true s.rt round } := ⟨_, rfl⟩
      have hs2i : Hid (s2.im = s.im) := by rw [hs2]; rfl
      have hdo2 : Hid (∀ X, Below w.heap.size w X → Calls Try.prog 33 #[.pointer (some ⟨g, 0, none⟩), .int .i64 P, .int .i64 1, .bool true, .int .i64 round] X fun e w' => e = .returned (.tuple #[]) ∧ Post S w w' g s2) := by rw [hs2]; exact fun X h3 => hdo0.out X true h3
      have hfin : Hid (∀ w', Post S w w' g { s2 with im := putI s.im name size round } ↔ Post S w w' g sf) := by rw [hs2]; exact hfin.out
      clear hdo0 hs2
      go_enter Try.func15, Try.ntmps15
      go_wp2_with fail
      refine hm.out.mono ?_
      rintro e w1 ⟨rfl, hb1⟩
      have m13 : w1.cell? ⟨g, 3, none⟩ = some (.slice AI ni ci) := (hb1.cell (p := ⟨g, 3, none⟩) hg).trans m3
      clear hm
      go_wp2_with fail
      refine (hfind.out w1 hb1).mono ?_
      rintro e w2 ⟨⟨pn, ps, pl⟩, rfl, hb2⟩
      have B2 : Below w.heap.size w w2 := hb1.trans (hb2.mono hb1.size)
      unfold ImgV.arr
      dsimp only
      have hz := B2.size
      clear hfind m13 hb1 hb2
      go_wp2_with fail
      refine (hdo2.out _ ?hb).mono ?_
      case hb => exact B2.alloc hz _
      rintro e w4 ⟨rfl, hP4⟩
      have P4 := Lib.hid hP4
      clear hP4 hdo2
      obtain ⟨AQ4, nq4, cq4, AB4, nb4, cb4, AI4, ni4, ci4, h4⟩ := P4.out.at_
      have m43 : w4.cell? ⟨g, 3, none⟩ = some (.slice AI4 ni4 ci4) := h4.blk.cell 3
      have hput := Lib.hid (put_c AI4 ni4 ci4 s2.im name size round w4 h4.i.sl (by rw [hs2i.out]; exact hri) h4.lens.2.2 (by have := h4.lens.2.2; rw [hs2i.out] at this; omega) (row_nil h4.i))
      rw [hs2i.out] at hput
      clear h4
      go_wp2_with fail
      refine hput.out.mono ?_
      rintro e w5 ⟨A5, c5, rfl, hR5, hb5, hA5⟩
      obtain ⟨⟨v5, hv5⟩, hf5, hP5⟩ := post_setI P4.out.at_ hb5 hR5 hA5
      have P5 := Lib.hid (P4.out.trans hP5)
      clear hP5 hput
      go_wp2_with fail
      go_ret3
      exact ⟨fun c => absurd rfl c, fun _ => ⟨rfl, (hfin.out _).mp P5.out⟩⟩
  · have h0' := Lib.hid h0
    have d0 : (errM s.bx id 1 == 0) = false := beq_eq_false_iff_ne.2 h0
    generalize plM s.bx id 1 = L at *
    generalize errM s.bx id 1 = E at *
    clear h hs h0
    go_enter Try.func15, Try.ntmps15
    go_wp2_with fail
    refine hm.out.mono ?_
    rintro e w1 ⟨rfl, hb1⟩
    have P1 := Lib.hid (hb.out _ hb1)
    clear hm hb hb1
    go_wp2_with fail
    go_ret3
    exact ⟨fun _ => ⟨rfl, P1.out⟩, fun c => absurd c h0'.out⟩
end Wo
end Go.Proofs.Ythccojfflmfggaa
/- Words of layer 16 (world) for the laws: a runtime among other things; what is asked of it leaves those alone. -/
namespace Go.Proofs.Ythccojfflmfggaa
open Go.RowKit
namespace Wo
/-- in w lies a runtime; what ks names lies apart from it, and is as it was in wr -/
def Has (wr : World) (ks : Nat → Prop) (w : World) (g : Nat) (s : St) : Prop := ∃ S, At w g s S ∧ Ro.Only (fun k => ¬ ks k) wr w ∧ ∀ k, ks k → k < wr.heap.size ∧ ¬ S k
section
variable {wr w w' : World} {ks ks2 : Nat → Prop} {g : Nat} {s s' : St}
theorem Has.step {S : Nat → Prop} (h2 : Ro.Only (fun k => ¬ ks k) wr w) (h3 : ∀ k, ks k → k < wr.heap.size ∧ ¬ S k) (p : Post S w w' g s') : Has wr ks w' g s' := by
  refine ⟨ext S w w', p.at_, h2.trans p.only (fun k hk c hks => (h3 k hks).2 c), fun k hk => ⟨(h3 k hk).1, ?_⟩⟩
  rintro (c | ⟨c, _⟩)
  · exact (h3 k hk).2 c
  · have := (h3 k hk).1
    have := h2.size
    omega
theorem Has.of_post (h : Has wr ks w g s) (hp : ∀ S, At w g s S → Post S w w' g s') : Has wr ks w' g s' := by
  obtain ⟨S, h1, h2, h3⟩ := h
  exact Has.step h2 h3 (hp S h1)
theorem Has.below (h : Has wr ks w g s) (hb : Below w.heap.size w w') : Has wr ks w' g s := h.of_post fun _ h1 => Post.of_below h1 hb
theorem Has.only (h : Has wr ks w g s) : Ro.Only (fun k => ¬ ks k) wr w := by obtain ⟨_, _, h2, _⟩ := h; exact h2
theorem Has.start (h : Below wr.heap.size wr w) (hk : ∀ k, ks k → k < wr.heap.size) {S : Nat → Prop} (ha : At w g s S) (hS : ∀ k, S k → wr.heap.size ≤ k) : Has wr ks w g s :=
  ⟨S, ha, Ro.Only.of_below h, fun k h1 => ⟨hk k h1, fun c => by have := hS k c; have := hk k h1; omega⟩⟩
/-- from another world on -/
theorem Has.rebase (h : Has wr ks w g s) (hb : Below w.heap.size w w') (hk : ∀ k, ks2 k → k < w'.heap.size ∧ (ks k ∨ w.heap.size ≤ k)) : Has w' ks2 w' g s := by
  obtain ⟨S, h1, h2, h3⟩ := h
  refine ⟨fun k => S k ∧ k < w.heap.size, (h1.mono (T := fun k => S k ∧ k < w.heap.size) fun k hk c => ⟨c, hk⟩).below hb, Ro.Only.refl _ _, fun k hk2 => ⟨(hk k hk2).1, ?_⟩⟩
  · rintro ⟨c, hlt⟩
    rcases (hk k hk2).2 with e | e
    · exact (h3 k e).2 c
    · omega
end
section
variable {wr w : World} {ks : Nat → Prop} {g : Nat} {s : St}
theorem feedH {A : Option Addr} {n c : Nat} {bs : List Bool} (h : Has wr ks w g s) (hw : Mem.Sl w w.heap.size 1 A n (bs.map Value.bool)) (hn : n ≤ 1000000) (ho : s.outs.length ≤ 4096) :
    Calls Try.prog 13 #[.pointer (some ⟨g, 0, none⟩), .slice A n c] w fun e w' => (4096 < s.outs.length + n → e = .returned (.int .i64 6) ∧ Has wr ks w' g s) ∧ (s.outs.length + n ≤ 4096 → e = .returned (.int .i64 0) ∧ Has wr ks w' g { s with outs := s.outs ++ bs }) := by
  obtain ⟨S, h1, h2, h3⟩ := h
  exact (feed_c g s S A n c bs w h1 hw hn ho).mono fun e w' p => ⟨fun c => ⟨(p.1 c).1, Has.step h2 h3 (p.1 c).2⟩, fun c => ⟨(p.2 c).1, Has.step h2 h3 (p.2 c).2⟩⟩
theorem createH {id : ByteArray} {round : Int} (h : Has wr ks w g s) (hs : Good s) :
    Calls Try.prog 14 #[.pointer (some ⟨g, 0, none⟩), .string id, .int .i64 round] w fun e w' => (Str.has (ids s.bx) id = true → e = .returned (.int .i64 5) ∧ Has wr ks w' g s) ∧ (Str.has (ids s.bx) id = false → e = .returned (.int .i64 0) ∧ Has wr ks w' g { s with bx := insB s.bx id round }) := by
  obtain ⟨S, h1, h2, h3⟩ := h
  exact (wcreate_c g s S id round w h1 hs).mono fun e w' p => ⟨fun c => ⟨(p.1 c).1, Has.step h2 h3 (p.1 c).2⟩, fun c => ⟨(p.2 c).1, Has.step h2 h3 (p.2 c).2⟩⟩
theorem askH {id : ByteArray} {q round : Int} (h : Has wr ks w g s) (hs : Good s) (hq : (Lit.int .i64 q).wf = true) :
    Calls Try.prog 18 #[.pointer (some ⟨g, 0, none⟩), .string id, .int .i64 q, .int .i64 round] w fun e w' => (askE s id q ≠ 0 → e = .returned (.tuple #[.bool false, .int .i64 (askE s id q)]) ∧ Has wr ks w' g s) ∧ (askE s id q = 0 → e = .returned (.tuple #[.bool (tk s.outs), .int .i64 0]) ∧ Has wr ks w' g (askS s id q round)) := by
  obtain ⟨S, h1, h2, h3⟩ := h
  exact (wask_c g s S id q round w h1 hs hq).mono fun e w' p => ⟨fun c => ⟨(p.1 c).1, Has.step h2 h3 (p.1 c).2⟩, fun c => ⟨(p.2 c).1, Has.step h2 h3 (p.2 c).2⟩⟩
theorem pullH {id name : ByteArray} {size round : Int} (h : Has wr ks w g s) (hs : Good s) :
    Calls Try.prog 15 #[.pointer (some ⟨g, 0, none⟩), .string id, .string name, .int .i64 size, .int .i64 round] w fun e w' => (errM s.bx id 1 ≠ 0 → e = .returned (.tuple #[.bool false, .bool false, .int .i64 (errM s.bx id 1)]) ∧ Has wr ks w' g s) ∧ (errM s.bx id 1 = 0 → e = .returned (.tuple #[.bool (pullW s name), .bool (pullW s name && !Str.has (nms s.im) name), .int .i64 0]) ∧ Has wr ks w' g (pullS s id name size round)) := by
  obtain ⟨S, h1, h2, h3⟩ := h
  exact (wpull_c g s S id name size round w h1 hs).mono fun e w' p => ⟨fun c => ⟨(p.1 c).1, Has.step h2 h3 (p.1 c).2⟩, fun c => ⟨(p.2 c).1, Has.step h2 h3 (p.2 c).2⟩⟩
theorem boxH {id : ByteArray} (h : Has wr ks w g s) (hs : Good s) :
    Calls Try.prog 19 #[.pointer (some ⟨g, 0, none⟩), .string id] w fun e w' => e = .returned (.tuple #[.agg #[.int .i64 (boxOf s.bx id).1, .int .i64 (boxOf s.bx id).2], .bool (Str.has (ids s.bx) id)]) ∧ Below w.heap.size w w' ∧ Has wr ks w' g s := by
  have h' := h
  obtain ⟨S, h1, h2, h3⟩ := h
  exact (box_c g s S id w h1 hs).mono fun e w' p => ⟨p.1, p.2, h'.below p.2⟩
theorem imagesH (h : Has wr ks w g s) (hs : Good s) : Calls Try.prog 20 #[.pointer (some ⟨g, 0, none⟩)] w fun e w' => CloneISaid s.im.length s.im w e w' ∧ Has wr ks w' g s := by
  have h' := h
  obtain ⟨S, h1, h2, h3⟩ := h
  exact (images_c g s S w h1 hs).mono fun e w' p => ⟨p, h'.below (by obtain ⟨_, _, _, _, hb, _⟩ := p; exact hb)⟩
theorem containersH (h : Has wr ks w g s) (hs : Good s) : Calls Try.prog 17 #[.pointer (some ⟨g, 0, none⟩)] w fun e w' => CloneSaid s.bx.length s.bx w e w' ∧ Has wr ks w' g s := by
  have h' := h
  obtain ⟨S, h1, h2, h3⟩ := h
  exact (containers_c g s S w h1 hs).mono fun e w' p => ⟨p, h'.below (by obtain ⟨_, _, _, _, hb, _⟩ := p; exact hb)⟩
theorem waitingH (h : Has wr ks w g s) (hs : Good s) : Calls Try.prog 16 #[.pointer (some ⟨g, 0, none⟩)] w fun e w' => (∃ A' c', e = .returned (.slice A' s.outs.length c') ∧ QRow w' A' s.outs.length c' s.outs ∧ Below w.heap.size w w' ∧ ∀ b, Ro.blk A' = some b → w.heap.size ≤ b) ∧ Has wr ks w' g s := by
  have h' := h
  obtain ⟨S, h1, h2, h3⟩ := h
  exact (waiting_c g s S w h1 hs).mono fun e w' p => ⟨p, h'.below (by obtain ⟨_, _, _, _, hb, _⟩ := p; exact hb)⟩
end
end Wo
end Go.Proofs.Ythccojfflmfggaa
/- The walks of layers 15 and 16 (image, world): drop. -/
namespace Go.Proofs.Ythccojfflmfggaa
open Go.RowKit
namespace Wo
/-- the images with one less -/
def dropI (im : List ImgV) (s : ByteArray) : List ImgV := if Str.has (nms im) s then im.take (Str.pos (nms im) s) ++ im.drop (Str.pos (nms im) s + 1) else im
def NewDrop (n : Nat) (f : Bool) (im : List ImgV) (w : World) (e : Ending) (w' : World) : Prop := ∃ A' c', e = .returned (.tuple #[.slice A' n c', .bool f]) ∧ IRow w' A' n c' im ∧ Below w.heap.size w w' ∧ ∀ b, Ro.blk A' = some b → w.heap.size ≤ b
set_option maxRecDepth 100000 in
set_option maxHeartbeats 4000000 in
theorem drop_c (A : Option Addr) (n c : Nat) (im : List ImgV) (s : ByteArray) (w : World) (h : Mem.Sl w w.heap.size 3 A n (ImgV.flat im)) (hr : Str.Rises (nms im)) (hlen : im.length = n) (hn : n ≤ 100000) (hA : A = none → n = 0 ∧ c = 0) :
    Calls Try.prog 38 #[.slice A n c, .string s] w (NewDrop (dropI im s).length (Str.has (nms im) s) (dropI im s) w) := by
  have hat := iat_c A n c im s w h hr hlen (by omega)
  have hcl := Lib.hid (fun w' (hb : Below w.heap.size w w') => clonei_c A n c im w' ((h.below hb).more hb.size) (by omega) hA)
  cases hh : Str.has (nms im) s
  · have hI : Hid (dropI im s = im) := by
      show _ = _
      unfold dropI
      rw [hh, if_neg (by decide)]
    have hL : Hid ((dropI im s).length = n) := by
      show _ = _
      rw [hI.out, hlen]
    rw [hh] at hat
    have Hat := Lib.hid hat
    generalize Str.pos (nms im) s = P at *
    generalize dropI im s = im' at *
    clear h hr hh hat
    go_enter Try.func38, Try.ntmps38
    go_wp2_with fail
    refine Hat.out.mono ?_
    rintro e w1 ⟨rfl, hb1⟩
    go_wp2_with fail
    refine (hcl.out _ hb1).mono ?_
    rintro e w2 ⟨A2, c2, rfl, hR2, hb2, hA2⟩
    have B2 := Lib.hid (hb1.trans (hb2.mono hb1.size))
    have hz1 := hb1.size
    have hA3 := Lib.hid hA2
    have hR3 := Lib.hid hR2
    clear Hat hb1 hb2 hcl hA2 hR2
    go_wp2_with fail
    go_ret2
    rw [hL.out, hI.out]
    exact ⟨A2, c2, rfl, hR3.out, B2.out, fun b hb => by have := hA3.out b hb; omega⟩
  · obtain ⟨hl, ht, hnm⟩ := theI_some hr hh
    have hI0 : ∀ (P : Nat) (_ : P = Str.pos (nms im) s), dropI im s = im.take P ++ im.drop (P + 1) := by
      rintro _ rfl
      unfold dropI
      rw [hh, if_pos rfl]
    rw [hh] at hat
    have Hat := Lib.hid hat
    obtain ⟨P, hP⟩ : ∃ P, P = Str.pos (nms im) s := ⟨_, rfl⟩
    have hl' : P < im.length := by rw [hP]; exact hl
    have hI := Lib.hid (hI0 P hP)
    have hL : Hid ((dropI im s).length = n - 1) := by
      show _ = _
      rw [hI.out]
      simp
      omega
    rw [← hP] at Hat
    clear hl hI0 ht hnm
    rename P < im.length => hl
    generalize dropI im s = im' at *
    clear h hr hh hat hP
    go_enter Try.func38, Try.ntmps38
    go_wp2_with fail
    refine Hat.out.mono ?_
    rintro e w1 ⟨rfl, hb1⟩
    go_wp2_with fail
    refine (hcl.out _ hb1).mono ?_
    rintro e w2 ⟨A2, c2, rfl, hR2, hb2, hA2⟩
    have B2 := Lib.hid (hb1.trans (hb2.mono hb1.size))
    have hz1 := hb1.size
    have hz2 := hb2.size
    have hA3 := Lib.hid hA2
    have HD := Lib.hid (deletei_c A2 n c2 P im w2 (hlen ▸ hR2) (by omega) (by omega))
    clear Hat hb1 hb2 hcl hA2 hR2
    go_wp2_with fail
    refine HD.out.mono ?_
    rintro e w3 ⟨rfl, hR3, hO3⟩
    have B3 := Lib.hid (B2.out.trans (Ro.Only.below hO3 (by omega) (fun k hk e => by have := hA3.out k e; omega)))
    have HR := Lib.hid hR3
    clear HD hR3 hO3 B2
    go_wp2_with fail
    go_ret2
    rw [hL.out, hI.out]
    exact ⟨A2, c2, rfl, HR.out, B3.out, fun b hb => by have := hA3.out b hb; omega⟩
theorem post_drop {w w1 w2 : World} {g : Nat} {s s2 : St} {S : Nat → Prop} {A' : Option Addr} {n' c' : Nat} {im' : List ImgV} (h : At w g s S) (hb : Below w.heap.size w w1) (hp : Post (fun k => S k ∧ k < w.heap.size) w1 w2 g s2) (hR : IRow w1 A' n' c' im') (hA : ∀ b, Ro.blk A' = some b → w.heap.size ≤ b) :
    (∃ v, w2.cell? ⟨g, 3, none⟩ = some v) ∧ (∀ o, w2.frozen? ⟨g, o, none⟩ = false) ∧ Post S w w2 g s2 ∧ Post S w (w2.setCell ⟨g, 3, none⟩ (.slice A' n' c')) g { s2 with im := im' } := by
  have hz := hb.size
  have hz2 := hp.only.size
  have O : Ro.Only S w w2 := (Ro.Only.of_below hb).trans hp.only (fun k _ c => c.1)
  have hSg : S g := by obtain ⟨_, _, _, _, _, _, _, _, _, h⟩ := h; exact h.sg
  have h2 : At w2 g s2 (ext S w w2) := hp.at_.mono fun k _ c => by
    rcases c with c | c
    · exact .inl c.1
    · exact .inr ⟨by omega, c.2⟩
  have hR2 : IRow w2 A' n' c' im' := Ro.Row.only hR hp.only (fun k hk c => by have := hA k hk; omega)
  have P2 : Post S w w2 g s2 := ⟨h2, O⟩
  obtain ⟨AQ, nq, cq, AB, nb, cb, AI, ni, ci, h2⟩ := h2
  refine ⟨⟨_, h2.blk.cell 3⟩, h2.blk.frozen, P2, ?_⟩
  have h3 := h2.setI hR2 (fun k hk => .inr ⟨hA k hk, Ro.Row.lt hR2 hk⟩)
  refine ⟨(show At _ g _ (ext S w w2) from ⟨_, _, _, _, _, _, _, _, _, h3⟩).mono fun k _ c => ?_, O.trans (Ro.Only.setCell _ _ _) fun k _ e => by rw [e]; exact hSg⟩
  rcases c with c | c
  · exact .inl c
  · exact .inr ⟨c.1, by simpa using c.2⟩
def dropS (s : St) (name : ByteArray) : St := { s with outs := s.outs.tail, im := if tk s.outs then dropI s.im name else s.im }
set_option maxRecDepth 100000 in
set_option maxHeartbeats 4000000 in
theorem wdrop_c (g : Nat) (s : St) (S : Nat → Prop) (name : ByteArray) (w : World) (h : At w g s S) (hs : Good s) :
    Calls Try.prog 22 #[.pointer (some ⟨g, 0, none⟩), .string name] w fun e w' => (Str.has (nms s.im) name = false → e = .returned (.tuple #[.bool false, .int .i64 4]) ∧ Post S w w' g s) ∧ (Str.has (nms s.im) name = true → e = .returned (.tuple #[.bool (tk s.outs), .int .i64 0]) ∧ Post S w w' g (dropS s name)) := by
  have hb := Lib.hid (fun w' (hb : Below w.heap.size w w') => Post.of_below h hb)
  have H := Lib.hid h
  have hri := hs.ri
  have hni := hs.ni
  have htk : Hid (∀ X, Below w.heap.size w X → Calls Try.prog 32 #[.pointer (some ⟨g, 0, none⟩)] X fun e w' => e = .returned (.bool (tk s.outs)) ∧ Post (fun k => S k ∧ k < w.heap.size) X w' g { s with outs := s.outs.tail }) :=
    fun X hX => take_c g s _ X ((h.mono (T := fun k => S k ∧ k < w.heap.size) fun k hk c => ⟨c, hk⟩).below hX)
  obtain ⟨AQ, nq, cq, AB, nb, cb, AI, ni, ci, hL⟩ := h
  have hlen := hL.lens.2.2
  have m3 : w.cell? ⟨g, 3, none⟩ = some (.slice AI ni ci) := hL.blk.cell 3
  have hdr := Lib.hid (drop_c AI ni ci s.im name w hL.i.sl hri hlen (by omega) (row_nil hL.i))
  clear hL hs hri
  cases hh : Str.has (nms s.im) name
  · rw [hh] at hdr
    clear hh htk
    generalize (dropI s.im name).length = nn at *
    go_enter Try.func22, Try.ntmps22
    go_wp2_with fail
    refine hdr.out.mono ?_
    rintro e w1 ⟨A', c', rfl, hR, hb1, hA⟩
    have P1 := Lib.hid (hb.out _ hb1)
    clear hdr hR hb1 hA hb
    go_wp2_with fail
    go_ret2
    exact ⟨fun _ => ⟨rfl, P1.out⟩, fun c => (by cases c)⟩
  · rw [hh] at hdr
    clear hh
    have hS : Hid (∀ b, tk s.outs = b → dropS s name = { s with outs := s.outs.tail, im := if b then dropI s.im name else s.im }) := by
      rintro _ rfl
      rfl
    generalize (dropI s.im name).length = nn at *
    obtain ⟨tb, htb⟩ : ∃ tb, tb = tk s.outs := ⟨_, rfl⟩
    have eS := Lib.hid (hS.out tb htb.symm)
    rw [← htb] at htk ⊢
    clear htb hS
    cases tb
    · go_enter Try.func22, Try.ntmps22
      go_wp2_with fail
      refine hdr.out.mono ?_
      rintro e w1 ⟨A', c', rfl, hR, hb1, hA⟩
      have HB := Lib.hid hb1
      have HR := Lib.hid hR
      have HA := Lib.hid hA
      clear hdr hR hb1 hA hb
      go_wp2_with fail
      refine (htk.out _ HB.out).mono ?_
      rintro e w2 ⟨rfl, hp⟩
      have P2 := Lib.hid (post_drop H.out HB.out hp HR.out HA.out).2.2.1
      clear htk hp
      go_wp2_with fail
      go_ret2
      exact ⟨fun c => (by cases c), fun _ => ⟨rfl, by rw [eS.out]; exact P2.out⟩⟩
    · go_enter Try.func22, Try.ntmps22
      go_wp2_with fail
      refine hdr.out.mono ?_
      rintro e w1 ⟨A', c', rfl, hR, hb1, hA⟩
      have HB := Lib.hid hb1
      have HR := Lib.hid hR
      have HA := Lib.hid hA
      clear hdr hR hb1 hA hb
      go_wp2_with fail
      refine (htk.out _ HB.out).mono ?_
      rintro e w2 ⟨rfl, hp⟩
      obtain ⟨⟨v, k3⟩, kf, _, hp3⟩ := post_drop H.out HB.out hp HR.out HA.out
      have P3 := Lib.hid hp3
      clear htk hp hp3
      go_wp2_with fail
      go_ret2
      exact ⟨fun c => (by cases c), fun _ => ⟨rfl, by rw [eS.out]; exact P3.out⟩⟩
theorem dropH {wr w : World} {ks : Nat → Prop} {g : Nat} {s : St} {name : ByteArray} (h : Has wr ks w g s) (hs : Good s) :
    Calls Try.prog 22 #[.pointer (some ⟨g, 0, none⟩), .string name] w fun e w' => (Str.has (nms s.im) name = false → e = .returned (.tuple #[.bool false, .int .i64 4]) ∧ Has wr ks w' g s) ∧ (Str.has (nms s.im) name = true → e = .returned (.tuple #[.bool (tk s.outs), .int .i64 0]) ∧ Has wr ks w' g (dropS s name)) := by
  obtain ⟨S, h1, h2, h3⟩ := h
  exact (wdrop_c g s S name w h1 hs).mono fun e w' p => ⟨fun c => ⟨(p.1 c).1, Has.step h2 h3 (p.1 c).2⟩, fun c => ⟨(p.2 c).1, Has.step h2 h3 (p.2 c).2⟩⟩
end Wo
end Go.Proofs.Ythccojfflmfggaa
/- Words of layer 16 (world): structs compared. -/
namespace Go.Proofs.Ythccojfflmfggaa
namespace Wo
set_option maxRecDepth 100000 in
theorem equal_box (w : World) (k : Nat) (a b c d : Int) : (Op.equalIn (k + 1 + 1) 44 (.agg #[.int .i64 a, .int .i64 b]) (.agg #[.int .i64 c, .int .i64 d])).run Try.prog w = .ok (decide (a = c ∧ b = d)) w := by
  have f1 : Try.prog.underlying 44 = some (.struct (Try.prog.fieldsOf 44)) := by kernel_rfl
  have f2 : Try.prog.stoodInHeld 44 = false := by kernel_rfl
  have f3 : Try.prog.underlying 3 = some (.int .i64) := by kernel_rfl
  have f4 : (Try.prog.fieldsOf 44).toList.map (fun f => (f.name, f.type, f.offset)) = [("State", 3, 0), ("Tries", 3, 1)] := by kernel_rfl
  rw [run_equalIn_agg w (k + 1) _ _ _ f1 f2]
  clear f1 f2
  generalize (Try.prog.fieldsOf 44).toList = l at f4 ⊢
  match l, f4 with
  | [], f4 => simp at f4
  | [_], f4 => simp at f4
  | _ :: _ :: _ :: _, f4 => simp at f4
  | [x, y], f4 =>
    simp only [List.map_cons, List.map_nil, List.cons.injEq, Prod.mk.injEq, and_true] at f4
    obtain ⟨⟨n1, t1, o1⟩, n2, t2, o2⟩ := f4
    simp [go_sem, n1, t1, o1, n2, t2, o2, f3, Op.eqFields]
    by_cases h : a = c <;> by_cases h2 : b = d <;> simp [h, h2]
theorem eq_box (w : World) (a b c d : Int) : (binOp .eql 44 (.agg #[.int .i64 a, .int .i64 b]) (.agg #[.int .i64 c, .int .i64 d])).run Try.prog w = .ok (.bool (decide (a = c ∧ b = d))) w := by
  rw [run_eql_struct, equal_box w 9998]
  rfl
theorem neq_box (w : World) (a b c d : Int) : (binOp .neq 44 (.agg #[.int .i64 a, .int .i64 b]) (.agg #[.int .i64 c, .int .i64 d])).run Try.prog w = .ok (.bool (!decide (a = c ∧ b = d))) w := by
  rw [run_neq_struct, equal_box w 9998]
  rfl
theorem bytes_eq {a b : ByteArray} (h : a.toList = b.toList) : a = b := by
  rw [ByteArray.toList_eq, ByteArray.toList_eq] at h
  obtain ⟨⟨x⟩⟩ := a
  obtain ⟨⟨y⟩⟩ := b
  simpa using h
def sameI (p q : ImgV) : Bool := decide (p.name.toList = q.name.toList ∧ p.size = q.size ∧ p.last = q.last)
theorem sameI_iff {p q : ImgV} : sameI p q = true ↔ p = q := by
  unfold sameI
  rw [decide_eq_true_iff]
  constructor
  · rintro ⟨h1, h2, h3⟩
    obtain ⟨n, s, r⟩ := p
    obtain ⟨n', s', r'⟩ := q
    dsimp only at h1 h2 h3
    rw [bytes_eq h1, h2, h3]
  · rintro rfl
    exact ⟨rfl, rfl, rfl⟩
theorem sameI_self (p : ImgV) : sameI p p = true := sameI_iff.2 rfl
set_option maxRecDepth 100000 in
theorem equal_img (w : World) (k : Nat) (p q : ImgV) : (Op.equalIn (k + 1 + 1) 54 (.agg p.arr) (.agg q.arr)).run Try.prog w = .ok (sameI p q) w := by
  have f1 : Try.prog.underlying 54 = some (.struct (Try.prog.fieldsOf 54)) := by kernel_rfl
  have f2 : Try.prog.stoodInHeld 54 = false := by kernel_rfl
  have f3 : Try.prog.underlying 3 = some (.int .i64) := by kernel_rfl
  have f5 : Try.prog.underlying 9 = some .string := by kernel_rfl
  have f4 : (Try.prog.fieldsOf 54).toList.map (fun f => (f.name, f.type, f.offset)) = [("Name", 9, 0), ("Size", 3, 1), ("Last", 3, 2)] := by kernel_rfl
  obtain ⟨n, s, r⟩ := p
  obtain ⟨n', s', r'⟩ := q
  unfold ImgV.arr
  dsimp only
  rw [run_equalIn_agg w (k + 1) _ _ _ f1 f2]
  clear f1 f2
  generalize (Try.prog.fieldsOf 54).toList = l at f4 ⊢
  match l, f4 with
  | [], f4 => simp at f4
  | [_], f4 => simp at f4
  | [_, _], f4 => simp at f4
  | _ :: _ :: _ :: _ :: _, f4 => simp at f4
  | [x, y, z], f4 =>
    simp only [List.map_cons, List.map_nil, List.cons.injEq, Prod.mk.injEq, and_true] at f4
    obtain ⟨⟨n1, t1, o1⟩, ⟨n2, t2, o2⟩, n3, t3, o3⟩ := f4
    simp [go_sem, n1, t1, o1, n2, t2, o2, n3, t3, o3, f3, f5, Op.eqFields, sameI]
    by_cases h : n.toList = n'.toList <;> by_cases h2 : s = s' <;> by_cases h3 : r = r' <;> simp [h, h2, h3]
theorem eq_img (w : World) (p q : ImgV) : (binOp .eql 54 (.agg p.arr) (.agg q.arr)).run Try.prog w = .ok (.bool (sameI p q)) w := by
  rw [ImgV.arr, ImgV.arr, run_eql_struct, ← ImgV.arr, ← ImgV.arr, equal_img w 9998]
  rfl
theorem neq_img (w : World) (p q : ImgV) : (binOp .neq 54 (.agg p.arr) (.agg q.arr)).run Try.prog w = .ok (.bool (!sameI p q)) w := by
  rw [ImgV.arr, ImgV.arr, run_neq_struct, ← ImgV.arr, ← ImgV.arr, equal_img w 9998]
  rfl
end Wo
end Go.Proofs.Ythccojfflmfggaa
/- The walks of the document's layers 15 and 16: where a name stands. -/
namespace Go.Proofs.Ythccojfflmfggaa
open Go.RowKit
namespace Wo
theorem ret_int {k : IntKind} {a b : Int} (h : a = b) : Ending.returned (.int k a) = .returned (.int k b) := by rw [h]
/-- where a name stands, by the document -/
def plc (l : List ByteArray) (s : ByteArray) : Int := if Str.has l s then (Str.pos l s : Int) else -1
theorem pos_of_at {l : List ByteArray} {s : ByteArray} {k : Nat} (hr : Str.Rises l) (hk : k < l.length) (e : l[k] = s) : Str.pos l s = k ∧ Str.has l s = true := by
  have hh : Str.has l s = true := Str.has_iff.2 (by rw [← e]; exact List.getElem_mem hk)
  refine ⟨?_, hh⟩
  obtain ⟨hp, e2⟩ := Str.has_at hr hh
  rcases Nat.lt_trichotomy (Str.pos l s) k with h | h | h
  · have := List.pairwise_iff_getElem.1 hr _ _ hp hk h
    rw [e, e2, Str.cmp_self] at this
    omega
  · exact h
  · have := List.pairwise_iff_getElem.1 hr _ _ hk hp h
    rw [e, e2, Str.cmp_self] at this
    omega
theorem plc_at {l : List ByteArray} {s : ByteArray} {k : Nat} (hr : Str.Rises l) (hk : k < l.length) (e : l[k] = s) : plc l s = k := by
  obtain ⟨h1, h2⟩ := pos_of_at hr hk e
  unfold plc
  rw [h1, h2, if_pos rfl]
theorem plc_none {l : List ByteArray} {s : ByteArray} (h : ∀ (j : Nat) (hj : j < l.length), l[j] ≠ s) : plc l s = -1 := by
  have : Str.has l s = false := by
    cases hh : Str.has l s
    · rfl
    · obtain ⟨j, hj, e⟩ := List.getElem_of_mem (Str.has_iff.1 hh)
      exact absurd e (h j hj)
  unfold plc
  rw [this, if_neg (by decide)]
set_option maxRecDepth 100000 in
set_option maxHeartbeats 1000000 in
theorem place_c (A : Option Addr) (n c B : Nat) (bx : List ConV) (s : ByteArray) (w : World) (h : Mem.Sl w B 4 A n (ConV.flat bx)) (hr : Str.Rises (ids bx)) (hlen : bx.length = n) (hn : n ≤ 1000000) :
    Calls Try.prog 25 #[.slice A n c, .string s] w fun e w' => e = .returned (.int .i64 (plc (ids bx) s)) ∧ w' = w := by
  have Hr := Lib.hid hr
  have Hl := Lib.hid hlen
  have H := Lib.hid h
  clear hr hlen h
  go_enter Try.func25, Try.ntmps25
  go_wp2_with fail
  go_loop [5] (fun vi => ∃ k : Nat, k ≤ n ∧ vi = .int .i64 k ∧ Hid (∀ (j : Nat) (hj : j < (ids bx).length), j < k → (ids bx)[j] ≠ s)) (fun i => n - (intOf i).toNat)
  case atStart => exact ⟨0, by omega, rfl, fun j hj c => absurd c (by omega)⟩
  case round =>
    obtain ⟨k, hk, rfl, HN⟩ := hrel
    by_cases hlt : k < n
    · obtain ⟨ad, hl, rfl, _, _, hat⟩ := ConV.at_ H.out hlt
      have c0 := hat.c0
      have hl2 : k < (ids bx).length := by rw [ids_len]; exact hl
      have he := Lib.hid (ids_at hl hl2)
      generalize bx[k].id = t at *
      clear hat
      by_cases hts : t = s
      · subst hts
        have hfin := Lib.hid (plc_at Hr.out hl2 he.out)
        clear he hl hl2
        go_wp2_with fail
        go_ret
        exact ⟨ret_int hfin.out.symm, rfl⟩
      · have hnext : Hid (∀ (j : Nat) (hj : j < (ids bx).length), j < k + 1 → (ids bx)[j] ≠ s) := fun j hj hjk => by
          rcases Nat.lt_succ_iff_lt_or_eq.1 hjk with h | h
          · exact HN.out j hj h
          · subst h; rw [he.out]; exact hts
        have hx : (t.toList == s.toList) = false := beq_eq_false_iff_ne.2 (fun e => hts (bytes_eq e))
        clear he hl hl2 hts
        go_wp2_with fail
        go_round
        case rel => exact ⟨k + 1, by omega, by go_num, hnext⟩
        case measure => simp [intOf]; omega
    · obtain rfl : k = n := by omega
      have hfin := Lib.hid (plc_none (l := ids bx) (s := s) (fun j hj => HN.out j hj (by rw [ids_len, Hl.out] at hj; exact hj)))
      go_wp2_with fail
      go_ret
      exact ⟨ret_int hfin.out.symm, rfl⟩
set_option maxRecDepth 100000 in
set_option maxHeartbeats 1000000 in
theorem iplace_c (A : Option Addr) (n c B : Nat) (bx : List ImgV) (s : ByteArray) (w : World) (h : Mem.Sl w B 3 A n (ImgV.flat bx)) (hr : Str.Rises (nms bx)) (hlen : bx.length = n) (hn : n ≤ 1000000) :
    Calls Try.prog 62 #[.slice A n c, .string s] w fun e w' => e = .returned (.int .i64 (plc (nms bx) s)) ∧ w' = w := by
  have Hr := Lib.hid hr
  have Hl := Lib.hid hlen
  have H := Lib.hid h
  clear hr hlen h
  go_enter Try.func62, Try.ntmps62
  go_wp2_with fail
  go_loop [5] (fun vi => ∃ k : Nat, k ≤ n ∧ vi = .int .i64 k ∧ Hid (∀ (j : Nat) (hj : j < (nms bx).length), j < k → (nms bx)[j] ≠ s)) (fun i => n - (intOf i).toNat)
  case atStart => exact ⟨0, by omega, rfl, fun j hj c => absurd c (by omega)⟩
  case round =>
    obtain ⟨k, hk, rfl, HN⟩ := hrel
    by_cases hlt : k < n
    · obtain ⟨ad, hl, rfl, _, _, hat⟩ := ImgV.at_ H.out hlt
      have c0 := hat.c0
      have hl2 : k < (nms bx).length := by rw [nms_len]; exact hl
      have he := Lib.hid (nms_at hl hl2)
      generalize bx[k].name = t at *
      clear hat
      by_cases hts : t = s
      · subst hts
        have hfin := Lib.hid (plc_at Hr.out hl2 he.out)
        clear he hl hl2
        go_wp2_with fail
        go_ret
        exact ⟨ret_int hfin.out.symm, rfl⟩
      · have hnext : Hid (∀ (j : Nat) (hj : j < (nms bx).length), j < k + 1 → (nms bx)[j] ≠ s) := fun j hj hjk => by
          rcases Nat.lt_succ_iff_lt_or_eq.1 hjk with h | h
          · exact HN.out j hj h
          · subst h; rw [he.out]; exact hts
        have hx : (t.toList == s.toList) = false := beq_eq_false_iff_ne.2 (fun e => hts (bytes_eq e))
        clear he hl hl2 hts
        go_wp2_with fail
        go_round
        case rel => exact ⟨k + 1, by omega, by go_num, hnext⟩
        case measure => simp [intOf]; omega
    · obtain rfl : k = n := by omega
      have hfin := Lib.hid (plc_none (l := nms bx) (s := s) (fun j hj => HN.out j hj (by rw [nms_len, Hl.out] at hj; exact hj)))
      go_wp2_with fail
      go_ret
      exact ⟨ret_int hfin.out.symm, rfl⟩
end Wo
end Go.Proofs.Ythccojfflmfggaa
/- Words of layer 16 (world): a row that a function builds, one element behind the other. -/
namespace Go.Proofs.Ythccojfflmfggaa
open Go.RowKit
namespace Wo
/-- a row of the call's own, that came about since W -/
structure Bld (W w : World) (e : TypeId) (k : Nat) (A : Option Addr) (n c : Nat) (xs : List Value) : Prop where
  below : Below W.heap.size W w
  row : Ro.Row w e k A n c xs
  fresh : ∀ b, Ro.blk A = some b → W.heap.size ≤ b
section
variable {P : Program} {W w w' : World} {t e : TypeId} {z : Value} {k bytes n c : Nat} {A : Option Addr} {xs : List Value}
theorem Bld.nil (hb : Below W.heap.size W w) : Bld W w e k none 0 0 [] :=
  ⟨hb, ⟨by simp, Nat.le_refl _, Nat.zero_le _, .inl ⟨rfl, rfl⟩⟩, fun b h => by cases h⟩
theorem Bld.free (h : Bld W w e k A n c xs) (hb : Below w.heap.size w w') : Bld W w' e k A n c xs :=
  ⟨h.below.trans (hb.mono h.below.size), h.row.keep fun b hk => hb.block b (h.row.lt hk), h.fresh⟩
theorem Bld.drew (h : Bld W w e k A n c xs) : Bld W w.drew e k A n c xs := h.free (Below.refl _ _).drew
theorem Bld.push (E : Mem.El P t e z k bytes) (h : Bld W w e k A n c xs) (cs : Array Value) (hk : cs.size = k) (h1 : ∀ u ∈ cs.toList, u.oneCell' = true) (hn : n ≤ 100000) (hb : bytes ≤ 1000) {N : Nat} (hN : w.heap.size = N) :
    ∃ A' c' w', (Builtin.append_ #[t, t] t #[.slice A n c, .slice (some ⟨N, 0, none⟩) 1 1]).run P (w.alloc (.cells cs e)) = .ok (.slice A' (n + 1) c') w' ∧ Bld W w' e k A' (n + 1) c' (xs ++ cs.toList) ∧ Ro.Only (fun b => Ro.blk A = some b) w w' := by
  subst hN
  have hz := h.below.size
  have h0 : Below w.heap.size w (w.alloc (.cells cs e)) := (Below.refl _ _).alloc (Nat.le_refl _) _
  have hbb : (n + 1) * bytes ≤ 140737488355328 := by
    have : (n + 1) * bytes ≤ 100001 * 1000 := Nat.mul_le_mul (by omega) hb
    omega
  obtain ⟨A', c', w', hr, hR, hO, hA⟩ := Ro.app (P := P) (ty := t) (c2 := 1) E (h.row.keep fun b hb => h0.block b (h.row.lt hb)) (Mem.new_sl (w := w) (n := 1) (cs := cs) (e := e) rfl (by omega) rfl) h1 (by unfold maxLen; omega) hbb
  refine ⟨A', c', w', hr, ⟨(h.below.trans (h0.mono hz)).trans (hO.below (by simp; omega) (fun b hb e => by have := h.fresh b e; omega)), hR, fun b hb => ?_⟩, (Ro.Only.of_below h0).trans hO (fun _ _ e => e)⟩
  rcases hA with e | e
  · rw [e] at hb; exact h.fresh b hb
  · rw [e] at hb
    have : w.heap.size + 1 = b := by simpa using hb
    omega
end
end Wo
end Go.Proofs.Ythccojfflmfggaa
