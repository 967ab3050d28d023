/- The walks of layer 16 (world): where a container stands; what waits; all containers, all images; a container by itself; what may be asked. -/
import Derived.Test.YthccojfflmfggaaWorW
import Derived.Test.YthccojfflmfggaaBoxD
namespace Go.Proofs.Ythccojfflmfggaa
open Go.RowKit
namespace Wo
/-- a runtime that is in order, and not too great -/
structure Good (s : St) : Prop where
  rb : Str.Rises (ids s.bx)
  ri : Str.Rises (nms s.im)
  ok : ∀ p ∈ s.bx, Box.Ok (p.st, p.tr)
  nb : s.bx.length ≤ 100000
  ni : s.im.length ≤ 100000
  no : s.outs.length ≤ 4096
theorem row_nil {w : World} {e : TypeId} {k n c : Nat} {A : Option Addr} {xs : List Value} (h : Ro.Row w e k A n c xs) (hA : A = none) : n = 0 ∧ c = 0 := by
  obtain ⟨h1, h2, _, ⟨_, h3⟩ | ⟨g, off, cur, e, _⟩⟩ := h
  · omega
  · rw [hA] at e; cases e
set_option maxRecDepth 100000 in
set_option maxHeartbeats 4000000 in
theorem cloneb_c (A : Option Addr) (n c : Nat) (bs : List Bool) (w : World) (h : Mem.Sl w w.heap.size 1 A n (bs.map Value.bool)) (hn : n ≤ 1000000) (hA : A = none → n = 0 ∧ c = 0) :
    Calls Try.prog 35 #[.slice A n c] w fun e w' => ∃ A' c', e = .returned (.slice A' n c') ∧ QRow w' A' n c' bs ∧ Below w.heap.size w w' ∧ ∀ b, Ro.blk A' = some b → w.heap.size ≤ b := by
  cases A with
  | none =>
    obtain ⟨rfl, rfl⟩ := hA rfl
    have hb : bs = [] := by
      have := h.1
      exact List.eq_nil_of_length_eq_zero (by simpa using this)
    subst hb
    have hnil : ∀ w, (binOp .eql 22 (.slice none 0 0) (.slice none 0 0)).run Try.prog w = .ok (.bool true) w := fun w => by kernel_rfl
    go_enter Try.func35, Try.ntmps35
    go_wp2_with fail
    go_ret
    exact ⟨_, _, rfl, Ro.Row.nil, Below.refl _ _, fun b hb => by cases hb⟩
  | some ad =>
    have hnew : Ro.Row (w.alloc (.cells #[] 4)) 4 1 (some ⟨w.heap.size, 0, none⟩) 0 0 [] := Ro.Row.new (cs := #[]) rfl (by decide)
    obtain ⟨A', c', w', hr, hR, hO, hb⟩ := Ro.app (P := Try.prog) (ty := 22) (c2 := c) elb hnew (h.alloc (Nat.le_refl _) _) (by intro u hu; obtain ⟨b, _, rfl⟩ := List.mem_map.1 hu; rfl) (by unfold maxLen; omega) (by omega)
    simp only [Nat.zero_add, List.nil_append] at hr hR
    have hfin : Hid (QRow w' A' n c' bs ∧ Below w.heap.size w w' ∧ ∀ b, Ro.blk A' = some b → w.heap.size ≤ b) := by
      refine ⟨hR, ((Ro.Only.refl (fun _ => False) w).alloc _ |>.trans hO (T := fun b => Ro.blk (some ⟨w.heap.size, 0, none⟩) = some b) (fun k hk e => ?_)).below (Nat.le_refl _) (fun _ _ c => c), fun b hb2 => ?_⟩
      · have : w.heap.size = k := by simpa [Ro.blk] using e
        omega
      · rcases hb with hb | hb
        · rw [hb] at hb2
          have : w.heap.size = b := by simpa [Ro.blk] using hb2
          omega
        · rw [hb] at hb2
          have : (w.alloc (.cells #[] 4)).heap.size = b := by simpa using hb2
          simp at this
          omega
    clear h hnew hR hO hb hA
    have hnil : ∀ w, (binOp .eql 22 (.slice (some ad) n c) (.slice none 0 0)).run Try.prog w = .ok (.bool false) w := fun w => by kernel_rfl
    go_enter Try.func35, Try.ntmps35
    go_wp2_with (at_builtin; refine Ro.wpList_app rfl _ _ _ _ rfl _ _ rfl rfl hr ?_)
    go_ret
    exact ⟨_, _, rfl, hfin.out⟩
set_option maxRecDepth 100000 in
theorem waiting_c (g : Nat) (s : St) (S : Nat → Prop) (w : World) (h : At w g s S) (hs : Good s) :
    Calls Try.prog 16 #[.pointer (some ⟨g, 0, none⟩)] w fun e w' => ∃ A' c', e = .returned (.slice A' s.outs.length c') ∧ QRow w' A' s.outs.length c' s.outs ∧ Below w.heap.size w w' ∧ ∀ b, Ro.blk A' = some b → w.heap.size ≤ b := by
  obtain ⟨AQ, nq, cq, AB, nb, cb, AI, ni, ci, h⟩ := h
  obtain ⟨l1, _, _⟩ := h.lens
  have m0 : w.cell? ⟨g, 0, none⟩ = some (.slice AQ nq cq) := h.blk.cell 0
  have hno := hs.no
  have hc := Lib.hid (cloneb_c AQ nq cq s.outs w h.q.sl (by omega) (row_nil h.q))
  rw [l1]
  clear h hs
  go_enter Try.func16, Try.ntmps16
  go_wp2_with fail
  refine hc.out.mono ?_
  rintro e w' ⟨A', c', rfl, h2⟩
  go_wp2_with fail
  go_ret
  exact ⟨_, _, rfl, h2⟩
set_option maxRecDepth 100000 in
theorem containers_c (g : Nat) (s : St) (S : Nat → Prop) (w : World) (h : At w g s S) (hs : Good s) :
    Calls Try.prog 17 #[.pointer (some ⟨g, 0, none⟩)] w (CloneSaid s.bx.length s.bx w) := by
  obtain ⟨AQ, nq, cq, AB, nb, cb, AI, ni, ci, h⟩ := h
  obtain ⟨_, l1, _⟩ := h.lens
  have m2 : w.cell? ⟨g, 2, none⟩ = some (.slice AB nb cb) := h.blk.cell 2
  have hno := hs.nb
  have hc := Lib.hid (clone_c AB nb cb s.bx w h.b.sl (by omega) (row_nil h.b))
  rw [l1]
  clear h hs
  go_enter Try.func17, Try.ntmps17
  go_wp2_with fail
  refine hc.out.mono ?_
  rintro e w' ⟨A', c', rfl, h2⟩
  go_wp2_with fail
  go_ret
  exact ⟨_, _, rfl, h2⟩
set_option maxRecDepth 100000 in
theorem images_c (g : Nat) (s : St) (S : Nat → Prop) (w : World) (h : At w g s S) (hs : Good s) :
    Calls Try.prog 20 #[.pointer (some ⟨g, 0, none⟩)] w (CloneISaid s.im.length s.im w) := by
  obtain ⟨AQ, nq, cq, AB, nb, cb, AI, ni, ci, h⟩ := h
  obtain ⟨_, _, l1⟩ := h.lens
  have m3 : w.cell? ⟨g, 3, none⟩ = some (.slice AI ni ci) := h.blk.cell 3
  have hno := hs.ni
  have hc := Lib.hid (clonei_c AI ni ci s.im w h.i.sl (by omega) (row_nil h.i))
  rw [l1]
  clear h hs
  go_enter Try.func20, Try.ntmps20
  go_wp2_with fail
  refine hc.out.mono ?_
  rintro e w' ⟨A', c', rfl, h2⟩
  go_wp2_with fail
  go_ret
  exact ⟨_, _, rfl, h2⟩
set_option maxRecDepth 100000 in
theorem at_c (g : Nat) (s : St) (S : Nat → Prop) (id : ByteArray) (w : World) (h : At w g s S) (hs : Good s) :
    Calls Try.prog 27 #[.pointer (some ⟨g, 0, none⟩), .string id] w fun e w' => e = .returned (.tuple #[.int .i64 (Str.pos (ids s.bx) id), .bool (Str.has (ids s.bx) id)]) ∧ Below w.heap.size w w' := by
  obtain ⟨AQ, nq, cq, AB, nb, cb, AI, ni, ci, h⟩ := h
  obtain ⟨_, l1, _⟩ := h.lens
  have m2 : w.cell? ⟨g, 2, none⟩ = some (.slice AB nb cb) := h.blk.cell 2
  have hno := hs.nb
  have hc := Lib.hid (search_c AB nb cb s.bx id w h.b.sl hs.rb l1 (by omega))
  generalize Str.pos (ids s.bx) id = P at *
  generalize Str.has (ids s.bx) id = F at *
  clear h hs
  go_enter Try.func27, Try.ntmps27
  go_wp2_with fail
  refine hc.out.mono ?_
  rintro e w' ⟨rfl, h2⟩
  go_wp2_with fail
  go_ret2
  exact ⟨rfl, h2⟩
/-- a container of a name -/
def the (bx : List ConV) (id : ByteArray) : Option ConV := if Str.has (ids bx) id then bx[Str.pos (ids bx) id]? else none
theorem the_some {bx : List ConV} {id : ByteArray} (hr : Str.Rises (ids bx)) (h : Str.has (ids bx) id = true) : ∃ (hl : Str.pos (ids bx) id < bx.length), the bx id = some bx[Str.pos (ids bx) id] ∧ bx[Str.pos (ids bx) id].id = id := by
  obtain ⟨hp, e⟩ := Str.has_at hr h
  have hl : Str.pos (ids bx) id < bx.length := by rw [ids_len] at hp; exact hp
  refine ⟨hl, ?_, ?_⟩
  · unfold the
    rw [h, if_pos rfl, List.getElem?_eq_getElem hl]
  · rw [← ids_at hl hp]; exact e
theorem the_none {bx : List ConV} {id : ByteArray} (h : Str.has (ids bx) id = false) : the bx id = none := by
  unfold the
  rw [h]
  rfl
def boxOf (bx : List ConV) (id : ByteArray) : Int × Int := match the bx id with | some p => (p.st, p.tr) | none => (0, 0)
set_option maxRecDepth 100000 in
set_option maxHeartbeats 1000000 in
theorem box_c (g : Nat) (s : St) (S : Nat → Prop) (id : ByteArray) (w : World) (h : At w g s S) (hs : Good s) :
    Calls Try.prog 19 #[.pointer (some ⟨g, 0, none⟩), .string id] w fun e w' => e = .returned (.tuple #[.agg #[.int .i64 (boxOf s.bx id).1, .int .i64 (boxOf s.bx id).2], .bool (Str.has (ids s.bx) id)]) ∧ Below w.heap.size w w' := by
  have hat := fun w' (hb : Below w.heap.size w w') => at_c g s S id w' (h.below hb) hs
  obtain ⟨AQ, nq, cq, AB, nb, cb, AI, ni, ci, h⟩ := h
  obtain ⟨_, l1, _⟩ := h.lens
  cases hh : Str.has (ids s.bx) id
  · have HB : Hid (boxOf s.bx id = (0, 0)) := by show _ = _; unfold boxOf; rw [the_none hh]
    rw [hh] at hat
    have Hat := Lib.hid hat
    generalize Str.pos (ids s.bx) id = P at *
    generalize boxOf s.bx id = q at *
    clear h hs hh hat
    go_enter Try.func19, Try.ntmps19
    go_wp2_with fail
    refine (Hat.out _ ((Below.refl _ _).alloc (Nat.le_refl _) _)).mono ?_
    rintro e w1 ⟨rfl, hb1⟩
    have N1 := Mem.Blk.belowS (Mem.Blk.new (w := w) (t := 44) (cs := #[.int .i64 0, .int .i64 0])) hb1
    have hr1 : w1.cell? ⟨w.heap.size, 0, none⟩ = some (.int .i64 0) := N1.cell 0
    have hr2 : w1.cell? ⟨w.heap.size, 1, none⟩ = some (.int .i64 0) := N1.cell 1
    have hf1 := N1.frozen
    have hbl : Below w.heap.size w w1 := ((Below.refl _ _).alloc (Nat.le_refl _) _).trans (hb1.mono (by simp))
    clear N1 hb1
    go_wp2_with fail
    refine bodyPost_ret (v := .tuple #[.agg #[.int .i64 0, .int .i64 0], .bool false]) (by simp [results, Try.results19, go_sem, hr1, hr2]) rfl ⟨by rw [HB.out], ?_⟩
    exact (hbl.setCell (by simp) _).setCell (by simp) _
  · obtain ⟨hl, ht, _⟩ := the_some hs.rb hh
    have HB : Hid (boxOf s.bx id = (s.bx[Str.pos (ids s.bx) id].st, s.bx[Str.pos (ids s.bx) id].tr)) := by show _ = _; unfold boxOf; rw [ht]
    rw [hh] at hat
    have Hat := Lib.hid hat
    obtain ⟨ad, hl2, rfl, hbk, _, hc⟩ := ConV.at_ h.b.sl (k := Str.pos (ids s.bx) id) (by omega)
    obtain ⟨q, hq⟩ : ∃ q, q = s.bx[Str.pos (ids s.bx) id] := ⟨_, rfl⟩
    rw [← hq] at HB hc
    clear hq ht hh hat
    obtain ⟨P, hP⟩ : ∃ P, P = Str.pos (ids s.bx) id := ⟨_, rfl⟩
    rw [← hP] at Hat hc hl hl2
    clear hP
    obtain ⟨qi, qs, qt, ql⟩ := q
    dsimp only at HB
    have m2 : w.cell? ⟨g, 2, none⟩ = some (.slice (some ad) nb cb) := h.blk.cell 2
    have hglt := h.blk.lt
    have hP : P < nb := by omega
    generalize boxOf s.bx id = r at *
    clear h hs hl2 hl l1
    go_enter Try.func19, Try.ntmps19
    go_wp2_with fail
    refine (Hat.out _ ((Below.refl _ _).alloc (Nat.le_refl _) _)).mono ?_
    rintro e w1 ⟨rfl, hb1⟩
    have N1 := Mem.Blk.belowS (Mem.Blk.new (w := w) (t := 44) (cs := #[.int .i64 0, .int .i64 0])) hb1
    have hr1 : w1.cell? ⟨w.heap.size, 0, none⟩ = some (.int .i64 0) := N1.cell 0
    have hr2 : w1.cell? ⟨w.heap.size, 1, none⟩ = some (.int .i64 0) := N1.cell 1
    have hf1 := N1.frozen
    have hbl : Below w.heap.size w w1 := ((Below.refl _ _).alloc (Nat.le_refl _) _).trans (hb1.mono (by simp))
    have m2' : w1.cell? ⟨g, 2, none⟩ = some (.slice (some ad) nb cb) := (hbl.cell (p := ⟨g, 2, none⟩) hglt).trans m2
    have hc' := hc.below hbl (by rw [Mem.add_block]; exact hbk)
    obtain ⟨c0, c1, c2, c3⟩ := hc'
    dsimp only at c0 c1 c2 c3
    have hne : ad.block < w.heap.size := hbk
    clear N1 hb1 m2 hc Hat
    go_wp2_with fail
    refine bodyPost_ret (v := .tuple #[.agg #[.int .i64 qs, .int .i64 qt], .bool true]) (by simp [results, Try.results19, go_sem, hr1, hr2]) rfl ⟨by rw [HB.out], ?_⟩
    exact (hbl.setCell (by simp) _).setCell (by simp) _
/-- may something be asked of a container of a name? -/
def errM (bx : List ConV) (id : ByteArray) (q : Int) : Int := match the bx id with | some p => (if Box.nxt p.st q = 0 then 7 else 0) | none => 4
def plM (bx : List ConV) (id : ByteArray) (q : Int) : Int := if errM bx id q = 0 then (Str.pos (ids bx) id : Int) else 0
set_option maxRecDepth 100000 in
set_option maxHeartbeats 1000000 in
theorem wmay_c (g : Nat) (s : St) (S : Nat → Prop) (id : ByteArray) (q : Int) (w : World) (h : At w g s S) (hs : Good s) (hq : (Lit.int .i64 q).wf = true) :
    Calls Try.prog 30 #[.pointer (some ⟨g, 0, none⟩), .string id, .int .i64 q] w fun e w' => e = .returned (.tuple #[.int .i64 (plM s.bx id q), .int .i64 (errM s.bx id q)]) ∧ Below w.heap.size w w' := by
  have hat := at_c g s S id w h hs
  obtain ⟨AQ, nq, cq, AB, nb, cb, AI, ni, ci, h⟩ := h
  obtain ⟨_, l1, _⟩ := h.lens
  cases hh : Str.has (ids s.bx) id
  · have HE : Hid (errM s.bx id q = 4) := by show _ = _; unfold errM; rw [the_none hh]
    have HP : Hid (plM s.bx id q = 0) := by show _ = _; unfold plM; rw [if_neg (by rw [HE.out]; decide)]
    rw [hh] at hat
    have Hat := Lib.hid hat
    generalize Str.pos (ids s.bx) id = P at *
    generalize errM s.bx id q = E at *
    generalize plM s.bx id q = L at *
    clear h hs hh hat
    go_enter Try.func30, Try.ntmps30
    go_wp2_with fail
    refine Hat.out.mono ?_
    rintro e w1 ⟨rfl, hb1⟩
    go_wp2_with fail
    go_ret2
    exact ⟨by rw [HE.out, HP.out]; rfl, hb1⟩
  · obtain ⟨hl, ht, _⟩ := the_some hs.rb hh
    have hmem := List.getElem_mem hl
    have hok := hs.ok _ hmem
    have HE : Hid (errM s.bx id q = if Box.nxt s.bx[Str.pos (ids s.bx) id].st q = 0 then 7 else 0) := by show _ = _; unfold errM; rw [ht]
    have HP : Hid (plM s.bx id q = if Box.nxt s.bx[Str.pos (ids s.bx) id].st q = 0 then 0 else (Str.pos (ids s.bx) id : Int)) := by
      show _ = _
      unfold plM
      rw [HE.out]
      split <;> rfl
    rw [hh] at hat
    have Hat := Lib.hid hat
    obtain ⟨ad, hl2, rfl, hbk, _, hc⟩ := ConV.at_ h.b.sl (k := Str.pos (ids s.bx) id) (by omega)
    obtain ⟨p, hp⟩ : ∃ p, p = s.bx[Str.pos (ids s.bx) id] := ⟨_, rfl⟩
    rw [← hp] at HE HP hc hok
    clear hp ht hh hat hmem
    obtain ⟨P, hP⟩ : ∃ P, P = Str.pos (ids s.bx) id := ⟨_, rfl⟩
    rw [← hP] at Hat hc hl hl2 HP
    clear hP
    obtain ⟨qi, qs, qt, ql⟩ := p
    dsimp only at HE HP hok
    have hw1 : (Lit.int .i64 qs).wf = true := WalkArith.wf_i64 (by have := hok.1; have := hok.2.1; dsimp only at *; omega)
    have hm := Lib.hid (fun w => Box.may_c qs qt q w hw1 hq)
    have m2 : w.cell? ⟨g, 2, none⟩ = some (.slice (some ad) nb cb) := h.blk.cell 2
    have hglt := h.blk.lt
    have hP : P < nb := by omega
    generalize errM s.bx id q = E at *
    generalize plM s.bx id q = L at *
    have hz : (Box.nxt qs q != 0) = !(decide (Box.nxt qs q = 0)) := by
      by_cases hz : Box.nxt qs q = 0
      · rw [decide_eq_true hz, hz]; rfl
      · rw [decide_eq_false hz]; exact bne_iff_ne.2 hz
    rw [hz] at hm
    clear h hs hl2 hl l1 hok hw1 hq hz
    go_enter Try.func30, Try.ntmps30
    go_wp2_with fail
    refine Hat.out.mono ?_
    rintro e w1 ⟨rfl, hb1⟩
    have m2' : w1.cell? ⟨g, 2, none⟩ = some (.slice (some ad) nb cb) := (hb1.cell (p := ⟨g, 2, none⟩) hglt).trans m2
    have hc' := hc.below hb1 (by rw [Mem.add_block]; exact hbk)
    obtain ⟨c0, c1, c2, c3⟩ := hc'
    dsimp only at c0 c1 c2 c3
    clear m2 hc Hat
    go_wp2_with fail
    refine (hm.out _).mono ?_
    rintro e w2 ⟨rfl, hb2⟩
    have hb3 : Below w.heap.size w w2 := hb1.trans (hb2.mono hb1.size)
    clear hm hb1 hb2 c0 c1 c2 c3 m2'
    by_cases hz : Box.nxt qs q = 0
    · rw [if_pos hz] at HE HP
      rw [decide_eq_true hz]
      clear hz
      go_wp2_with fail
      go_ret2
      exact ⟨by rw [HE.out, HP.out]; rfl, hb3⟩
    · rw [if_neg hz] at HE HP
      rw [decide_eq_false hz]
      clear hz
      go_wp2_with fail
      go_ret2
      exact ⟨by rw [HE.out, HP.out]; rfl, hb3⟩
set_option maxRecDepth 100000 in
theorem wnew_c (rt : Int) (w : World) : Calls Try.prog 12 #[.int .i64 rt] w fun e w' => e = .returned (.pointer (some ⟨w.heap.size, 0, none⟩)) ∧ At w' w.heap.size ⟨rt, [], [], []⟩ (fun k => k = w.heap.size) ∧ Below w.heap.size w w' := by
  go_enter Try.func12, Try.ntmps12
  go_wp2_with fail
  go_ret
  exact ⟨rfl, ⟨none, 0, 0, none, 0, 0, none, 0, 0, Mem.Blk.new, Ro.Row.nil, Ro.Row.nil, Ro.Row.nil, rfl, fun _ h => by (cases h), fun _ h => by (cases h), fun _ h => by (cases h)⟩, (Below.refl _ _).alloc (Nat.le_refl _) _⟩
end Wo
end Go.Proofs.Ythccojfflmfggaa
