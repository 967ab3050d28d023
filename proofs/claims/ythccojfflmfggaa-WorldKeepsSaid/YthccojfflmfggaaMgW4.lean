/- The walks of layer 16 (world): where a container stands; what waits; all containers, all images; a container by itself; what may be asked. -/
import Derived.Test.YthccojfflmfggaaMgW2
import Derived.Test.YthccojfflmfggaaMgW3
import Derived.Test.YthccojfflmfggaaMgW0
import Derived.Deep.RegionHeld3
import Derived.Deep.Quiet
namespace Go.Proofs.Ythccojfflmfggaa
open Go.RowKit
namespace Wo
/-- a runtime that is in order, and not too great -/
structure Good (s : St) : Prop where
  rb : Str.Rises (ids s.bx)
  ri : Str.Rises (nms s.im)
  ok : ∀ p ∈ s.bx, Box.Ok (p.st, p.tr)
  nb : s.bx.length ≤ 100000
  ni : s.im.length ≤ 100000
  no : s.outs.length ≤ 4096
theorem row_nil {w : World} {e : TypeId} {k n c : Nat} {A : Option Addr} {xs : List Value} (h : Ro.Row w e k A n c xs) (hA : A = none) : n = 0 ∧ c = 0 := by
  obtain ⟨h1, h2, _, ⟨_, h3⟩ | ⟨g, off, cur, e, _⟩⟩ := h
  · omega
  · rw [hA] at e; cases e
set_option maxRecDepth 100000 in
set_option maxHeartbeats 4000000 in
theorem cloneb_c (A : Option Addr) (n c : Nat) (bs : List Bool) (w : World) (h : Mem.Sl w w.heap.size 1 A n (bs.map Value.bool)) (hn : n ≤ 1000000) (hA : A = none → n = 0 ∧ c = 0) :
    Calls Try.prog 35 #[.slice A n c] w fun e w' => ∃ A' c', e = .returned (.slice A' n c') ∧ QRow w' A' n c' bs ∧ Below w.heap.size w w' ∧ ∀ b, Ro.blk A' = some b → w.heap.size ≤ b := by
  cases A with
  | none =>
    obtain ⟨rfl, rfl⟩ := hA rfl
    have hb : bs = [] := by
      have := h.1
      exact List.eq_nil_of_length_eq_zero (by simpa using this)
    subst hb
    have hnil : ∀ w, (binOp .eql 22 (.slice none 0 0) (.slice none 0 0)).run Try.prog w = .ok (.bool true) w := fun w => by kernel_rfl
    go_enter Try.func35, Try.ntmps35
    go_wp2_with fail
    go_ret
    exact ⟨_, _, rfl, Ro.Row.nil, Below.refl _ _, fun b hb => by cases hb⟩
  | some ad =>
    have hnew : Ro.Row (w.alloc (.cells #[] 4)) 4 1 (some ⟨w.heap.size, 0, none⟩) 0 0 [] := Ro.Row.new (cs := #[]) rfl (by decide)
    obtain ⟨A', c', w', hr, hR, hO, hb⟩ := Ro.app (P := Try.prog) (ty := 22) (c2 := c) elb hnew (h.alloc (Nat.le_refl _) _) (by intro u hu; obtain ⟨b, _, rfl⟩ := List.mem_map.1 hu; rfl) (by unfold maxLen; omega) (by omega)
    simp only [Nat.zero_add, List.nil_append] at hr hR
    have hfin : Hid (QRow w' A' n c' bs ∧ Below w.heap.size w w' ∧ ∀ b, Ro.blk A' = some b → w.heap.size ≤ b) := by
      refine ⟨hR, ((Ro.Only.refl (fun _ => False) w).alloc _ |>.trans hO (T := fun b => Ro.blk (some ⟨w.heap.size, 0, none⟩) = some b) (fun k hk e => ?_)).below (Nat.le_refl _) (fun _ _ c => c), fun b hb2 => ?_⟩
      · have : w.heap.size = k := by simpa [Ro.blk] using e
        omega
      · rcases hb with hb | hb
        · rw [hb] at hb2
          have : w.heap.size = b := by simpa [Ro.blk] using hb2
          omega
        · rw [hb] at hb2
          have : (w.alloc (.cells #[] 4)).heap.size = b := by simpa using hb2
          simp at this
          omega
    clear h hnew hR hO hb hA
    have hnil : ∀ w, (binOp .eql 22 (.slice (some ad) n c) (.slice none 0 0)).run Try.prog w = .ok (.bool false) w := fun w => by kernel_rfl
    go_enter Try.func35, Try.ntmps35
    go_wp2_with (at_builtin; refine Ro.wpList_app rfl _ _ _ _ rfl _ _ rfl rfl hr ?_)
    go_ret
    exact ⟨_, _, rfl, hfin.out⟩
set_option maxRecDepth 100000 in
theorem waiting_c (g : Nat) (s : St) (S : Nat → Prop) (w : World) (h : At w g s S) (hs : Good s) :
    Calls Try.prog 16 #[.pointer (some ⟨g, 0, none⟩)] w fun e w' => ∃ A' c', e = .returned (.slice A' s.outs.length c') ∧ QRow w' A' s.outs.length c' s.outs ∧ Below w.heap.size w w' ∧ ∀ b, Ro.blk A' = some b → w.heap.size ≤ b := by
  obtain ⟨AQ, nq, cq, AB, nb, cb, AI, ni, ci, h⟩ := h
  obtain ⟨l1, _, _⟩ := h.lens
  have m0 : w.cell? ⟨g, 0, none⟩ = some (.slice AQ nq cq) := h.blk.cell 0
  have hno := hs.no
  have hc := Lib.hid (cloneb_c AQ nq cq s.outs w h.q.sl (by omega) (row_nil h.q))
  rw [l1]
  clear h hs
  go_enter Try.func16, Try.ntmps16
  go_wp2_with fail
  refine hc.out.mono ?_
  rintro e w' ⟨A', c', rfl, h2⟩
  go_wp2_with fail
  go_ret
  exact ⟨_, _, rfl, h2⟩
set_option maxRecDepth 100000 in
theorem containers_c (g : Nat) (s : St) (S : Nat → Prop) (w : World) (h : At w g s S) (hs : Good s) :
    Calls Try.prog 17 #[.pointer (some ⟨g, 0, none⟩)] w (CloneSaid s.bx.length s.bx w) := by
  obtain ⟨AQ, nq, cq, AB, nb, cb, AI, ni, ci, h⟩ := h
  obtain ⟨_, l1, _⟩ := h.lens
  have m2 : w.cell? ⟨g, 2, none⟩ = some (.slice AB nb cb) := h.blk.cell 2
  have hno := hs.nb
  have hc := Lib.hid (clone_c AB nb cb s.bx w h.b.sl (by omega) (row_nil h.b))
  rw [l1]
  clear h hs
  go_enter Try.func17, Try.ntmps17
  go_wp2_with fail
  refine hc.out.mono ?_
  rintro e w' ⟨A', c', rfl, h2⟩
  go_wp2_with fail
  go_ret
  exact ⟨_, _, rfl, h2⟩
set_option maxRecDepth 100000 in
theorem images_c (g : Nat) (s : St) (S : Nat → Prop) (w : World) (h : At w g s S) (hs : Good s) :
    Calls Try.prog 20 #[.pointer (some ⟨g, 0, none⟩)] w (CloneISaid s.im.length s.im w) := by
  obtain ⟨AQ, nq, cq, AB, nb, cb, AI, ni, ci, h⟩ := h
  obtain ⟨_, _, l1⟩ := h.lens
  have m3 : w.cell? ⟨g, 3, none⟩ = some (.slice AI ni ci) := h.blk.cell 3
  have hno := hs.ni
  have hc := Lib.hid (clonei_c AI ni ci s.im w h.i.sl (by omega) (row_nil h.i))
  rw [l1]
  clear h hs
  go_enter Try.func20, Try.ntmps20
  go_wp2_with fail
  refine hc.out.mono ?_
  rintro e w' ⟨A', c', rfl, h2⟩
  go_wp2_with fail
  go_ret
  exact ⟨_, _, rfl, h2⟩
set_option maxRecDepth 100000 in
theorem at_c (g : Nat) (s : St) (S : Nat → Prop) (id : ByteArray) (w : World) (h : At w g s S) (hs : Good s) :
    Calls Try.prog 27 #[.pointer (some ⟨g, 0, none⟩), .string id] w fun e w' => e = .returned (.tuple #[.int .i64 (Str.pos (ids s.bx) id), .bool (Str.has (ids s.bx) id)]) ∧ Below w.heap.size w w' := by
  obtain ⟨AQ, nq, cq, AB, nb, cb, AI, ni, ci, h⟩ := h
  obtain ⟨_, l1, _⟩ := h.lens
  have m2 : w.cell? ⟨g, 2, none⟩ = some (.slice AB nb cb) := h.blk.cell 2
  have hno := hs.nb
  have hc := Lib.hid (search_c AB nb cb s.bx id w h.b.sl hs.rb l1 (by omega))
  generalize Str.pos (ids s.bx) id = P at *
  generalize Str.has (ids s.bx) id = F at *
  clear h hs
  go_enter Try.func27, Try.ntmps27
  go_wp2_with fail
  refine hc.out.mono ?_
  rintro e w' ⟨rfl, h2⟩
  go_wp2_with fail
  go_ret2
  exact ⟨rfl, h2⟩
/-- a container of a name -/
def the (bx : List ConV) (id : ByteArray) : Option ConV := if Str.has (ids bx) id then bx[Str.pos (ids bx) id]? else none
theorem the_some {bx : List ConV} {id : ByteArray} (hr : Str.Rises (ids bx)) (h : Str.has (ids bx) id = true) : ∃ (hl : Str.pos (ids bx) id < bx.length), the bx id = some bx[Str.pos (ids bx) id] ∧ bx[Str.pos (ids bx) id].id = id := by
  obtain ⟨hp, e⟩ := Str.has_at hr h
  have hl : Str.pos (ids bx) id < bx.length := by rw [ids_len] at hp; exact hp
  refine ⟨hl, ?_, ?_⟩
  · unfold the
    rw [h, if_pos rfl, List.getElem?_eq_getElem hl]
  · rw [← ids_at hl hp]; exact e
theorem the_none {bx : List ConV} {id : ByteArray} (h : Str.has (ids bx) id = false) : the bx id = none := by
  unfold the
  rw [h]
  rfl
def boxOf (bx : List ConV) (id : ByteArray) : Int × Int := match the bx id with | some p => (p.st, p.tr) | none => (0, 0)
set_option maxRecDepth 100000 in
set_option maxHeartbeats 1000000 in
theorem box_c (g : Nat) (s : St) (S : Nat → Prop) (id : ByteArray) (w : World) (h : At w g s S) (hs : Good s) :
    Calls Try.prog 19 #[.pointer (some ⟨g, 0, none⟩), .string id] w fun e w' => e = .returned (.tuple #[.agg #[.int .i64 (boxOf s.bx id).1, .int .i64 (boxOf s.bx id).2], .bool (Str.has (ids s.bx) id)]) ∧ Below w.heap.size w w' := by
  have hat := fun w' (hb : Below w.heap.size w w') => at_c g s S id w' (h.below hb) hs
  obtain ⟨AQ, nq, cq, AB, nb, cb, AI, ni, ci, h⟩ := h
  obtain ⟨_, l1, _⟩ := h.lens
  cases hh : Str.has (ids s.bx) id
  · have HB : Hid (boxOf s.bx id = (0, 0)) := by show _ = _; unfold boxOf; rw [the_none hh]
    rw [hh] at hat
    have Hat := Lib.hid hat
    generalize Str.pos (ids s.bx) id = P at *
    generalize boxOf s.bx id = q at *
    clear h hs hh hat
    go_enter Try.func19, Try.ntmps19
    go_wp2_with fail
    refine (Hat.out _ ((Below.refl _ _).alloc (Nat.le_refl _) _)).mono ?_
    rintro e w1 ⟨rfl, hb1⟩
    have N1 := Mem.Blk.belowS (Mem.Blk.new (w := w) (t := 44) (cs := #[.int .i64 0, .int .i64 0])) hb1
    have hr1 : w1.cell? ⟨w.heap.size, 0, none⟩ = some (.int .i64 0) := N1.cell 0
    have hr2 : w1.cell? ⟨w.heap.size, 1, none⟩ = some (.int .i64 0) := N1.cell 1
    have hf1 := N1.frozen
    have hbl : Below w.heap.size w w1 := ((Below.refl _ _).alloc (Nat.le_refl _) _).trans (hb1.mono (by simp))
    clear N1 hb1
    go_wp2_with fail
    refine bodyPost_ret (v := .tuple #[.agg #[.int .i64 0, .int .i64 0], .bool false]) (by simp [results, Try.results19, go_sem, hr1, hr2]) rfl ⟨by rw [HB.out], ?_⟩
    exact (hbl.setCell (by simp) _).setCell (by simp) _
  · obtain ⟨hl, ht, _⟩ := the_some hs.rb hh
    have HB : Hid (boxOf s.bx id = (s.bx[Str.pos (ids s.bx) id].st, s.bx[Str.pos (ids s.bx) id].tr)) := by show _ = _; unfold boxOf; rw [ht]
    rw [hh] at hat
    have Hat := Lib.hid hat
    obtain ⟨ad, hl2, rfl, hbk, _, hc⟩ := ConV.at_ h.b.sl (k := Str.pos (ids s.bx) id) (by omega)
    obtain ⟨q, hq⟩ : ∃ q, q = s.bx[Str.pos (ids s.bx) id] := ⟨_, rfl⟩
    rw [← hq] at HB hc
    clear hq ht hh hat
    obtain ⟨P, hP⟩ : ∃ P, P = Str.pos (ids s.bx) id := ⟨_, rfl⟩
    rw [← hP] at Hat hc hl hl2
    clear hP
    obtain ⟨qi, qs, qt, ql⟩ := q
    dsimp only at HB
    have m2 : w.cell? ⟨g, 2, none⟩ = some (.slice (some ad) nb cb) := h.blk.cell 2
    have hglt := h.blk.lt
    have hP : P < nb := by omega
    generalize boxOf s.bx id = r at *
    clear h hs hl2 hl l1
    go_enter Try.func19, Try.ntmps19
    go_wp2_with fail
    refine (Hat.out _ ((Below.refl _ _).alloc (Nat.le_refl _) _)).mono ?_
    rintro e w1 ⟨rfl, hb1⟩
    have N1 := Mem.Blk.belowS (Mem.Blk.new (w := w) (t := 44) (cs := #[.int .i64 0, .int .i64 0])) hb1
    have hr1 : w1.cell? ⟨w.heap.size, 0, none⟩ = some (.int .i64 0) := N1.cell 0
    have hr2 : w1.cell? ⟨w.heap.size, 1, none⟩ = some (.int .i64 0) := N1.cell 1
    have hf1 := N1.frozen
    have hbl : Below w.heap.size w w1 := ((Below.refl _ _).alloc (Nat.le_refl _) _).trans (hb1.mono (by simp))
    have m2' : w1.cell? ⟨g, 2, none⟩ = some (.slice (some ad) nb cb) := (hbl.cell (p := ⟨g, 2, none⟩) hglt).trans m2
    have hc' := hc.below hbl (by rw [Mem.add_block]; exact hbk)
    obtain ⟨c0, c1, c2, c3⟩ := hc'
    dsimp only at c0 c1 c2 c3
    have hne : ad.block < w.heap.size := hbk
    clear N1 hb1 m2 hc Hat
    go_wp2_with fail
    refine bodyPost_ret (v := .tuple #[.agg #[.int .i64 qs, .int .i64 qt], .bool true]) (by simp [results, Try.results19, go_sem, hr1, hr2]) rfl ⟨by rw [HB.out], ?_⟩
    exact (hbl.setCell (by simp) _).setCell (by simp) _
/-- may something be asked of a container of a name? -/
def errM (bx : List ConV) (id : ByteArray) (q : Int) : Int := match the bx id with | some p => (if Box.nxt p.st q = 0 then 7 else 0) | none => 4
def plM (bx : List ConV) (id : ByteArray) (q : Int) : Int := if errM bx id q = 0 then (Str.pos (ids bx) id : Int) else 0
set_option maxRecDepth 100000 in
set_option maxHeartbeats 1000000 in
theorem wmay_c (g : Nat) (s : St) (S : Nat → Prop) (id : ByteArray) (q : Int) (w : World) (h : At w g s S) (hs : Good s) (hq : (Lit.int .i64 q).wf = true) :
    Calls Try.prog 30 #[.pointer (some ⟨g, 0, none⟩), .string id, .int .i64 q] w fun e w' => e = .returned (.tuple #[.int .i64 (plM s.bx id q), .int .i64 (errM s.bx id q)]) ∧ Below w.heap.size w w' := by
  have hat := at_c g s S id w h hs
  obtain ⟨AQ, nq, cq, AB, nb, cb, AI, ni, ci, h⟩ := h
  obtain ⟨_, l1, _⟩ := h.lens
  cases hh : Str.has (ids s.bx) id
  · have HE : Hid (errM s.bx id q = 4) := by show _ = _; unfold errM; rw [the_none hh]
    have HP : Hid (plM s.bx id q = 0) := by show _ = _; unfold plM; rw [if_neg (by rw [HE.out]; decide)]
    rw [hh] at hat
    have Hat := Lib.hid hat
    generalize Str.pos (ids s.bx) id = P at *
    generalize errM s.bx id q = E at *
    generalize plM s.bx id q = L at *
    clear h hs hh hat
    go_enter Try.func30, Try.ntmps30
    go_wp2_with fail
    refine Hat.out.mono ?_
    rintro e w1 ⟨rfl, hb1⟩
    go_wp2_with fail
    go_ret2
    exact ⟨by rw [HE.out, HP.out]; rfl, hb1⟩
  · obtain ⟨hl, ht, _⟩ := the_some hs.rb hh
    have hmem := List.getElem_mem hl
    have hok := hs.ok _ hmem
    have HE : Hid (errM s.bx id q = if Box.nxt s.bx[Str.pos (ids s.bx) id].st q = 0 then 7 else 0) := by show _ = _; unfold errM; rw [ht]
    have HP : Hid (plM s.bx id q = if Box.nxt s.bx[Str.pos (ids s.bx) id].st q = 0 then 0 else (Str.pos (ids s.bx) id : Int)) := by
      show _ = _
      unfold plM
      rw [HE.out]
      split <;> rfl
    rw [hh] at hat
    have Hat := Lib.hid hat
    obtain ⟨ad, hl2, rfl, hbk, _, hc⟩ := ConV.at_ h.b.sl (k := Str.pos (ids s.bx) id) (by omega)
    obtain ⟨p, hp⟩ : ∃ p, p = s.bx[Str.pos (ids s.bx) id] := ⟨_, rfl⟩
    rw [← hp] at HE HP hc hok
    clear hp ht hh hat hmem
    obtain ⟨P, hP⟩ : ∃ P, P = Str.pos (ids s.bx) id := ⟨_, rfl⟩
    rw [← hP] at Hat hc hl hl2 HP
    clear hP
    obtain ⟨qi, qs, qt, ql⟩ := p
    dsimp only at HE HP hok
    have hw1 : (Lit.int .i64 qs).wf = true := WalkArith.wf_i64 (by have := hok.1; have := hok.2.1; dsimp only at *; omega)
    have hm := Lib.hid (fun w => Box.may_c qs qt q w hw1 hq)
    have m2 : w.cell? ⟨g, 2, none⟩ = some (.slice (some ad) nb cb) := h.blk.cell 2
    have hglt := h.blk.lt
    have hP : P < nb := by omega
    generalize errM s.bx id q = E at *
    generalize plM s.bx id q = L at *
    have hz : (Box.nxt qs q != 0) = !(decide (Box.nxt qs q = 0)) := by
      by_cases hz : Box.nxt qs q = 0
      · rw [decide_eq_true hz, hz]; rfl
      · rw [decide_eq_false hz]; exact bne_iff_ne.2 hz
    rw [hz] at hm
    clear h hs hl2 hl l1 hok hw1 hq hz
    go_enter Try.func30, Try.ntmps30
    go_wp2_with fail
    refine Hat.out.mono ?_
    rintro e w1 ⟨rfl, hb1⟩
    have m2' : w1.cell? ⟨g, 2, none⟩ = some (.slice (some ad) nb cb) := (hb1.cell (p := ⟨g, 2, none⟩) hglt).trans m2
    have hc' := hc.below hb1 (by rw [Mem.add_block]; exact hbk)
    obtain ⟨c0, c1, c2, c3⟩ := hc'
    dsimp only at c0 c1 c2 c3
    clear m2 hc Hat
    go_wp2_with fail
    refine (hm.out _).mono ?_
    rintro e w2 ⟨rfl, hb2⟩
    have hb3 : Below w.heap.size w w2 := hb1.trans (hb2.mono hb1.size)
    clear hm hb1 hb2 c0 c1 c2 c3 m2'
    by_cases hz : Box.nxt qs q = 0
    · rw [if_pos hz] at HE HP
      rw [decide_eq_true hz]
      clear hz
      go_wp2_with fail
      go_ret2
      exact ⟨by rw [HE.out, HP.out]; rfl, hb3⟩
    · rw [if_neg hz] at HE HP
      rw [decide_eq_false hz]
      clear hz
      go_wp2_with fail
      go_ret2
      exact ⟨by rw [HE.out, HP.out]; rfl, hb3⟩
set_option maxRecDepth 100000 in
theorem wnew_c (rt : Int) (w : World) : Calls Try.prog 12 #[.int .i64 rt] w fun e w' => e = .returned (.pointer (some ⟨w.heap.size, 0, none⟩)) ∧ At w' w.heap.size ⟨rt, [], [], []⟩ (fun k => k = w.heap.size) ∧ Below w.heap.size w w' := by
  go_enter Try.func12, Try.ntmps12
  go_wp2_with fail
  go_ret
  exact ⟨rfl, ⟨none, 0, 0, none, 0, 0, none, 0, 0, Mem.Blk.new, Ro.Row.nil, Ro.Row.nil, Ro.Row.nil, rfl, fun _ h => by (cases h), fun _ h => by (cases h), fun _ h => by (cases h)⟩, (Below.refl _ _).alloc (Nat.le_refl _) _⟩
end Wo
end Go.Proofs.Ythccojfflmfggaa
/- The walks of layer 16 (world): what may be asked is done. -/
namespace Go.Proofs.Ythccojfflmfggaa
open Go.RowKit
namespace Wo
theorem flat_mid {bx : List ConV} {P : Nat} (h : P < bx.length) : ConV.flat bx = ConV.flat (bx.take P) ++ (bx[P].cells ++ ConV.flat (bx.drop (P + 1))) := by
  rw [← ConV.flat_cons, ← ConV.flat_app, ← List.drop_eq_getElem_cons h, List.take_append_drop]
theorem set_mid {A B : List Value} {n : Nat} (hA : A.length = n) (c0 c1 c2 c3 x y z : Value) :
    ((A ++ ([c0, c1, c2, c3] ++ B)).set (n + 1) x).set (n + 2) y = A ++ ([c0, x, y, c3] ++ B) ∧ (A ++ ([c0, c1, c2, c3] ++ B)).set (n + 3) z = A ++ ([c0, c1, c2, z] ++ B) := by
  subst hA
  constructor
  · rw [List.set_append_right _ _ (by omega), Nat.add_sub_cancel_left, List.set_append_right _ _ (by omega), Nat.add_sub_cancel_left]
    rfl
  · rw [List.set_append_right _ _ (by omega), Nat.add_sub_cancel_left]
    rfl
theorem flat_set12 {bx : List ConV} {P : Nat} (h : P < bx.length) (x y : Int) : ((ConV.flat bx).set (P * 4 + 1) (.int .i64 x)).set (P * 4 + 2) (.int .i64 y) = ConV.flat (bx.set P ⟨bx[P].id, x, y, bx[P].last⟩) := by
  have e : bx.set P ⟨bx[P].id, x, y, bx[P].last⟩ = bx.take P ++ ⟨bx[P].id, x, y, bx[P].last⟩ :: bx.drop (P + 1) := by
    rw [List.set_eq_take_append_cons_drop, if_pos h]
  rw [e, ConV.flat_app, ConV.flat_cons, flat_mid h]
  exact (set_mid (by rw [ConV.flat_len, List.length_take]; congr 1; omega) _ _ _ _ _ _ (.int .i64 0)).1
theorem flat_set3 {bx : List ConV} {P : Nat} (h : P < bx.length) (z : Int) : (ConV.flat bx).set (P * 4 + 3) (.int .i64 z) = ConV.flat (bx.set P ⟨bx[P].id, bx[P].st, bx[P].tr, z⟩) := by
  have e : bx.set P ⟨bx[P].id, bx[P].st, bx[P].tr, z⟩ = bx.take P ++ ⟨bx[P].id, bx[P].st, bx[P].tr, z⟩ :: bx.drop (P + 1) := by
    rw [List.set_eq_take_append_cons_drop, if_pos h]
  rw [e, ConV.flat_app, ConV.flat_cons, flat_mid h]
  exact (set_mid (by rw [ConV.flat_len, List.length_take]; congr 1; omega) _ _ _ _ (.int .i64 0) (.int .i64 0) _).2
/-- what is done at a place -/
def doP (p : ConV) (q : Int) (well : Bool) (rt round : Int) : ConV := ⟨p.id, (Box.step (p.st, p.tr) q well rt).1, (Box.step (p.st, p.tr) q well rt).2, if well then round else p.last⟩
def doB (bx : List ConV) (P : Nat) (q : Int) (well : Bool) (rt round : Int) : List ConV := match bx[P]? with
  | some p => if (doP p q well rt round).st = 5 then bx.take P ++ bx.drop (P + 1) else bx.set P (doP p q well rt round)
  | none => bx
section
variable {w : World} {gB off nb cb P : Nat} {bx : List ConV}
theorem crow12 (h : CRow w (some ⟨gB, off, none⟩) nb cb bx) (hP : P < bx.length) (x y : Int) : CRow ((w.setCell ⟨gB, off + P * 4 + 1, none⟩ (.int .i64 x)).setCell ⟨gB, off + P * 4 + 1 + 1, none⟩ (.int .i64 y)) (some ⟨gB, off, none⟩) nb cb (bx.set P ⟨bx[P].id, x, y, bx[P].last⟩) := by
  have hl : (ConV.flat bx).length = bx.length * 4 := ConV.flat_len bx
  have h1 := Ro.Row.set1 h (P * 4 + 1) (by omega) (.int .i64 x)
  have h2 := h1.set1 (P * 4 + 2) (by simp; omega) (.int .i64 y)
  rw [flat_set12 hP, ← Nat.add_assoc, ← Nat.add_assoc] at h2
  exact h2
theorem crow3 (h : CRow w (some ⟨gB, off, none⟩) nb cb bx) (hP : P < bx.length) (z : Int) : CRow (w.setCell ⟨gB, off + P * 4 + 3, none⟩ (.int .i64 z)) (some ⟨gB, off, none⟩) nb cb (bx.set P ⟨bx[P].id, bx[P].st, bx[P].tr, z⟩) := by
  have hl : (ConV.flat bx).length = bx.length * 4 := ConV.flat_len bx
  have h1 := Ro.Row.set1 h (P * 4 + 3) (by omega) (.int .i64 z)
  rw [flat_set3 hP, ← Nat.add_assoc] at h1
  exact h1
/-- the cells of one -/
theorem crow_at (h : CRow w (some ⟨gB, off, none⟩) nb cb bx) (hP : P < bx.length) : w.cell? ⟨gB, off + P * 4 + 1, none⟩ = some (.int .i64 bx[P].st) ∧ w.cell? ⟨gB, off + P * 4 + 2, none⟩ = some (.int .i64 bx[P].tr) ∧ w.cell? ⟨gB, off + P * 4 + 3, none⟩ = some (.int .i64 bx[P].last) := by
  have key : ∀ (j : Nat) (hj : j < 4) (v : Value), (bx[P].cells)[j]? = some v → w.cell? ⟨gB, off + P * 4 + j, none⟩ = some v := by
    intro j hj v hv
    have hlt : P * 4 + j < (ConV.flat bx).length := by rw [ConV.flat_len]; omega
    rw [Nat.add_assoc, Ro.Row.cell h _ hlt, ← hv, ← ConV.flat_get bx P j hP hj, List.getElem?_eq_getElem hlt]
  exact ⟨key 1 (by decide) _ rfl, key 2 (by decide) _ rfl, key 3 (by decide) _ rfl⟩
variable {g : Nat} {s : St} {S : Nat → Prop} {AQ AI : Option Addr} {nq cq ni ci : Nat}
/-- the containers' row is turned in place -/
theorem AtL.turn {w' : World} {bx' : List ConV} (h : AtL w g s S AQ nq cq (some ⟨gB, off, none⟩) nb cb AI ni ci) (ho : Ro.Only (fun k => k = gB) w w') (hR : CRow w' (some ⟨gB, off, none⟩) nb cb bx') : AtL w' g { s with bx := bx' } S AQ nq cq (some ⟨gB, off, none⟩) nb cb AI ni ci := by
  obtain ⟨h1, h2, h3⟩ := h.onlyB (ho.mono fun k _ e => by rw [e]; rfl)
  exact ⟨h1, h2, hR, h3, h.sg, h.sq, h.sb, h.si⟩
end
/-- the end: the container is gone, or stays -/
theorem do_keep {w X : World} {g : Nat} {s : St} {S : Nat → Prop} {AQ AB AI : Option Addr} {nq cq nb cb ni ci : Nat} {bx' : List ConV} (T : AtL X g { s with bx := bx' } S AQ nq cq AB nb cb AI ni ci) (O : Ro.Only S w X) : Post S w X g { s with bx := bx' } :=
  ⟨(show At X g _ S from ⟨_, _, _, _, _, _, _, _, _, T⟩).mono fun _ _ c => .inl c, O⟩
theorem do_gone {w X w5 : World} {g gB off : Nat} {s : St} {S : Nat → Prop} {AQ AI : Option Addr} {nq cq nb cb ni ci P : Nat} {bx' : List ConV} {e : Ending} (T : AtL X g { s with bx := bx' } S AQ nq cq (some ⟨gB, off, none⟩) nb cb AI ni ci) (O : Ro.Only S w X) (hS : S gB)
    (hd : DelSaid (some ⟨gB, off, none⟩) (nb - 1) cb (bx'.take P ++ bx'.drop (P + 1)) X e w5) : Post S w (w5.setCell ⟨g, 2, none⟩ (.slice (some ⟨gB, off, none⟩) (nb - 1) cb)) g { s with bx := bx'.take P ++ bx'.drop (P + 1) } := by
  obtain ⟨_, hR, hO⟩ := hd
  obtain ⟨h1, h2, h3⟩ := T.onlyB hO
  have hat : AtL (w5.setCell ⟨g, 2, none⟩ (.slice (some ⟨gB, off, none⟩) (nb - 1) cb)) g { s with bx := bx'.take P ++ bx'.drop (P + 1) } S AQ nq cq (some ⟨gB, off, none⟩) (nb - 1) cb AI ni ci :=
    ⟨h1.set_ 2 _, h2.only (Ro.Only.setCell _ _ _) (h2.apartB h1 (by decide)), hR.only (Ro.Only.setCell _ _ _) (hR.apartB h1 (by decide)), h3.only (Ro.Only.setCell _ _ _) (h3.apartB h1 (by decide)), T.sg, T.sq, T.sb, T.si⟩
  refine ⟨(show At _ g _ S from ⟨_, _, _, _, _, _, _, _, _, hat⟩).mono fun _ _ c => .inl c, (O.trans hO fun k _ e => ?_).trans (Ro.Only.setCell _ _ _) fun k _ e => by rw [e]; exact T.sg⟩
  have : gB = k := by simpa [Ro.blk] using e
  rw [← this]; exact hS
theorem set_out {bx : List ConV} {P : Nat} (p : ConV) : (bx.set P p).take P ++ (bx.set P p).drop (P + 1) = bx.take P ++ bx.drop (P + 1) := by
  rw [List.take_set_of_le (Nat.le_refl _), List.drop_set_of_lt (Nat.lt_succ_self _)]
set_option maxRecDepth 100000 in
set_option maxHeartbeats 8000000 in
theorem wdo_c (g : Nat) (s : St) (S : Nat → Prop) (P : Nat) (q : Int) (well : Bool) (round : Int) (w : World) (h : At w g s S) (hs : Good s) (hP : P < s.bx.length) (hq : (Lit.int .i64 q).wf = true) (hn : Box.nxt s.bx[P].st q ≠ 0) :
    Calls Try.prog 33 #[.pointer (some ⟨g, 0, none⟩), .int .i64 P, .int .i64 q, .bool well, .int .i64 round] w fun e w' => e = .returned (.tuple #[]) ∧ Post S w w' g { s with bx := doB s.bx P q well s.rt round } := by
  obtain ⟨AQ, nq, cq, AB, nb, cb, AI, ni, ci, h⟩ := h
  obtain ⟨_, l1, _⟩ := h.lens
  have hok := hs.ok _ (List.getElem_mem hP)
  have hnb := hs.nb
  have hle := h.b.le
  obtain ⟨gB, off, rfl⟩ := h.b.some_of (by omega)
  obtain ⟨c1, c2, c3⟩ := crow_at h.b hP
  have m1 : w.cell? ⟨g, 1, none⟩ = some (.int .i64 s.rt) := h.blk.cell 1
  have m2 : w.cell? ⟨g, 2, none⟩ = some (.slice (some ⟨gB, off, none⟩) nb cb) := h.blk.cell 2
  have hgB := h.b.lt (g := gB) rfl
  have hg := h.blk.lt
  have hbf := h.b.frozen
  have hne : gB ≠ g := h.b.apartB h.blk (by decide) gB rfl
  have hw1 : (Lit.int .i64 s.bx[P].st).wf = true := WalkArith.wf_i64 (by have := hok.1; have := hok.2.1; dsimp only at *; omega)
  obtain ⟨x, y, hxy⟩ : ∃ x y, Box.step (s.bx[P].st, s.bx[P].tr) q well s.rt = (x, y) := ⟨_, _, rfl⟩
  have hdo : ∀ w, Calls Try.prog 55 #[.agg #[.int .i64 s.bx[P].st, .int .i64 s.bx[P].tr], .int .i64 q, .bool well, .int .i64 s.rt] w fun e w' => e = .returned (.tuple #[.agg #[.int .i64 x, .int .i64 y], .int .i64 (Box.err s.bx[P].st q)]) ∧ Below w.heap.size w w' := by
    intro w
    have := Box.do_c s.bx[P].st s.bx[P].tr q s.rt well w hw1 hq hok.2.2.2
    unfold Box.Said at this
    rw [hxy] at this
    exact this
  -- the list behind it, and what is then
  have fin : Hid (∀ p', p' = (⟨s.bx[P].id, x, y, if well then round else s.bx[P].last⟩ : ConV) → doB s.bx P q well s.rt round = if x = 5 then s.bx.take P ++ s.bx.drop (P + 1) else s.bx.set P p') := by
    rintro p' rfl
    unfold doB
    rw [List.getElem?_eq_getElem hP]
    dsimp only
    unfold doP
    rw [hxy]
  have turn : Hid (∀ w1, Below w.heap.size w w1 → AtL ((w1.setCell ⟨gB, off + P * 4 + 1, none⟩ (.int .i64 x)).setCell ⟨gB, off + P * 4 + 1 + 1, none⟩ (.int .i64 y)) g { s with bx := s.bx.set P ⟨s.bx[P].id, x, y, s.bx[P].last⟩ } S AQ nq cq (some ⟨gB, off, none⟩) nb cb AI ni ci) := by
    intro w1 hb1
    have h1 := h.keep (w' := w1) (fun k hk _ => hb1.block k hk)
    exact h1.turn ((Ro.Only.setCell w1 ⟨gB, off + P * 4 + 1, none⟩ _).trans (Ro.Only.setCell _ ⟨gB, off + P * 4 + 1 + 1, none⟩ _) (fun _ _ e => e)) (crow12 h1.b hP x y)
  have hS := h.sb gB rfl
  have hSg := h.sg
  obtain ⟨st, hst⟩ : ∃ st, st = s.bx[P].st := ⟨_, rfl⟩
  obtain ⟨tr, htr⟩ : ∃ tr, tr = s.bx[P].tr := ⟨_, rfl⟩
  obtain ⟨ls, hls⟩ : ∃ ls, ls = s.bx[P].last := ⟨_, rfl⟩
  obtain ⟨r, hr⟩ : ∃ r, r = s.rt := ⟨_, rfl⟩
  rw [← hst] at c1 hdo
  rw [← htr] at c2 hdo
  rw [← hls] at c3
  rw [← hr] at m1 hdo
  have Hdo := Lib.hid hdo
  have HN := Lib.hid hn
  clear h hr hs hst htr hls hdo hxy hw1 hok hq hn
  generalize Box.err st q = er at *
  go_enter Try.func33, Try.ntmps33
  go_wp2_with fail
  go_region_with
    (go_at_call 55
     refine (Hdo.out _).mono ?_
     rintro e w1 ⟨rfl, hb1⟩
     have k1 : w1.cell? ⟨gB, off + P * 4 + 1, none⟩ = some (.int .i64 st) := (hb1.cell (p := ⟨gB, off + P * 4 + 1, none⟩) hgB).trans c1
     have k2 : w1.cell? ⟨gB, off + P * 4 + 2, none⟩ = some (.int .i64 tr) := (hb1.cell (p := ⟨gB, off + P * 4 + 2, none⟩) hgB).trans c2
     have kf : ∀ o, w1.frozen? ⟨gB, o, none⟩ = false := fun o => (hb1.frozen (p := ⟨gB, o, none⟩) hgB).trans (hbf o))
  all_goals
    have hb : Below w.heap.size w w1 := (show Below w.heap.size w w.drew from (Below.refl _ _).drew).trans hb1
    have T := turn.out w1 hb
    have O1 : Ro.Only S w ((w1.setCell ⟨gB, off + P * 4 + 1, none⟩ (.int .i64 x)).setCell ⟨gB, off + P * 4 + 1 + 1, none⟩ (.int .i64 y)) := ((Ro.Only.of_below hb).trans (Ro.Only.setCell w1 _ _) (fun _ _ e => by rw [e]; exact hS)).trans (Ro.Only.setCell _ _ _) (fun _ _ e => by rw [e]; exact hS)
    obtain ⟨X, hX⟩ : ∃ X, X = ((w1.setCell ⟨gB, off + P * 4 + 1, none⟩ (.int .i64 x)).setCell ⟨gB, off + P * 4 + 1 + 1, none⟩ (.int .i64 y)) := ⟨_, rfl⟩
    rw [← hX] at T O1 ⊢
    clear hX k1 k2 kf hb1 hb
    have hPl : P < (s.bx.set P ⟨s.bx[P].id, x, y, s.bx[P].last⟩).length := by simpa using hP
    have hself : (s.bx.set P ⟨s.bx[P].id, x, y, s.bx[P].last⟩)[P] = ⟨s.bx[P].id, x, y, s.bx[P].last⟩ := List.getElem_set_self _
    obtain ⟨k1, k2, k3⟩ := crow_at T.b hPl
    dsimp only at k1 k2 k3
    rw [hself] at k1 k2 k3
    dsimp only at k1 k2 k3
    have kf := T.b.frozen
    have h5x : (x == 5) = decide (x = 5) := by
      by_cases h5 : x = 5
      · rw [decide_eq_true h5, h5]; rfl
      · rw [decide_eq_false h5]; exact beq_eq_false_iff_ne.2 h5
    cases well
    · have F := Lib.hid (fin.out ⟨s.bx[P].id, x, y, s.bx[P].last⟩ rfl)
      have mX : X.cell? ⟨g, 2, none⟩ = some (.slice (some ⟨gB, off, none⟩) nb cb) := T.blk.cell 2
      have gf := T.blk.frozen
      by_cases h5 : x = 5
      · rw [decide_eq_true h5] at h5x
        have HD := Lib.hid (delete_c (some ⟨gB, off, none⟩) nb cb P _ X T.b (by omega) (by omega))
        have hG : Hid (∀ e w5, DelSaid (some ⟨gB, off, none⟩) (nb - 1) cb ((s.bx.set P ⟨s.bx[P].id, x, y, s.bx[P].last⟩).take P ++ (s.bx.set P ⟨s.bx[P].id, x, y, s.bx[P].last⟩).drop (P + 1)) X e w5 → w5.cell? ⟨g, 2, none⟩ = some (.slice (some ⟨gB, off, none⟩) nb cb) ∧ (∀ o, w5.frozen? ⟨g, o, none⟩ = false) ∧ Post S w (w5.setCell ⟨g, 2, none⟩ (.slice (some ⟨gB, off, none⟩) (nb - 1) cb)) g { s with bx := doB s.bx P q false s.rt round }) := by
          intro e w5 hd
          have hP2 := do_gone T O1 hS hd
          obtain ⟨_, _, hO⟩ := hd
          obtain ⟨hb5, _, _⟩ := T.onlyB hO
          refine ⟨hb5.cell 2, hb5.frozen, ?_⟩
          rw [F.out, if_pos h5]
          rw [set_out] at hP2
          exact hP2
        clear T O1 fin F turn hself hPl h5
        go_wp2_with fail
        refine HD.out.mono ?_
        intro e w5 hd
        obtain ⟨q1, q2, q3⟩ := hG.out e w5 hd
        obtain ⟨rfl, _, _⟩ := hd
        have Q3 := Lib.hid q3
        clear q3 HD hG
        go_wp2_with fail
        refine bodyPost_end (results_none rfl _ _ _) rfl ⟨rfl, Q3.out⟩
      · rw [decide_eq_false h5] at h5x
        have Q3 : Hid (Post S w X g { s with bx := doB s.bx P q false s.rt round }) := by
          show Post _ _ _ _ _
          rw [F.out, if_neg h5]
          exact do_keep T O1
        clear T O1 fin F turn hself hPl h5
        go_wp2_with fail
        refine bodyPost_end (results_none rfl _ _ _) rfl ⟨rfl, Q3.out⟩
    · have F := Lib.hid (fin.out ⟨s.bx[P].id, x, y, round⟩ rfl)
      have T3 : AtL (X.setCell ⟨gB, off + P * 4 + 3, none⟩ (.int .i64 round)) g { s with bx := s.bx.set P ⟨s.bx[P].id, x, y, round⟩ } S AQ nq cq (some ⟨gB, off, none⟩) nb cb AI ni ci := by
        have h3 := T.turn (Ro.Only.setCell X ⟨gB, off + P * 4 + 3, none⟩ (.int .i64 round)) (crow3 T.b hPl round)
        rw [hself] at h3
        dsimp only at h3
        rw [List.set_set] at h3
        exact h3
      have O3 : Ro.Only S w (X.setCell ⟨gB, off + P * 4 + 3, none⟩ (.int .i64 round)) := O1.trans (Ro.Only.setCell _ _ _) (fun _ _ e => by rw [e]; exact hS)
      clear T O1
      have mX : (X.setCell ⟨gB, off + P * 4 + 3, none⟩ (.int .i64 round)).cell? ⟨g, 2, none⟩ = some (.slice (some ⟨gB, off, none⟩) nb cb) := T3.blk.cell 2
      have gf := T3.blk.frozen
      by_cases h5 : x = 5
      · rw [decide_eq_true h5] at h5x
        have HD := Lib.hid (delete_c (some ⟨gB, off, none⟩) nb cb P _ (X.setCell ⟨gB, off + P * 4 + 3, none⟩ (.int .i64 round)) T3.b (by omega) (by omega))
        have hG : Hid (∀ e w5, DelSaid (some ⟨gB, off, none⟩) (nb - 1) cb ((s.bx.set P ⟨s.bx[P].id, x, y, round⟩).take P ++ (s.bx.set P ⟨s.bx[P].id, x, y, round⟩).drop (P + 1)) (X.setCell ⟨gB, off + P * 4 + 3, none⟩ (.int .i64 round)) e w5 → w5.cell? ⟨g, 2, none⟩ = some (.slice (some ⟨gB, off, none⟩) nb cb) ∧ (∀ o, w5.frozen? ⟨g, o, none⟩ = false) ∧ Post S w (w5.setCell ⟨g, 2, none⟩ (.slice (some ⟨gB, off, none⟩) (nb - 1) cb)) g { s with bx := doB s.bx P q true s.rt round }) := by
          intro e w5 hd
          have hP2 := do_gone T3 O3 hS hd
          obtain ⟨_, _, hO⟩ := hd
          obtain ⟨hb5, _, _⟩ := T3.onlyB hO
          refine ⟨hb5.cell 2, hb5.frozen, ?_⟩
          rw [F.out, if_pos h5]
          rw [set_out] at hP2
          exact hP2
        clear T3 O3 fin F turn hself hPl h5
        go_wp2_with fail
        refine HD.out.mono ?_
        intro e w5 hd
        obtain ⟨q1, q2, q3⟩ := hG.out e w5 hd
        obtain ⟨rfl, _, _⟩ := hd
        have Q3 := Lib.hid q3
        clear q3 HD hG
        go_wp2_with fail
        refine bodyPost_end (results_none rfl _ _ _) rfl ⟨rfl, Q3.out⟩
      · rw [decide_eq_false h5] at h5x
        have Q3 : Hid (Post S w (X.setCell ⟨gB, off + P * 4 + 3, none⟩ (.int .i64 round)) g { s with bx := doB s.bx P q true s.rt round }) := by
          show Post _ _ _ _ _
          rw [F.out, if_neg h5]
          exact do_keep T3 O3
        clear T3 O3 fin F turn hself hPl h5
        go_wp2_with fail
        refine bodyPost_end (results_none rfl _ _ _) rfl ⟨rfl, Q3.out⟩
end Wo
end Go.Proofs.Ythccojfflmfggaa
/- Regions whose order is open, by hand: all that yields its value in every world of a class is taken first, in one go (what a guard leaves out, too); the rest step by step. -/
namespace Go.Proofs.Ythccojfflmfggaa
open Go.RowKit
namespace Reg
section
variable {P : Program} {ops : Array Oper} {Q : Exit → Act → World → Prop} {S : World → Prop}
/-- operations that yield their values in every world of the class, one behind the other -/
def det (P : Program) (ops : Array Oper) (S : World → Prop) (K : Act → Prop) : List Nat → Act → Prop
  | [], a => K a
  | i :: rest, a => match ops[i]? with
    | none => False
    | some o => if Region.wanted o (yielded ops a.tmps) then ∃ v, (∀ w, S w → (execOp a.eval o).run P w = .ok (.value v) w) ∧ det P ops S K rest (a.put o.dst v) else det P ops S K rest (a.put o.dst undef)
/-- each of them may come up, and nobody minds -/
def takeB (ops : Array Oper) : List Nat → Array Bool → Bool
  | [], _ => true
  | i :: rest, L => Region.free .any ops L i && (Region.ready .any ops L).contains i && takeB ops rest (L.setIfInBounds i true)
def setAll : List Nat → Array Bool → Array Bool
  | [], L => L
  | i :: rest, L => setAll rest (L.setIfInBounds i true)
theorem takes_det (hs : Region.noSelect ops = true) (hQ : ∀ c a d v w, Q (.panic c) (a.put d v) w → Q (.panic c) a w) {w : World} (hS : S w) {n : Nat} :
    ∀ (l : List Nat) (L : Array Bool) (a : Act), takeB ops l L = true → det P ops S (fun a' => wpAnyH P .any ops Q S n (setAll l L) a' w) l a → wpAnyH P .any ops Q S (n + l.length) L a w
  | [], L, a, _, h => h
  | i :: rest, L, a, hB, h => by
    simp only [takeB, Bool.and_eq_true] at hB
    obtain ⟨⟨hf, hr⟩, hB'⟩ := hB
    unfold det at h
    split at h
    · exact h.elim
    · rename_i o ho
      rw [List.length_cons, ← Nat.add_assoc]
      split at h
      · rename_i hw
        obtain ⟨v, hv, h'⟩ := h
        exact wpAnyH_take ho hs hf hr (fun c a w h => hQ c a _ _ w h) (.inl ⟨hw, hv⟩) hS (takes_det hs hQ hS rest _ _ hB' h')
      · rename_i hw
        exact wpAnyH_take ho hs hf hr (fun c a w h => hQ c a _ _ w h) (.inr ⟨by simpa using hw, rfl⟩) hS (takes_det hs hQ hS rest _ _ hB' h)
/-- the same, behind a name that nothing opens -/
structure Det (P : Program) (ops : Array Oper) (S : World → Prop) (K : Act → Prop) (l : List Nat) (a : Act) : Prop where
  out : det P ops S K l a
theorem takes (hs : Region.noSelect ops = true) (hQ : ∀ c a d v w, Q (.panic c) (a.put d v) w → Q (.panic c) a w) {w : World} (hS : S w) {n : Nat}
    (l : List Nat) (L : Array Bool) (a : Act) (hB : takeB ops l L = true) (h : Det P ops S (fun a' => wpAnyH P .any ops Q S n (setAll l L) a' w) l a) : wpAnyH P .any ops Q S (n + l.length) L a w :=
  takes_det hs hQ hS l L a hB h.out
theorem det_step {K : Act → Prop} {i : Nat} {rest : List Nat} {a : Act} {o : Oper} (ho : ops[i]? = some o)
    (h : ∀ K' : Act → Prop, (∀ a, Det P ops S K rest a → K' a) → if Region.wanted o (yielded ops a.tmps) then ∃ v, (∀ w, S w → (execOp a.eval o).run P w = .ok (.value v) w) ∧ K' (a.put o.dst v) else K' (a.put o.dst undef)) : Det P ops S K (i :: rest) a := by
  have := h (det P ops S K rest) (fun _ h => h.out)
  refine ⟨?_⟩
  unfold det
  rw [ho]
  exact this
theorem det_nil {K : Act → Prop} {a : Act} (h : K a) : Det P ops S K [] a := ⟨h⟩
theorem one {n i : Nat} {L : Array Bool} {a : Act} {w : World} (hr : Region.ready .any ops L = [i]) (h : wpOp P ops Q i (fun a' w' => S w' ∧ wpAnyH P .any ops Q S n (L.setIfInBounds i true) a' w') a w) :
    wpAnyH P .any ops Q S (n + 1) L a w := wpAnyH_all hr (by simp) (fun j hj => by rw [List.mem_singleton] at hj; subst hj; exact h)
theorem two {n i j : Nat} {L : Array Bool} {a : Act} {w : World} (hr : Region.ready .any ops L = [i, j]) (h : wpOp P ops Q i (fun a' w' => S w' ∧ wpAnyH P .any ops Q S n (L.setIfInBounds i true) a' w') a w)
    (h2 : wpOp P ops Q j (fun a' w' => S w' ∧ wpAnyH P .any ops Q S n (L.setIfInBounds j true) a' w') a w) :
    wpAnyH P .any ops Q S (n + 1) L a w := wpAnyH_all hr (by simp) (fun k hk => by
      rcases List.mem_cons.1 hk with rfl | hk
      · exact h
      · rw [List.mem_singleton] at hk; subst hk; exact h2)
theorem val {i : Nat} {o : Oper} {a : Act} {w w' : World} {v : Value} {K : Act → World → Prop} (ho : ops[i]? = some o) (hw : Region.wanted o (yielded ops a.tmps) = true)
    (hr : (execOp a.eval o).run P w = .ok (.value v) w') (hS : S w') (h : K (a.put o.dst v) w') : wpOp P ops Q i (fun a' w' => S w' ∧ K a' w') a w := by
  unfold wpOp
  simp only [ho, hw, if_true]
  refine .inl ?_
  unfold Oper.wp
  rw [hr]
  exact ⟨hS, h⟩
theorem skip {i : Nat} {o : Oper} {a : Act} {w w' : World} {K : Act → World → Prop} (ho : ops[i]? = some o) (hw : Region.wanted o (yielded ops a.tmps) = true)
    (hr : (execOp a.eval o).run P w = .ok .skip w') (hS : S w') (h : K (a.put o.dst undef) w') : wpOp P ops Q i (fun a' w' => S w' ∧ K a' w') a w := by
  unfold wpOp
  simp only [ho, hw, if_true]
  refine .inl ?_
  unfold Oper.wp
  rw [hr]
  exact ⟨hS, h⟩
theorem call {i : Nat} {o : Oper} {a : Act} {w : World} {f : FuncId} {args : Array Value} {K : Act → World → Prop} (ho : ops[i]? = some o) (hw : Region.wanted o (yielded ops a.tmps) = true)
    (hr : (execOp a.eval o).run P w = .ok (.enter f args) w) (h : Calls P f args w fun e w' => ∃ v, e = .returned v ∧ S w' ∧ K (a.put o.dst v) w') : wpOp P ops Q i (fun a' w' => S w' ∧ K a' w') a w := by
  unfold wpOp
  simp only [ho, hw, if_true]
  refine .inl ?_
  unfold Oper.wp
  rw [hr]
  show Calls P f args w _
  exact h.mono fun e w' ⟨v, he, hS, hK⟩ => by subst he; exact ⟨hS, hK⟩
theorem start {id : Nat} {a : Act} {w : World} (S : World → Prop) (hm : P.follows .mixedOrders = true)
    (h : wpAnyH P .any ops Q S ops.size (Array.replicate ops.size false) a w.drew) : (Code.region id ops true).wp P Q a w := wp_region_held hm h
end
end Reg
end Go.Proofs.Ythccojfflmfggaa
/- The walks of layer 16 (world): a container is created. -/
namespace Go.Proofs.Ythccojfflmfggaa
open Go.RowKit
namespace Wo
/-- the containers with one more -/
def insB (bx : List ConV) (id : ByteArray) (round : Int) : List ConV := bx.take (Str.pos (ids bx) id) ++ ⟨id, 1, 0, round⟩ :: bx.drop (Str.pos (ids bx) id)
theorem crow_alloc {w : World} {A : Option Addr} {n c : Nat} {bx : List ConV} (h : CRow w A n c bx) (o : Obj) : CRow (w.alloc o) A n c bx := Ro.Row.keep h fun k hk => Below.heap_alloc w o k (Ro.Row.lt h hk)
theorem create_end {w w1 wI : World} {g : Nat} {s : St} {S : Nat → Prop} {AQ AB AI A' : Option Addr} {nq cq nb cb ni ci c' : Nat} {p : ConV} {bx' : List ConV} (h : AtL w g s S AQ nq cq AB nb cb AI ni ci) (hb : Below w.heap.size w w1)
    (hR : CRow wI A' (nb + 1) c' bx') (hO : Ro.Only (fun b => Ro.blk AB = some b) (w1.alloc (.cells p.arr 48)) wI) (hA : Ro.blk A' = Ro.blk AB ∨ ∃ b, Ro.blk A' = some b ∧ (w1.alloc (.cells p.arr 48)).heap.size ≤ b) :
    wI.cell? ⟨g, 2, none⟩ = some (.slice AB nb cb) ∧ (∀ o, wI.frozen? ⟨g, o, none⟩ = false) ∧ Post S w (wI.setCell ⟨g, 2, none⟩ (.slice A' (nb + 1) c')) g { s with bx := bx' } := by
  have hb2 : Below w.heap.size w (w1.alloc (.cells p.arr 48)) := hb.alloc hb.size _
  have h1 := h.keep (w' := w1.alloc (.cells p.arr 48)) (fun k hk _ => hb2.block k hk)
  obtain ⟨q1, q2, q3⟩ := h1.onlyB hO
  have hlt : ∀ k, Ro.blk A' = some k → k < wI.heap.size := fun k hk => Ro.Row.lt hR hk
  have hz := hO.size
  have hz1 := hb2.size
  refine ⟨q1.cell 2, q1.frozen, ?_⟩
  have hnew : ∀ k, Ro.blk A' = some k → ext S w wI k := by
    intro k hk
    rcases hA with hA | ⟨b, hA, hbb⟩
    · exact .inl (h.sb k (by rw [← hA]; exact hk))
    · have : b = k := by rw [hA] at hk; simpa using hk
      exact .inr ⟨by omega, hlt k hk⟩
  have hat : AtL (wI.setCell ⟨g, 2, none⟩ (.slice A' (nb + 1) c')) g { s with bx := bx' } (ext S w wI) AQ nq cq A' (nb + 1) c' AI ni ci :=
    ⟨q1.set_ 2 _, q2.only (Ro.Only.setCell _ _ _) (q2.apartB q1 (by decide)), hR.only (Ro.Only.setCell _ _ _) (hR.apartB q1 (by decide)), q3.only (Ro.Only.setCell _ _ _) (q3.apartB q1 (by decide)), .inl h.sg, fun k hk => .inl (h.sq k hk), hnew, fun k hk => .inl (h.si k hk)⟩
  refine ⟨(show At _ g _ (ext S w wI) from ⟨_, _, _, _, _, _, _, _, _, hat⟩).mono fun k _ c => ?_, ((Ro.Only.of_below hb2).trans hO fun k _ e => h.sb k e).trans (Ro.Only.setCell _ _ _) fun k _ e => by rw [e]; exact h.sg⟩
  rcases c with c | c
  · exact .inl c
  · exact .inr ⟨c.1, by simpa using c.2⟩
set_option maxRecDepth 100000 in
set_option maxHeartbeats 8000000 in
theorem wcreate_c (g : Nat) (s : St) (S : Nat → Prop) (id : ByteArray) (round : Int) (w : World) (h : At w g s S) (hs : Good s) :
    Calls Try.prog 14 #[.pointer (some ⟨g, 0, none⟩), .string id, .int .i64 round] w fun e w' => (Str.has (ids s.bx) id = true → e = .returned (.int .i64 5) ∧ Post S w w' g s) ∧ (Str.has (ids s.bx) id = false → e = .returned (.int .i64 0) ∧ Post S w w' g { s with bx := insB s.bx id round }) := by
  have hat := at_c g s S id w h hs
  cases hh : Str.has (ids s.bx) id
  · obtain ⟨AQ, nq, cq, AB, nb, cb, AI, ni, ci, h⟩ := h
    obtain ⟨_, l1, _⟩ := h.lens
    have hnb := hs.nb
    have hpl : Str.pos (ids s.bx) id ≤ nb := by have := Str.pos_le (ids s.bx) id; rw [ids_len] at this; omega
    rw [hh] at hat
    have Hat := Lib.hid hat
    have hI : Hid (insB s.bx id round = s.bx.take (Str.pos (ids s.bx) id) ++ ⟨id, 1, 0, round⟩ :: s.bx.drop (Str.pos (ids s.bx) id)) := rfl
    obtain ⟨P, hP⟩ : ∃ P, P = Str.pos (ids s.bx) id := ⟨_, rfl⟩
    rw [← hP] at Hat hpl hI
    clear hP
    have m2 : w.cell? ⟨g, 2, none⟩ = some (.slice AB nb cb) := h.blk.cell 2
    have hg := h.blk.lt
    have HL := Lib.hid h
    have sbl : ∀ k, Ro.blk AB = some k → k < w.heap.size := fun k hk => Ro.Row.lt h.b hk
    have SB := Lib.hid sbl
    clear h hs hh hat sbl
    go_enter Try.func14, Try.ntmps14
    go_wp2_with fail
    refine Hat.out.mono ?_
    rintro e w0 ⟨rfl, hb0⟩
    have HL0 : Hid (AtL w0 g s S AQ nq cq AB nb cb AI ni ci) := HL.out.keep fun k hk _ => hb0.block k hk
    have m20 : w0.cell? ⟨g, 2, none⟩ = some (.slice AB nb cb) := (hb0.cell (p := ⟨g, 2, none⟩) hg).trans m2
    have hg0 : g < w0.heap.size := Nat.lt_of_lt_of_le hg hb0.size
    clear m2 Hat
    go_wp2_with fail
    refine Reg.start (S := (fun _ => True)) (by kernel_rfl) ?_
    refine Reg.takes (n := 8) (by kernel_rfl) (fun _ _ d _ _ h => by cases d <;> exact h) trivial [0, 1, 2, 3, 5, 6, 8] _ _ (by kernel_rfl) ?_
    iterate 7 (refine Reg.det_step rfl (fun K' hK' => ?_); go_simp; (first | (refine hK' _ ?_; clear hK' K') | (apply Exists.intro; refine ⟨fun wx hwx => ?_, hK' _ ?_⟩; (first | rfl | (go_simp; first | done | rfl)); clear hK' K')))
    refine Reg.det_nil ?_
    refine Reg.two (i := 4) (j := 7) (n := 7) (by kernel_rfl) ?_ ?_
    · refine Reg.val rfl rfl (v := .slice AB nb cb) (w' := w0.drew) (by go_simp) trivial ?_
      refine Reg.one (i := 7) (n := 6) (by kernel_rfl) ?_
      refine Reg.call rfl rfl (by go_simp; exact ⟨rfl, rfl⟩) ?_
      refine (Box.new_c _).mono ?_
      rintro e w1 ⟨rfl, hb1⟩
      have hb : Below w0.heap.size w0 w1 := (show Below w0.heap.size w0 w0.drew from (Below.refl _ _).drew).trans hb1
      have m21 : w1.cell? ⟨g, 2, none⟩ = some (.slice AB nb cb) := (hb.cell (p := ⟨g, 2, none⟩) hg0).trans m20
      clear hb1
      refine ⟨_, rfl, trivial, ?_⟩
      refine Reg.takes (n := 5) (by kernel_rfl) (fun _ _ d _ _ h => by cases d <;> exact h) trivial [9] _ _ (by kernel_rfl) ?_
      iterate 1 (refine Reg.det_step rfl (fun K' hK' => ?_); go_simp; (first | (refine hK' _ ?_; clear hK' K') | (apply Exists.intro; refine ⟨fun wx hwx => ?_, hK' _ ?_⟩; (first | rfl | (go_simp; first | done | rfl)); clear hK' K')))
      refine Reg.det_nil ?_
      refine Reg.one (i := 10) (n := 4) (by kernel_rfl) ?_
      refine Reg.val rfl rfl (v := .slice (some ⟨w1.heap.size, 0, none⟩) 1 1) (w' := w1.alloc (.cells #[.string id, .int .i64 1, .int .i64 0, .int .i64 round] 48)) (by go_simp) trivial ?_
      refine Reg.one (i := 11) (n := 3) (by kernel_rfl) ?_
      refine Reg.call rfl rfl (by go_simp; exact ⟨rfl, rfl⟩) ?_
      have hL1 : AtL w1 g s S AQ nq cq AB nb cb AI ni ci := HL0.out.keep fun k hk _ => hb.block k hk
      refine (insert_c AB nb cb P w1.heap.size s.bx ⟨id, 1, 0, round⟩ _ (crow_alloc hL1.b _) hpl Mem.Blk.new (fun c => by have := Ro.Row.lt hL1.b c; omega) (by omega)).mono ?_
      rintro e wI ⟨A', c', rfl, hR, hO, hA⟩
      obtain ⟨q1, q2, q3⟩ := create_end (p := ⟨id, 1, 0, round⟩) HL0.out hb hR hO hA
      have Q3 : Hid (Post S w (wI.setCell ⟨g, 2, none⟩ (.slice A' (nb + 1) c')) g { s with bx := insB s.bx id round }) := by
        show Post _ _ _ _ _
        rw [hI.out]
        exact (Post.of_below ⟨_, _, _, _, _, _, _, _, _, HL.out⟩ hb0).trans (q3.mono_S fun _ c => .inl c)
      clear hR hO hA q3 hL1
      refine ⟨_, rfl, trivial, ?_⟩
      refine Reg.takes (n := 1) (by kernel_rfl) (fun _ _ d _ _ h => by cases d <;> exact h) trivial [12, 13] _ _ (by kernel_rfl) ?_
      iterate 2 (refine Reg.det_step rfl (fun K' hK' => ?_); go_simp; (first | (refine hK' _ ?_; clear hK' K') | (apply Exists.intro; refine ⟨fun wx hwx => ?_, hK' _ ?_⟩; (first | rfl | (go_simp; first | done | rfl)); clear hK' K')))
      refine Reg.det_nil ?_
      refine Reg.one (i := 14) (n := 0) (by kernel_rfl) ?_
      refine Reg.skip rfl rfl (w' := wI.setCell ⟨g, 2, none⟩ (.slice A' (nb + 1) c')) (by go_simp) trivial ?_
      refine wpAnyH_done (by kernel_rfl) ?_ _
      go_wp2_with fail
      go_ret
      exact ⟨fun c => (by cases c), fun _ => ⟨rfl, Q3.out⟩⟩
    · refine Reg.call rfl rfl (by go_simp; exact ⟨rfl, rfl⟩) ?_
      refine (Box.new_c _).mono ?_
      rintro e w1 ⟨rfl, hb1⟩
      have hb : Below w0.heap.size w0 w1 := (show Below w0.heap.size w0 w0.drew from (Below.refl _ _).drew).trans hb1
      have m21 : w1.cell? ⟨g, 2, none⟩ = some (.slice AB nb cb) := (hb.cell (p := ⟨g, 2, none⟩) hg0).trans m20
      clear hb1
      refine ⟨_, rfl, trivial, ?_⟩
      refine Reg.takes (n := 6) (by kernel_rfl) (fun _ _ d _ _ h => by cases d <;> exact h) trivial [9] _ _ (by kernel_rfl) ?_
      iterate 1 (refine Reg.det_step rfl (fun K' hK' => ?_); go_simp; (first | (refine hK' _ ?_; clear hK' K') | (apply Exists.intro; refine ⟨fun wx hwx => ?_, hK' _ ?_⟩; (first | rfl | (go_simp; first | done | rfl)); clear hK' K')))
      refine Reg.det_nil ?_
      refine Reg.two (i := 4) (j := 10) (n := 5) (by kernel_rfl) ?_ ?_
      · refine Reg.val rfl rfl (v := .slice AB nb cb) (w' := w1) (by go_simp) trivial ?_
        refine Reg.one (i := 10) (n := 4) (by kernel_rfl) ?_
        refine Reg.val rfl rfl (v := .slice (some ⟨w1.heap.size, 0, none⟩) 1 1) (w' := w1.alloc (.cells #[.string id, .int .i64 1, .int .i64 0, .int .i64 round] 48)) (by go_simp) trivial ?_
        refine Reg.one (i := 11) (n := 3) (by kernel_rfl) ?_
        refine Reg.call rfl rfl (by go_simp; exact ⟨rfl, rfl⟩) ?_
        have hL1 : AtL w1 g s S AQ nq cq AB nb cb AI ni ci := HL0.out.keep fun k hk _ => hb.block k hk
        refine (insert_c AB nb cb P w1.heap.size s.bx ⟨id, 1, 0, round⟩ _ (crow_alloc hL1.b _) hpl Mem.Blk.new (fun c => by have := Ro.Row.lt hL1.b c; omega) (by omega)).mono ?_
        rintro e wI ⟨A', c', rfl, hR, hO, hA⟩
        obtain ⟨q1, q2, q3⟩ := create_end (p := ⟨id, 1, 0, round⟩) HL0.out hb hR hO hA
        have Q3 : Hid (Post S w (wI.setCell ⟨g, 2, none⟩ (.slice A' (nb + 1) c')) g { s with bx := insB s.bx id round }) := by
          show Post _ _ _ _ _
          rw [hI.out]
          exact (Post.of_below ⟨_, _, _, _, _, _, _, _, _, HL.out⟩ hb0).trans (q3.mono_S fun _ c => .inl c)
        clear hR hO hA q3 hL1
        refine ⟨_, rfl, trivial, ?_⟩
        refine Reg.takes (n := 1) (by kernel_rfl) (fun _ _ d _ _ h => by cases d <;> exact h) trivial [12, 13] _ _ (by kernel_rfl) ?_
        iterate 2 (refine Reg.det_step rfl (fun K' hK' => ?_); go_simp; (first | (refine hK' _ ?_; clear hK' K') | (apply Exists.intro; refine ⟨fun wx hwx => ?_, hK' _ ?_⟩; (first | rfl | (go_simp; first | done | rfl)); clear hK' K')))
        refine Reg.det_nil ?_
        refine Reg.one (i := 14) (n := 0) (by kernel_rfl) ?_
        refine Reg.skip rfl rfl (w' := wI.setCell ⟨g, 2, none⟩ (.slice A' (nb + 1) c')) (by go_simp) trivial ?_
        refine wpAnyH_done (by kernel_rfl) ?_ _
        go_wp2_with fail
        go_ret
        exact ⟨fun c => (by cases c), fun _ => ⟨rfl, Q3.out⟩⟩
      · refine Reg.val rfl rfl (v := .slice (some ⟨w1.heap.size, 0, none⟩) 1 1) (w' := w1.alloc (.cells #[.string id, .int .i64 1, .int .i64 0, .int .i64 round] 48)) (by go_simp) trivial ?_
        refine Reg.one (i := 4) (n := 4) (by kernel_rfl) ?_
        have hg1 : g < w1.heap.size := Nat.lt_of_lt_of_le hg0 hb.size
        have m22 : (w1.alloc (.cells #[.string id, .int .i64 1, .int .i64 0, .int .i64 round] 48)).cell? ⟨g, 2, none⟩ = some (.slice AB nb cb) := Mem.keep_alloc m21
        refine Reg.val rfl rfl (v := .slice AB nb cb) (w' := w1.alloc (.cells #[.string id, .int .i64 1, .int .i64 0, .int .i64 round] 48)) (by go_simp) trivial ?_
        refine Reg.one (i := 11) (n := 3) (by kernel_rfl) ?_
        refine Reg.call rfl rfl (by go_simp; exact ⟨rfl, rfl⟩) ?_
        have hL1 : AtL w1 g s S AQ nq cq AB nb cb AI ni ci := HL0.out.keep fun k hk _ => hb.block k hk
        refine (insert_c AB nb cb P w1.heap.size s.bx ⟨id, 1, 0, round⟩ _ (crow_alloc hL1.b _) hpl Mem.Blk.new (fun c => by have := Ro.Row.lt hL1.b c; omega) (by omega)).mono ?_
        rintro e wI ⟨A', c', rfl, hR, hO, hA⟩
        obtain ⟨q1, q2, q3⟩ := create_end (p := ⟨id, 1, 0, round⟩) HL0.out hb hR hO hA
        have Q3 : Hid (Post S w (wI.setCell ⟨g, 2, none⟩ (.slice A' (nb + 1) c')) g { s with bx := insB s.bx id round }) := by
          show Post _ _ _ _ _
          rw [hI.out]
          exact (Post.of_below ⟨_, _, _, _, _, _, _, _, _, HL.out⟩ hb0).trans (q3.mono_S fun _ c => .inl c)
        clear hR hO hA q3 hL1
        refine ⟨_, rfl, trivial, ?_⟩
        refine Reg.takes (n := 1) (by kernel_rfl) (fun _ _ d _ _ h => by cases d <;> exact h) trivial [12, 13] _ _ (by kernel_rfl) ?_
        iterate 2 (refine Reg.det_step rfl (fun K' hK' => ?_); go_simp; (first | (refine hK' _ ?_; clear hK' K') | (apply Exists.intro; refine ⟨fun wx hwx => ?_, hK' _ ?_⟩; (first | rfl | (go_simp; first | done | rfl)); clear hK' K')))
        refine Reg.det_nil ?_
        refine Reg.one (i := 14) (n := 0) (by kernel_rfl) ?_
        refine Reg.skip rfl rfl (w' := wI.setCell ⟨g, 2, none⟩ (.slice A' (nb + 1) c')) (by go_simp) trivial ?_
        refine wpAnyH_done (by kernel_rfl) ?_ _
        go_wp2_with fail
        go_ret
        exact ⟨fun c => (by cases c), fun _ => ⟨rfl, Q3.out⟩⟩
  · rw [hh] at hat
    have Hat := Lib.hid hat
    have HP := Lib.hid (fun w' (hb : Below w.heap.size w w') => Post.of_below h hb)
    generalize Str.pos (ids s.bx) id = P at *
    clear h hs hh hat
    go_enter Try.func14, Try.ntmps14
    go_wp2_with fail
    refine Hat.out.mono ?_
    rintro e w0 ⟨rfl, hb0⟩
    go_wp2_with fail
    go_ret
    exact ⟨fun _ => ⟨rfl, HP.out _ hb0⟩, fun c => (by cases c)⟩
end Wo
end Go.Proofs.Ythccojfflmfggaa
