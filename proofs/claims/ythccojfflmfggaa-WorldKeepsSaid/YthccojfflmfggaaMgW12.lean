/- The walks of the law of layer 16: names, few acts; an act, whatever it is. -/
import Derived.Test.YthccojfflmfggaaMgW11
import Derived.Test.YthccojfflmfggaaMgW8
import Derived.Test.YthccojfflmfggaaMgW7
namespace Go.Proofs.Ythccojfflmfggaa
open Go.RowKit
namespace Wo
/-- some bool; if it is true, so is Q; nothing is changed -/
def NR (Q : Prop) (W : World) (e : Ending) (w' : World) : Prop := ∃ b, e = .returned (.bool b) ∧ (b = true → Q) ∧ w' = W
set_option maxRecDepth 100000 in
theorem names_c (A : Option Addr) (n c B : Nat) (us : List ByteArray) (w : World) (h : Strs w B A n us) (hu : ∀ u ∈ us, u.size ≤ maxLen) (hn : n ≤ maxLen) :
    Calls Try.prog 39 #[.slice A n c] w (NR (n ≤ 60) w) := by
  unfold maxLen at hu hn
  go_enter Try.func39, Try.ntmps39
  go_wp2_with fail
  go_loop [3] (fun vi => ∃ k : Nat, k ≤ n ∧ vi = .int .i64 k) (fun i => n - (intOf i).toNat)
  case atStart => exact ⟨0, by omega, rfl⟩
  case round =>
    obtain ⟨k, hk, rfl⟩ := hrel
    by_cases hlt : k < n ∧ k < 100
    · obtain ⟨h1, h2⟩ := hlt
      obtain ⟨ad, t, hl, rfl, _, e, hat⟩ := h.at_ h1
      have hz : t.size ≤ 9223372036854775807 := by rw [← e]; exact hu _ (List.getElem_mem hl)
      clear e hl hu
      by_cases hts : 60 < t.size
      · go_wp2_with fail
        go_ret
        exact ⟨false, rfl, fun h => (by cases h), rfl⟩
      · go_wp2_with fail
        go_round
        case rel => exact ⟨k + 1, by omega, by go_num⟩
        case measure => simp [intOf]; omega
    · have hor : k < n ∧ 100 ≤ k ∨ k = n := by omega
      rcases hor with ⟨h1, h2⟩ | rfl
      · go_wp2_with fail
        go_ret
        exact ⟨_, rfl, fun h => (by have := of_decide_eq_true h; omega), rfl⟩
      · go_wp2_with fail
        go_ret
        exact ⟨_, rfl, fun h => (by have := of_decide_eq_true h; omega), rfl⟩
/-- a small act -/
def Small (p : ActV) : Prop := p.welln ≤ 3000 ∧ p.usedn ≤ 60
set_option maxRecDepth 100000 in
set_option maxHeartbeats 4000000 in
theorem few_c (A : Option Addr) (n c : Nat) (ps : List ActV) (w : World) (h : Mem.Sl w w.heap.size 8 A n (ActV.flat ps)) (hok : ∀ p ∈ ps, p.ok ∧ ActV.lies w w.heap.size p) (hn : n ≤ maxLen) :
    Calls Try.prog 23 #[.slice A n c] w (NR (n ≤ 50 ∧ ∀ p ∈ ps, Small p) w) := by
  have hpl : ps.length = n := by have := h.1; rw [ActV.flat_len] at this; omega
  unfold maxLen at hn
  go_enter Try.func23, Try.ntmps23
  go_wp2_with fail
  go_loop [3] (fun vi => ∃ k : Nat, k ≤ n ∧ vi = .int .i64 k ∧ Hid (∀ (j : Nat) (hj : j < ps.length), j < k → Small ps[j])) (fun i => n - (intOf i).toNat)
  case atStart => exact ⟨0, by omega, rfl, fun j hj c => absurd c (by omega)⟩
  case round =>
    obtain ⟨k, hk, rfl, HN⟩ := hrel
    by_cases hlt : k < n ∧ k < 100
    · obtain ⟨h1, h2⟩ := hlt
      obtain ⟨ad, hl, rfl, _, hbk, hat⟩ := ActV.at_ h h1
      have hkk := hok _ (List.getElem_mem hl)
      have hstep : Hid (Small ps[k] → Hid (∀ (j : Nat) (hj : j < ps.length), j < k + 1 → Small ps[j])) := Lib.hid fun hs j hj hjk => by
        rcases Nat.lt_succ_iff_lt_or_eq.1 hjk with h | h
        · exact HN.out j hj h
        · subst h; exact hs
      generalize ps[k] = p at *
      obtain ⟨c0, c1, c2, c3, c4, c5, c6, c7⟩ := hat
      obtain ⟨hpo, hpl2⟩ := hkk
      have hNm := Lib.hid (names_c p.usedA p.usedn p.usedc w.heap.size p.used w hpl2.used hpo.used.2.2.2 (by have := hpo.used.1; have := hpo.used.2.1; omega))
      have b1 := hpo.id
      have b2 := hpo.name
      have b3 := hpo.well
      have b4 := hpo.used
      have b5 := hpo.size
      have b6 := hpo.round
      have b7 := hpo.what
      have b8 := hpo.d
      have b3' : p.welln ≤ 9223372036854775807 := by have := b3.1; have := b3.2.1; unfold maxLen at this; omega
      unfold maxLen at b1 b2
      unfold ActV.I64 at b5 b6 b7 b8
      unfold Small at hstep
      clear b3 b4 hpo hpl2 hok h hpl HN
      obtain ⟨d, well, wA, wn, wc, id, what, name, size, round, used, uA, un, uc⟩ := p
      dsimp only at *
      by_cases g1 : 60 < id.size
      · go_wp2_with fail
        go_ret
        exact ⟨false, rfl, fun h => (by cases h), rfl⟩
      by_cases g2 : 60 < name.size
      · go_wp2_with fail
        go_ret
        exact ⟨false, rfl, fun h => (by cases h), rfl⟩
      by_cases g3 : 3000 < wn
      · go_wp2_with fail
        go_ret
        exact ⟨false, rfl, fun h => (by cases h), rfl⟩
      go_wp2_with fail
      refine hNm.out.mono ?_
      rintro e w2 ⟨b, rfl, hb, rfl⟩
      cases b with
      | false =>
        go_wp2_with fail
        go_ret
        exact ⟨false, rfl, fun h => (by cases h), rfl⟩
      | true =>
        have hu := hb rfl
        clear hb hNm
        by_cases g4 : size < 0
        · go_wp2_with fail
          go_ret
          exact ⟨false, rfl, fun h => (by cases h), rfl⟩
        by_cases g5 : round < 0
        · go_wp2_with fail
          go_ret
          exact ⟨false, rfl, fun h => (by cases h), rfl⟩
        have hnx := hstep.out ⟨by omega, hu⟩
        clear hstep
        go_wp2_with fail
        go_round
        case rel => exact ⟨k + 1, by omega, by go_num, hnx⟩
        case measure => simp [intOf]; omega
    · have hor : k < n ∧ 100 ≤ k ∨ k = n := by omega
      rcases hor with ⟨h1, h2⟩ | rfl
      · clear hok h
        go_wp2_with fail
        go_ret
        exact ⟨_, rfl, fun h => (by have := of_decide_eq_true h; omega), rfl⟩
      · have hall : Hid (∀ p ∈ ps, Small p) := Lib.hid fun p hp => by
          obtain ⟨j, hj, rfl⟩ := List.getElem_of_mem hp
          exact HN.out j hj (by omega)
        clear hok h HN
        go_wp2_with fail
        go_ret
        exact ⟨_, rfl, fun h => ⟨by have := of_decide_eq_true h; omega, hall.out⟩, rfl⟩
theorem does_c {w : World} {ks T : Nat → Prop} {g : Nat} {s : St} {v : Value} {k : Nat} {p : ActV} (h : Two w ks T g s v) (hs : Fine k s) (hk : k ≤ 999) (hp : p.ok) (hl : ActV.lies w w.heap.size p) (hw : p.welln ≤ 5000) (hu : p.usedn ≤ 5000) (hwk : ∀ ad, p.usedA = some ad → 0 < p.usedn → ks ad.block) :
    Calls Try.prog 24 #[.pointer (some ⟨g, 0, none⟩), v, .agg p.arr] w fun e w' => ∃ v', e = .returned (.tuple #[v', .bool true]) ∧ Fin w ks T g (actS s (acOf p)) v' w' := by
  by_cases d0 : p.d = 0
  · exact does_0 h hs hk hp hl hw hu hwk d0
  by_cases d1 : p.d = 1
  · exact does_1 h hs hk hp hl hw hu hwk d1
  by_cases d2 : p.d = 2
  · exact does_2 h hs hk hp hl hw hu hwk d2
  by_cases d3 : p.d = 3
  · exact does_3 h hs hk hp hl hw hu hwk d3
  by_cases d4 : p.d = 4
  · exact does_4 h hs hk hp hl hw hu hwk d4
  exact does_5 h hs hk hp hl hw hu hwk ⟨d0, d1, d2, d3, d4⟩
end Wo
end Go.Proofs.Ythccojfflmfggaa
/- Words for the laws of layer 16 (world): a runtime and the document's value of it, among blocks of the law's own. -/
namespace Go.Proofs.Ythccojfflmfggaa
open Go.RowKit
open worldLife (has_self has_turn)
namespace Wo
section
variable {w w' : World} {ks T : Nat → Prop} {g : Nat} {s : St} {v : Value}
theorem Two.below (h : Two w ks T g s v) (hb : Below w.heap.size w w') : Two w' ks T g s v := ⟨has_self (h.has.below hb), h.rv.below hb, h.sub⟩
theorem Two.add (h : Two w ks T g s v) (o : Obj) : Two (w.alloc o) (fun k => ks k ∨ k = w.heap.size) T g s v :=
  ⟨h.has.rebase ((Below.refl _ _).alloc (Nat.le_refl _) o) (fun k hk => by
    rcases hk with hk | hk
    · exact ⟨by have := h.lt k hk; simp; omega, .inl hk⟩
    · exact ⟨by simp; omega, .inr (by omega)⟩), h.rv.below ((Below.refl _ _).alloc (Nat.le_refl _) o), fun k hk => .inl (h.sub k hk)⟩
theorem Two.put {Z : Nat → Prop} (h : Two w ks T g s v) (ho : Ro.Only Z w w') (hk : ∀ k, Z k → ks k) (hT : ∀ k, T k → ¬ Z k) : Two w' ks T g s v :=
  ⟨has_turn h.has (ho.mono fun k _ c => hk k c) (fun k c => ⟨by have := h.lt k c; have := ho.size; omega, .inl c⟩), h.rv.own ho fun k _ ht => hT k ht, h.sub⟩
end
/-- a runtime, and the document's value of it; what E names is the law's own -/
def Inv (W w : World) (E : Nat → Prop) (g : Nat) (s : St) (cs : Array Value) : Prop :=
  ∃ ks T, Below W.heap.size W w ∧ Two w ks T g s (.agg cs) ∧ (∀ k, k < W.heap.size → ks k) ∧ ∀ k, E k → ks k ∧ ¬ T k ∧ W.heap.size ≤ k
section
variable {W w w' : World} {E E' : Nat → Prop} {g k : Nat} {s s' : St} {cs : Array Value}
theorem Inv.base (h : Inv W w E g s cs) : Below W.heap.size W w := by obtain ⟨_, _, h, _⟩ := h; exact h
theorem Inv.shape (h : Inv W w E g s cs) : ∃ (rt : Int) (AO : Option Addr) (nO cO : Nat) (AB : Option Addr) (nB cB : Nat) (AI : Option Addr) (nI cI : Nat), cs = #[.int .i64 rt, .slice AO nO cO, .slice AB nB cB, .slice AI nI cI] := by
  obtain ⟨_, _, _, ⟨_, hv, _⟩, _⟩ := h
  obtain ⟨rt, AO, nO, cO, AB, nB, cB, AI, nI, cI, e⟩ := hv.shape
  exact ⟨rt, AO, nO, cO, AB, nB, cB, AI, nI, cI, by simpa using e⟩
theorem Inv.rows {rt : Int} {AO AB AI : Option Addr} {nO cO nB cB nI cI : Nat} (h : Inv W w E g s #[.int .i64 rt, .slice AO nO cO, .slice AB nB cB, .slice AI nI cI]) :
    (rt = s.rt ∧ nO = s.outs.length ∧ nB = s.bx.length ∧ nI = s.im.length) ∧ CRow w AB nB cB s.bx := by
  obtain ⟨_, _, _, ⟨_, hv, _⟩, _⟩ := h
  exact ⟨hv.parts.1, hv.parts.2.2.1⟩
theorem Inv.below (h : Inv W w E g s cs) (hb : Below w.heap.size w w') : Inv W w' E g s cs := by
  obtain ⟨ks, T, h1, h2, h3, h4⟩ := h
  exact ⟨ks, T, h1.trans (hb.mono h1.size), h2.below hb, h3, h4⟩
theorem Inv.less (h : Inv W w E g s cs) (hE : ∀ k, E' k → E k) : Inv W w E' g s cs := by
  obtain ⟨ks, T, h1, h2, h3, h4⟩ := h
  exact ⟨ks, T, h1, h2, h3, fun k hk => h4 k (hE k hk)⟩
theorem Inv.add (h : Inv W w E g s cs) (o : Obj) : Inv W (w.alloc o) (fun k => E k ∨ k = w.heap.size) g s cs := by
  obtain ⟨ks, T, h1, h2, h3, h4⟩ := h
  refine ⟨_, T, h1.alloc h1.size _, h2.add o, fun k hk => .inl (h3 k hk), fun k hk => ?_⟩
  rcases hk with hk | hk
  · exact ⟨.inl (h4 k hk).1, (h4 k hk).2⟩
  · exact ⟨.inr hk, fun c => by have := h2.lt k (h2.sub k c); omega, by have := h1.size; omega⟩
theorem Inv.put {Z : Nat → Prop} (h : Inv W w E g s cs) (ho : Ro.Only Z w w') (hZ : ∀ k, Z k → E k) : Inv W w' E g s cs := by
  obtain ⟨ks, T, h1, h2, h3, h4⟩ := h
  exact ⟨ks, T, h1.trans (ho.below h1.size fun k hk c => by have := (h4 k (hZ k c)).2.2; omega), h2.put ho (fun k c => (h4 k (hZ k c)).1) (fun k ht c => (h4 k (hZ k c)).2.1 ht), h3, h4⟩
theorem Inv.lt (h : Inv W w E g s cs) (hk : E k) : W.heap.size ≤ k ∧ k < w.heap.size := by
  obtain ⟨ks, T, h1, h2, h3, h4⟩ := h
  exact ⟨(h4 k hk).2.2, h2.lt k (h4 k hk).1⟩
/-- the runtime at work, alone -/
theorem Inv.has (h : Inv W w E g s cs) : Has w (fun k => E k ∨ k < W.heap.size) w g s := by
  obtain ⟨ks, T, h1, h2, h3, h4⟩ := h
  refine h2.has.rebase (Below.refl _ _) (fun k hk => ?_)
  rcases hk with hk | hk
  · exact ⟨h2.lt k (h4 k hk).1, .inl (h4 k hk).1⟩
  · exact ⟨by have := h1.size; omega, .inl (h3 k hk)⟩
/-- what is kept by an act -/
structure Keeps (W : World) (E : Nat → Prop) (w w' : World) : Prop where
  only : Ro.Only (fun k => ¬ (E k ∨ k < W.heap.size)) w w'
theorem Keeps.base (h : Keeps W E w w') (hb : Below W.heap.size W w) : Below W.heap.size W w' := hb.trans (h.only.below hb.size fun _k hk c => c (.inr hk))
theorem Keeps.blk {t : TypeId} {b : Nat} {bs : Array Value} (h : Keeps W E w w') (hk : E b) (hM : Mem.Blk w b t bs) : Mem.Blk w' b t bs := (h.only.block b hM.lt (fun c => c (.inl hk))).trans hM
theorem Keeps.refl : Keeps W E w w := ⟨Ro.Only.refl _ _⟩
theorem Keeps.drew (h : Keeps W E w w') : Keeps W E w w'.drew := ⟨h.only.drew⟩
theorem Keeps.undrew (h : Keeps W E w.drew w') : Keeps W E w w' := ⟨h.only.undrew⟩
theorem Keeps.alloc (h : Keeps W E w w') (o : Obj) : Keeps W E w (w'.alloc o) := ⟨h.only.alloc o⟩
theorem Keeps.size (h : Keeps W E w w') : w.heap.size ≤ w'.heap.size := h.only.size
theorem Keeps.trans {w1 : World} (h : Keeps W E w w1) (h2 : Keeps W E w1 w') : Keeps W E w w' := ⟨Ro.Only.trans h.only h2.only (fun _ _ c => c)⟩
theorem Keeps.of_below (h : Below w.heap.size w w') : Keeps W E w w' := ⟨Ro.Only.of_below h⟩
theorem Keeps.mono {E' : Nat → Prop} (h : Keeps W E w w') (hE : ∀ k, k < w.heap.size → E' k → E k) : Keeps W E' w w' := ⟨Ro.Only.mono h.only fun k hk c d => c (d.imp (hE k hk) id)⟩
/-- a store into a block that is neither kept nor the caller's -/
theorem Keeps.put {Z : Nat → Prop} {w1 : World} (h : Keeps W E w w1) (ho : Ro.Only Z w1 w') (hZ : ∀ k, k < w.heap.size → Z k → ¬ (E k ∨ k < W.heap.size)) : Keeps W E w w' := ⟨Ro.Only.trans h.only ho hZ⟩
theorem Inv.does {p : ActV} {K : Nat} (h : Inv W w E g s cs) (hs : Fine K s) (hk : K ≤ 999) (hp : p.ok) (hl : ActV.lies w w.heap.size p) (hw : p.welln ≤ 5000) (hu : p.usedn ≤ 5000) (hwk : ∀ ad, p.usedA = some ad → 0 < p.usedn → E ad.block ∨ ad.block < W.heap.size) :
    Calls Try.prog 24 #[.pointer (some ⟨g, 0, none⟩), .agg cs, .agg p.arr] w fun e w' => ∃ cs', e = .returned (.tuple #[.agg cs', .bool true]) ∧ Inv W w' E g (actS s (acOf p)) cs' ∧ Keeps W E w w' := by
  obtain ⟨ks, T, h1, h2, h3, h4⟩ := h
  refine (does_c h2 hs hk hp hl hw hu (fun ad e hn => (hwk ad e hn).elim (fun c => (h4 _ c).1) (h3 _))).mono ?_
  rintro e w' ⟨v', rfl, ks', T', t2, hks, hT, ho⟩
  obtain ⟨rt, AO, nO, cO, AB, nB, cB, AI, nI, cI, rfl⟩ := t2.rv.shape
  refine ⟨_, rfl, ⟨ks', T', h1.trans (ho.below h1.size fun k hk c => c (h3 k hk)), t2, fun k hk => hks k (h3 k hk), fun k hk => ⟨hks k (h4 k hk).1, fun c => ?_, (h4 k hk).2.2⟩⟩, ⟨ho.mono fun k _ c d => c ?_⟩⟩
  · rcases hT k c with c | c
    · exact (h4 k hk).2.1 c
    · have := h2.lt k (h4 k hk).1
      omega
  · rcases d with d | d
    · exact (h4 k d).1
    · exact h3 k d
theorem Inv.same {K : Nat} (h : Inv W w E g s cs) (hs : Fine K s) (hk : K ≤ 1000) :
    Calls Try.prog 26 #[.pointer (some ⟨g, 0, none⟩), .agg cs] w fun e w' => e = .returned (.bool true) ∧ Below w.heap.size w w' := by
  obtain ⟨ks, T, h1, h2, h3, h4⟩ := h
  exact same_c h2.has hs hk h2.rv
/-- a new runtime, and the document's -/
theorem Inv.start {S : Nat → Prop} {rt : Int} (hb : Below W.heap.size W w) (ha : At w g ⟨rt, [], [], []⟩ S) (hS : ∀ k, S k → W.heap.size ≤ k) : Inv W w (fun _ => False) g ⟨rt, [], [], []⟩ #[.int .i64 rt, .slice none 0 0, .slice none 0 0, .slice none 0 0] := by
  refine ⟨fun k => k < W.heap.size, fun _ => False, hb, ⟨has_self (Has.start hb (fun k hk => hk) ha hS), ⟨none, none, none, 0, 0, 0, rfl, Ro.Row.nil, Ro.Row.nil, Ro.Row.nil, fun k hk => (by cases hk), fun k hk => (by cases hk), fun k hk => (by cases hk)⟩, fun k c => c.elim⟩, fun k hk => hk, fun k c => c.elim⟩
end
end Wo
end Go.Proofs.Ythccojfflmfggaa
/- The plain law of layer 16 (world): what is asked of one container, or one image, leaves another as it is. -/
namespace Go.Proofs.Ythccojfflmfggaa
open Go.RowKit
namespace Wo
section
variable {bx : List ConV} {im : List ImgV} {id name : ByteArray} {q rt round : Int} {well : Bool} {p : ConV} {x : ImgV}
theorem the_mem (hr : Str.Rises (ids bx)) (hp : p ∈ bx) : the bx p.id = some p := by
  obtain ⟨j, hj, rfl⟩ := List.getElem_of_mem hp
  obtain ⟨h1, h2⟩ := pos_of_at hr (by rw [ids_len]; exact hj) (id_at hj)
  unfold the
  rw [h2, if_pos rfl, h1, List.getElem?_eq_getElem hj]
theorem has_mem (hp : p ∈ bx) : Str.has (ids bx) p.id = true := Str.has_iff.2 (List.mem_map_of_mem hp)
theorem doB_mem (hr : Str.Rises (ids bx)) (hh : Str.has (ids bx) id = true) (hp : p ∈ bx) (hn : p.id ≠ id) : p ∈ doB bx (Str.pos (ids bx) id) q well rt round := by
  obtain ⟨hl, -, hn2⟩ := the_some hr hh
  obtain ⟨j, hj, rfl⟩ := List.getElem_of_mem hp
  have hne : Str.pos (ids bx) id ≠ j := by
    rintro e
    apply hn
    rw [← hn2]
    simp only [e]
  unfold doB
  rw [List.getElem?_eq_getElem hl]
  dsimp only
  generalize Str.pos (ids bx) id = P at *
  split
  · rcases Nat.lt_or_gt_of_ne hne with h | h
    · exact List.mem_append_right _ (List.mem_iff_getElem.2 ⟨j - (P + 1), by simp; omega, by rw [List.getElem_drop]; congr 1; omega⟩)
    · exact List.mem_append_left _ (List.mem_iff_getElem.2 ⟨j, by simp; omega, by rw [List.getElem_take]⟩)
  · exact List.mem_iff_getElem.2 ⟨j, by simpa using hj, by rw [List.getElem_set, if_neg hne]⟩
theorem dropI_mem (hr : Str.Rises (nms im)) (hx : x ∈ im) (hn : x.name ≠ name) : x ∈ dropI im name := by
  rw [← dropI_is hr]
  refine List.mem_filter.2 ⟨hx, ?_⟩
  unfold neI
  rw [beq_eq_false_iff_ne.2 (fun e => hn (bytes_eq e))]
  rfl
end
/-- an outcome is fed, a container is asked, an image is dropped -/
def ap1 (s : St) (b : Bool) : St := if 4096 < s.outs.length + 1 then s else { s with outs := s.outs ++ [b] }
def ap2 (s : St) (id : ByteArray) (q round : Int) : St := if askE s id q = 0 then askS s id q round else s
def ap3 (s : St) (name : ByteArray) : St := if Str.has (nms s.im) name then dropS s name else s
section
variable {k : Nat} {s : St} {b : Bool} {id name : ByteArray} {q round : Int} {p : ConV} {x : ImgV}
theorem Fine.ap1 (h : Fine k s) : Fine k (ap1 s b) := by
  unfold Wo.ap1
  split
  · exact h
  · exact h.outs (by simp; omega)
theorem Fine.ap2 (h : Fine k s) : Fine k (ap2 s id q round) := by
  unfold Wo.ap2
  split
  · exact h.ask
  · exact h
theorem Fine.ap3 (h : Fine k s) : Fine k (ap3 s name) := by
  unfold Wo.ap3
  split
  · exact h.drp
  · exact h
theorem ap1_bx : (ap1 s b).bx = s.bx ∧ (ap1 s b).im = s.im := by
  unfold ap1
  split <;> exact ⟨rfl, rfl⟩
theorem ap2_mem (h : Fine k s) (hp : p ∈ s.bx) (hn : p.id ≠ id) : p ∈ (ap2 s id q round).bx := by
  unfold ap2
  split
  · rename_i e
    have e0 : errM s.bx id q = 0 := by
      unfold askE at e
      by_cases c : errM s.bx id q = 0
      · exact c
      · rw [if_neg c] at e
        exact absurd e c
    obtain ⟨hh, -⟩ := errM_zero h.good.rb e0
    exact doB_mem h.good.rb hh hp hn
  · exact hp
theorem ap2_im : (ap2 s id q round).im = s.im := by
  unfold ap2
  split <;> rfl
theorem ap3_bx : (ap3 s name).bx = s.bx := by
  unfold ap3
  split <;> rfl
theorem ap3_mem (h : Fine k s) (hx : x ∈ s.im) (hn : x.name ≠ name) : x ∈ (ap3 s name).im := by
  unfold ap3
  split
  · unfold dropS
    dsimp only
    split
    · exact dropI_mem h.good.ri hx hn
    · exact hx
  · exact hx
/-- the state behind all three -/
def apS (s : St) (b : Bool) (id : ByteArray) (q round : Int) (name : ByteArray) : St := ap3 (ap2 (ap1 s b) id q round) name
theorem Fine.apS (h : Fine k s) : Fine k (apS s b id q round name) := h.ap1.ap2.ap3
theorem apS_box (h : Fine k s) (hp : p ∈ s.bx) (hn : p.id ≠ id) : boxOf (apS s b id q round name).bx p.id = (p.st, p.tr) ∧ Str.has (ids (apS s b id q round name).bx) p.id = true := by
  have h1 : p ∈ (apS s b id q round name).bx := by
    unfold apS
    rw [ap3_bx]
    exact ap2_mem h.ap1 (by rw [ap1_bx.1]; exact hp) hn
  refine ⟨?_, has_mem h1⟩
  unfold boxOf
  rw [the_mem h.apS.good.rb h1]
theorem apS_img (h : Fine k s) (hx : x ∈ s.im) (hn : x.name ≠ name) : x ∈ (apS s b id q round name).im :=
  ap3_mem h.ap1.ap2 (by rw [ap2_im, ap1_bx.2]; exact hx) hn
/-- found so far -/
def fnd (now : List ImgV) (x : ImgV) (f : Bool) (k : Nat) : Bool := f || (now.take k).any fun y => sameI y x
theorem fnd_zero {now : List ImgV} {f : Bool} : fnd now x f 0 = f := by simp [fnd]
theorem fnd_succ {now : List ImgV} {f : Bool} {k : Nat} (hk : k < now.length) : fnd now x f (k + 1) = (fnd now x f k || sameI now[k] x) := by
  unfold fnd
  rw [Mem.take_snoc _ _ hk, List.any_append, List.any_cons, List.any_nil, Bool.or_false, Bool.or_assoc]
theorem fnd_all {now : List ImgV} {f : Bool} {k : Nat} (hk : now.length ≤ k) (h : f = true ∨ x ∈ now) : fnd now x f k = true := by
  unfold fnd
  rw [List.take_of_length_le hk]
  rcases h with h | h
  · rw [h]; rfl
  · rw [Bool.or_eq_true]
    exact .inr (List.any_eq_true.2 ⟨x, h, sameI_self x⟩)
end
/-- a runtime beside the law's rows of containers and of images -/
structure Apt (W w : World) (g : Nat) (s : St) (AB : Option Addr) (nB cB : Nat) (bx : List ConV) (AI : Option Addr) (nI cI : Nat) (im : List ImgV) : Prop where
  base : Below W.heap.size W w
  has : Has w (fun k => k < W.heap.size ∨ Ro.blk AB = some k ∨ Ro.blk AI = some k) w g s
  rb : CRow w AB nB cB bx
  ri : IRow w AI nI cI im
section
variable {W w w' : World} {g : Nat} {s s' : St} {AB AI : Option Addr} {nB cB nI cI : Nat} {bx : List ConV} {im : List ImgV}
theorem Apt.run (h : Apt W w g s AB nB cB bx AI nI cI im) (h2 : Has w (fun k => k < W.heap.size ∨ Ro.blk AB = some k ∨ Ro.blk AI = some k) w' g s') : Apt W w' g s' AB nB cB bx AI nI cI im :=
  ⟨h.base.trans (h2.only.below h.base.size (fun _k hk c => c (.inl hk))), worldLife.has_self h2, Ro.Row.only h.rb h2.only (fun _k hk c => c (.inr (.inl hk))), Ro.Row.only h.ri h2.only (fun _k hk c => c (.inr (.inr hk)))⟩
theorem Apt.below (h : Apt W w g s AB nB cB bx AI nI cI im) (hb : Below w.heap.size w w') : Apt W w' g s AB nB cB bx AI nI cI im := h.run (h.has.below hb)
theorem Apt.less (h : Apt W w g s AB nB cB bx AI nI cI im) : Apt W w g s none 0 0 [] AI nI cI im :=
  ⟨h.base, h.has.rebase (Below.refl _ _) (fun k hk => by
    have hlt : k < w.heap.size := by
      rcases hk with hk | hk | hk
      · have := h.base.size; omega
      · cases hk
      · exact Ro.Row.lt h.ri hk
    exact ⟨hlt, .inl (hk.imp id fun c => c.elim (fun c => by cases c) .inr)⟩), Ro.Row.nil, h.ri⟩
theorem Apt.start {E : Nat → Prop} {w0 w1 : World} {cs : Array Value} (h : Inv W w0 E g s cs) (hb1 : Below w0.heap.size w0 w1) (rb : CRow w1 AB nB cB bx) (f1 : ∀ b, Ro.blk AB = some b → w0.heap.size ≤ b) (hb2 : Below w1.heap.size w1 w) (ri : IRow w AI nI cI im) (f2 : ∀ b, Ro.blk AI = some b → w1.heap.size ≤ b) : Apt W w g s AB nB cB bx AI nI cI im := by
  have hz := h.base.size
  have hz1 := hb1.size
  have hz2 := hb2.size
  refine ⟨(h.base.trans (hb1.mono hz)).trans (hb2.mono (by omega)), h.has.rebase (hb1.trans (hb2.mono hz1)) (fun k hk => ?_), Ro.Row.keep rb fun b hb => hb2.block b (Ro.Row.lt rb hb), ri⟩
  rcases hk with hk | hk | hk
  · exact ⟨by omega, .inl (.inr hk)⟩
  · have := Ro.Row.lt rb hk
    exact ⟨by omega, .inr (f1 k hk)⟩
  · have := Ro.Row.lt ri hk
    exact ⟨by omega, .inr (by have := f2 k hk; omega)⟩
theorem feed1 {wr : World} {ks : Nat → Prop} {k : Nat} {b : Bool} {c : Nat} {A : Option Addr} (h : Has wr ks w g s) (hs : Fine k s) (h2 : Mem.Sl w w.heap.size 1 A 1 ([b].map Value.bool)) :
    Calls Try.prog 13 #[.pointer (some ⟨g, 0, none⟩), .slice A 1 c] w fun e w' => (∃ E : Int, e = .returned (.int .i64 E)) ∧ Has wr ks w' g (ap1 s b) := by
  refine (feedH (c := c) h h2 (by omega) hs.good.no).mono ?_
  rintro e w' ⟨p1, p2⟩
  unfold ap1
  by_cases c : 4096 < s.outs.length + 1
  · rw [if_pos c]
    exact ⟨⟨_, (p1 c).1⟩, (p1 c).2⟩
  · rw [if_neg c]
    exact ⟨⟨_, (p2 (by omega)).1⟩, (p2 (by omega)).2⟩
theorem ask1 {wr : World} {ks : Nat → Prop} {k : Nat} {id : ByteArray} {q round : Int} (h : Has wr ks w g s) (hs : Fine k s) (hq : (Lit.int .i64 q).wf = true) :
    Calls Try.prog 18 #[.pointer (some ⟨g, 0, none⟩), .string id, .int .i64 q, .int .i64 round] w fun e w' => (∃ (b : Bool) (E : Int), e = .returned (.tuple #[.bool b, .int .i64 E])) ∧ Has wr ks w' g (ap2 s id q round) := by
  refine (askH h hs.good hq).mono ?_
  rintro e w' ⟨p1, p2⟩
  unfold ap2
  by_cases c : askE s id q = 0
  · rw [if_pos c]
    exact ⟨⟨_, _, (p2 c).1⟩, (p2 c).2⟩
  · rw [if_neg c]
    exact ⟨⟨_, _, (p1 c).1⟩, (p1 c).2⟩
theorem drop1 {wr : World} {ks : Nat → Prop} {k : Nat} {name : ByteArray} (h : Has wr ks w g s) (hs : Fine k s) :
    Calls Try.prog 22 #[.pointer (some ⟨g, 0, none⟩), .string name] w fun e w' => (∃ (b : Bool) (E : Int), e = .returned (.tuple #[.bool b, .int .i64 E])) ∧ Has wr ks w' g (ap3 s name) := by
  refine (dropH h hs.good).mono ?_
  rintro e w' ⟨p1, p2⟩
  unfold ap3
  cases c : Str.has (nms s.im) name
  · rw [if_neg (by decide)]
    exact ⟨⟨_, _, (p1 c).1⟩, (p1 c).2⟩
  · rw [if_pos rfl]
    exact ⟨⟨_, _, (p2 c).1⟩, (p2 c).2⟩
end
end Wo
end Go.Proofs.Ythccojfflmfggaa
/- Words for the law WorldKeeps of layer 16 (world): an act's own copy; rows that are turned. -/
namespace Go.Proofs.Ythccojfflmfggaa
open Go.RowKit
namespace Wo
theorem els : Mem.El Try.prog 67 9 (.string ⟨#[]⟩) 1 16 := ⟨Try.underlying67, by kernel_rfl, rfl, by decide⟩
abbrev SRow (w : World) (A : Option Addr) (n c : Nat) (us : List ByteArray) : Prop := Ro.Row w 9 1 A n c (us.map Value.string)
/-- one append onto a new empty row of texts -/
theorem one_appS {w : World} {n c : Nat} {A : Option Addr} {us : List ByteArray} (hs : Mem.Sl w w.heap.size 1 A n (us.map Value.string)) (hn : n ≤ 10000) {N : Nat} (hN : w.heap.size = N) :
    ∃ A1 c1 w1, (Builtin.append_ #[67, 67] 67 #[.slice (some ⟨N, 0, none⟩) 0 0, .slice A n c]).run Try.prog (w.alloc (.cells #[] 9)) = .ok (.slice A1 n c1) w1 ∧
      SRow w1 A1 n c1 us ∧ Below w.heap.size w w1 ∧ ∀ k, Ro.blk A1 = some k → w.heap.size ≤ k := by
  subst hN
  have h0 : Below w.heap.size w (w.alloc (.cells #[] 9)) := (Below.refl _ _).alloc (Nat.le_refl _) _
  have hnew : Ro.Row (w.alloc (.cells #[] 9)) 9 1 (some ⟨w.heap.size, 0, none⟩) 0 0 [] := Ro.Row.new (cs := #[]) rfl (by decide)
  have one : ∀ l : List ByteArray, ∀ u ∈ l.map Value.string, u.oneCell' = true := by intro l u hu; obtain ⟨b, _, rfl⟩ := List.mem_map.1 hu; rfl
  obtain ⟨A1, c1, w1, hr1, hR1, hO1, hA1⟩ := Ro.app (P := Try.prog) (ty := 67) (c2 := c) els hnew (hs.below h0) (one _) (by unfold maxLen; omega) (by omega)
  simp only [Nat.zero_add, List.nil_append] at hr1 hR1
  refine ⟨A1, c1, w1, hr1, hR1, h0.trans (hO1.below (by simp) (fun k hk e => by
    have : w.heap.size = k := by simpa [Ro.blk] using e
    omega)), ?_⟩
  intro k hk
  rcases hA1 with e | e
  · rw [e] at hk
    have : w.heap.size = k := by simpa [Ro.blk] using hk
    omega
  · rw [e] at hk
    have : w.heap.size + 1 = k := by simpa using hk
    omega
section
variable {W w w' : World} {E E' : Nat → Prop} {g k : Nat} {s s' : St} {cs : Array Value}
theorem Inv.grow (h : Inv W w E g s cs) (hb : Below w.heap.size w w') (hE : ∀ k, E' k → E k ∨ (w.heap.size ≤ k ∧ k < w'.heap.size)) : Inv W w' E' g s cs := by
  obtain ⟨ks, T, h1, h2, h3, h4⟩ := h
  refine ⟨fun k => ks k ∨ (w.heap.size ≤ k ∧ k < w'.heap.size), T, h1.trans (hb.mono h1.size), ⟨h2.has.rebase hb (fun k hk => ?_), h2.rv.below hb, fun k hk => .inl (h2.sub k hk)⟩, fun k hk => .inl (h3 k hk), fun k hk => ?_⟩
  · rcases hk with hk | hk
    · exact ⟨by have := h2.lt k hk; have := hb.size; omega, .inl hk⟩
    · exact ⟨hk.2, .inr hk.1⟩
  · rcases hE k hk with c | c
    · exact ⟨.inl (h4 k c).1, (h4 k c).2⟩
    · exact ⟨.inr c, fun d => by have := h2.lt k (h2.sub k d); omega, by have := h1.size; omega⟩
end
/-- what a round of the law holds of its own: m's block, the act's, the two rows' -/
def Own4 (m aB : Nat) (A1 A2 : Option Addr) : Nat → Prop := fun k => k = m ∨ k = aB ∨ Ro.blk A1 = some k ∨ Ro.blk A2 = some k
/-- a round of the law -/
structure Rd (W w : World) (g : Nat) (s : St) (cs cm : Array Value) (m aB : Nat) (as' : Array Value) (A1 : Option Addr) (n1 c1 : Nat) (xs : List Bool) (A2 : Option Addr) (n2 c2 : Nat) (us : List ByteArray) : Prop where
  inv : Inv W w (Own4 m aB A1 A2) g s cs
  mb : Mem.Blk w m 64 cm
  ab : Mem.Blk w aB 69 as'
  r1 : QRow w A1 n1 c1 xs
  r2 : SRow w A2 n2 c2 us
section
variable {W w w' : World} {g k m aB n1 c1 n2 c2 : Nat} {s s' : St} {cs cm cs' as' : Array Value} {A1 A2 : Option Addr} {xs : List Bool} {us : List ByteArray}
theorem Rd.below (h : Rd W w g s cs cm m aB as' A1 n1 c1 xs A2 n2 c2 us) (hb : Below w.heap.size w w') : Rd W w' g s cs cm m aB as' A1 n1 c1 xs A2 n2 c2 us :=
  ⟨h.inv.below hb, h.mb.below hb h.mb.lt, h.ab.below hb h.ab.lt, h.r1.keep fun b hk => hb.block b (h.r1.lt hk), h.r2.keep fun b hk => hb.block b (h.r2.lt hk)⟩
theorem Rd.does (h : Rd W w g s cs cm m aB as' A1 n1 c1 xs A2 n2 c2 us) (hi : Inv W w' (Own4 m aB A1 A2) g s' cs') (hK : Keeps W (Own4 m aB A1 A2) w w') : Rd W w' g s' cs' cm m aB as' A1 n1 c1 xs A2 n2 c2 us :=
  ⟨hi, hK.blk (.inl rfl) h.mb, hK.blk (.inr (.inl rfl)) h.ab, h.r1.only hK.only fun _b hb c => c (.inl (.inr (.inr (.inl hb)))), h.r2.only hK.only fun _b hb c => c (.inl (.inr (.inr (.inr hb))))⟩
theorem ne_blk {t t2 : TypeId} {a b : Array Value} {i j : Nat} (h : Mem.Blk w i t a) (h2 : Mem.Blk w j t2 b) (ht : t ≠ t2) : i ≠ j := by
  rintro rfl
  unfold Mem.Blk at h h2
  rw [h] at h2
  simp only [Option.some.injEq, Obj.cells.injEq] at h2
  exact ht h2.2.1
/-- m is set -/
theorem Rd.setM {rt : Int} {AO AB AI : Option Addr} {nO cO nB cB nI cI : Nat} {a b c d : Value} (h : Rd W w g s #[.int .i64 rt, .slice AO nO cO, .slice AB nB cB, .slice AI nI cI] #[a, b, c, d] m aB as' A1 n1 c1 xs A2 n2 c2 us) :
    Rd W ((((w.setCell ⟨m, 0, none⟩ (.int .i64 rt)).setCell ⟨m, 1, none⟩ (.slice AO nO cO)).setCell ⟨m, 2, none⟩ (.slice AB nB cB)).setCell ⟨m, 3, none⟩ (.slice AI nI cI)) g s #[.int .i64 rt, .slice AO nO cO, .slice AB nB cB, .slice AI nI cI] #[.int .i64 rt, .slice AO nO cO, .slice AB nB cB, .slice AI nI cI] m aB as' A1 n1 c1 xs A2 n2 c2 us := by
  have ho := only4 w m (.int .i64 rt) (.slice AO nO cO) (.slice AB nB cB) (.slice AI nI cI)
  have hne := ne_blk h.mb h.ab (by decide)
  refine ⟨h.inv.put ho (fun k e => .inl e), (((h.mb.set_ 0 _).set_ 1 _).set_ 2 _).set_ 3 _, (ho.block aB h.ab.lt (fun e => hne e.symm)).trans h.ab, h.r1.only ho fun b hb e => ?_, h.r2.only ho fun b hb e => ?_⟩
  · exact h.r1.apartB h.mb (by decide) b hb e
  · exact h.r2.apartB h.mb (by decide) b hb e
/-- an outcome of the act's own is turned -/
theorem Rd.set1 {g1 off j : Nat} {b : Bool} (h : Rd W w g s cs cm m aB as' (some ⟨g1, off, none⟩) n1 c1 xs A2 n2 c2 us) (hj : j < xs.length) : Rd W (w.setCell ⟨g1, off + j, none⟩ (.bool b)) g s cs cm m aB as' (some ⟨g1, off, none⟩) n1 c1 (xs.set j b) A2 n2 c2 us := by
  have ho := Ro.Only.setCell w ⟨g1, off + j, none⟩ (.bool b)
  refine ⟨h.inv.put ho (fun k e => .inr (.inr (.inl (by show some g1 = some k; rw [e])))), (ho.block m h.mb.lt fun e => ?_).trans h.mb, (ho.block aB h.ab.lt fun e => ?_).trans h.ab, ?_, h.r2.only ho fun b hb e => ?_⟩
  · exact h.r1.apartB h.mb (by decide) m (by show some g1 = some m; rw [e]) rfl
  · exact h.r1.apartB h.ab (by decide) aB (by show some g1 = some aB; rw [e]) rfl
  · have := h.r1.set1 j (by simpa using hj) (.bool b)
    show Ro.Row _ _ _ _ _ _ _
    rw [List.map_set]
    exact this
  · exact h.r2.apart h.r1 (by decide) b hb (by show some g1 = some b; rw [e])
/-- a text of the act's own is turned -/
theorem Rd.set2 {g2 off j : Nat} {t : ByteArray} (h : Rd W w g s cs cm m aB as' A1 n1 c1 xs (some ⟨g2, off, none⟩) n2 c2 us) (hj : j < us.length) : Rd W (w.setCell ⟨g2, off + j, none⟩ (.string t)) g s cs cm m aB as' A1 n1 c1 xs (some ⟨g2, off, none⟩) n2 c2 (us.set j t) := by
  have ho := Ro.Only.setCell w ⟨g2, off + j, none⟩ (.string t)
  refine ⟨h.inv.put ho (fun k e => .inr (.inr (.inr (by show some g2 = some k; rw [e])))), (ho.block m h.mb.lt fun e => ?_).trans h.mb, (ho.block aB h.ab.lt fun e => ?_).trans h.ab, h.r1.only ho fun b hb e => ?_, ?_⟩
  · exact h.r2.apartB h.mb (by decide) m (by show some g2 = some m; rw [e]) rfl
  · exact h.r2.apartB h.ab (by decide) aB (by show some g2 = some aB; rw [e]) rfl
  · exact h.r1.apart h.r2 (by decide) b hb (by show some g2 = some b; rw [e])
  · have := h.r2.set1 j (by simpa using hj) (.string t)
    show Ro.Row _ _ _ _ _ _ _
    rw [List.map_set]
    exact this
end
/-- an act is copied, its rows anew -/
theorem copy_act {W w : World} {g m : Nat} {s : St} {cs : Array Value} {d what size round : Int} {id name : ByteArray} {well : List Bool} {used : List ByteArray} {wA uA : Option Addr} {wn wc un uc : Nat} (hI : Inv W w (fun b => b = m) g s cs) (hM : Mem.Blk w m 64 cs)
    (hw : Mem.Sl w w.heap.size 1 wA wn (well.map Value.bool)) (hu : Mem.Sl w w.heap.size 1 uA un (used.map Value.string)) (hwn : wn ≤ 10000) (hun : un ≤ 10000) :
    ∃ A1 c1 wa A2 c2 wb, (Builtin.append_ #[22, 22] 22 #[.slice (some ⟨w.heap.size + 1, 0, none⟩) 0 0, .slice wA wn wc]).run Try.prog ((w.alloc (.cells #[.int .i64 d, .slice wA wn wc, .string id, .int .i64 what, .string name, .int .i64 size, .int .i64 round, .slice uA un uc] 69)).alloc (.cells #[] 4)) = .ok (.slice A1 wn c1) wa ∧
      (Builtin.append_ #[67, 67] 67 #[.slice (some ⟨wa.heap.size, 0, none⟩) 0 0, .slice uA un uc]).run Try.prog ((wa.setCell ⟨w.heap.size, 1, none⟩ (.slice A1 wn c1)).alloc (.cells #[] 9)) = .ok (.slice A2 un c2) wb ∧
      Mem.Blk wa w.heap.size 69 #[.int .i64 d, .slice wA wn wc, .string id, .int .i64 what, .string name, .int .i64 size, .int .i64 round, .slice uA un uc] ∧ Mem.Blk wb w.heap.size 69 #[.int .i64 d, .slice A1 wn c1, .string id, .int .i64 what, .string name, .int .i64 size, .int .i64 round, .slice uA un uc] ∧ Below W.heap.size W ((w.alloc (.cells #[.int .i64 d, .slice wA wn wc, .string id, .int .i64 what, .string name, .int .i64 size, .int .i64 round, .slice uA un uc] 69)).alloc (.cells #[] 4)) ∧ Below W.heap.size W ((wa.setCell ⟨w.heap.size, 1, none⟩ (.slice A1 wn c1)).alloc (.cells #[] 9)) ∧
      Rd W (wb.setCell ⟨w.heap.size, 7, none⟩ (.slice A2 un c2)) g s cs cs m w.heap.size #[.int .i64 d, .slice A1 wn c1, .string id, .int .i64 what, .string name, .int .i64 size, .int .i64 round, .slice A2 un c2] A1 wn c1 well A2 un c2 used := by
  have hz := hI.base.size
  have hmz := hM.lt
  have hX1 : Below w.heap.size w (w.alloc (.cells #[.int .i64 d, .slice wA wn wc, .string id, .int .i64 what, .string name, .int .i64 size, .int .i64 round, .slice uA un uc] 69)) := (Below.refl _ _).alloc (Nat.le_refl _) _
  obtain ⟨A1, c1, wa, hr1, hR1, hb1, hf1⟩ := one_app (c := wc) ((hw.below hX1).more hX1.size) hwn (N := w.heap.size + 1) (by simp)
  have z1 : w.heap.size + 1 ≤ wa.heap.size := by have := hb1.size; simpa using this
  have hBa : Mem.Blk wa w.heap.size 69 #[.int .i64 d, .slice wA wn wc, .string id, .int .i64 what, .string name, .int .i64 size, .int .i64 round, .slice uA un uc] := Mem.Blk.belowS Mem.Blk.new hb1
  have hba : Below w.heap.size w wa := hX1.trans (hb1.mono hX1.size)
  have hX2 : Below w.heap.size w (wa.setCell ⟨w.heap.size, 1, none⟩ (.slice A1 wn c1)) := hba.setCell (Nat.le_refl _) _
  obtain ⟨A2, c2, wb, hr2, hR2, hb2, hf2⟩ := one_appS (c := uc) ((hu.below hX2).more hX2.size) hun (N := wa.heap.size) (by simp)
  have z2 : wa.heap.size ≤ wb.heap.size := by have := hb2.size; simpa using this
  have hBb : Mem.Blk wb w.heap.size 69 #[.int .i64 d, .slice A1 wn c1, .string id, .int .i64 what, .string name, .int .i64 size, .int .i64 round, .slice uA un uc] := Mem.Blk.belowS (hBa.set_ 1 _) hb2
  have hbb : Below w.heap.size w wb := hX2.trans (hb2.mono hX2.size)
  have hX3 : Below w.heap.size w (wb.setCell ⟨w.heap.size, 7, none⟩ (.slice A2 un c2)) := hbb.setCell (Nat.le_refl _) _
  have hO : Ro.Only (fun k => k = w.heap.size) wb (wb.setCell ⟨w.heap.size, 7, none⟩ (.slice A2 un c2)) := Ro.Only.setCell wb ⟨w.heap.size, 7, none⟩ _
  refine ⟨A1, c1, wa, A2, c2, wb, hr1, hr2, hBa, hBb, hI.base.trans ((hX1.alloc hX1.size _).mono hz), hI.base.trans ((hX2.alloc hX2.size _).mono hz), hI.grow hX3 (fun k hk => ?_), hM.belowS hX3, hBb.set_ 7 _, ?_, ?_⟩
  · rcases hk with hk | hk | hk | hk
    · exact .inl hk
    · exact .inr ⟨by omega, by simp; omega⟩
    · have h1 := hf1 k hk
      have h2 := Ro.Row.lt hR1 hk
      exact .inr ⟨by simp at h1; omega, by simp; omega⟩
    · have h1 := hf2 k hk
      have h2 := Ro.Row.lt hR2 hk
      exact .inr ⟨by simp at h1; omega, by simp; omega⟩
  · refine Ro.Row.only (Ro.Row.keep (Ro.Row.only hR1 (Ro.Only.setCell wa ⟨w.heap.size, 1, none⟩ (.slice A1 wn c1)) fun b hb e => ?_) fun b hb => hb2.block b (by have := Ro.Row.lt hR1 hb; simpa using this)) hO fun b hb e => ?_
    · have := hf1 b hb
      have e2 : b = w.heap.size := e
      simp at this
      omega
    · have := hf1 b hb
      simp at this
      omega
  · refine Ro.Row.only hR2 hO fun b hb e => ?_
    have := hf2 b hb
    simp at this
    omega
/-- what was answered, in rows of the law's own -/
structure Fi (W w : World) (g : Nat) (s : St) (cs : Array Value) (m : Nat) (AB : Option Addr) (nB cB : Nat) (xb : List Value) (AI : Option Addr) (nI cI : Nat) (xi : List Value) (AO : Option Addr) (nO cO : Nat) (os : List Bool) : Prop where
  inv : Inv W w (fun k => k = m ∨ Ro.blk AB = some k ∨ Ro.blk AI = some k ∨ Ro.blk AO = some k) g s cs
  mb : Mem.Blk w m 64 cs
  rb : Ro.Row w 48 4 AB nB cB xb
  ri : Ro.Row w 54 3 AI nI cI xi
  ro : QRow w AO nO cO os
section
variable {W w w' : World} {g m nB cB nI cI nO cO : Nat} {s : St} {cs : Array Value} {AB AI AO : Option Addr} {xb xi : List Value} {os : List Bool}
theorem Fi.start {w0 w1 w2 : World} (h : Inv W w0 (fun k => k = m) g s cs) (hm : Mem.Blk w0 m 64 cs) (hb1 : Below w0.heap.size w0 w1) (rb : Ro.Row w1 48 4 AB nB cB xb) (f1 : ∀ b, Ro.blk AB = some b → w0.heap.size ≤ b)
    (hb2 : Below w1.heap.size w1 w2) (ri : Ro.Row w2 54 3 AI nI cI xi) (f2 : ∀ b, Ro.blk AI = some b → w1.heap.size ≤ b) (hb3 : Below w2.heap.size w2 w) (ro : QRow w AO nO cO os) (f3 : ∀ b, Ro.blk AO = some b → w2.heap.size ≤ b) : Fi W w g s cs m AB nB cB xb AI nI cI xi AO nO cO os := by
  have z1 := hb1.size
  have z2 := hb2.size
  have z3 := hb3.size
  have hb : Below w0.heap.size w0 w := (hb1.trans (hb2.mono z1)).trans (hb3.mono (by omega))
  refine ⟨h.grow hb (fun k hk => ?_), hm.below hb hm.lt, (rb.keep fun b hk => hb2.block b (rb.lt hk)).keep fun b hk => hb3.block b (by have := rb.lt hk; omega), ri.keep fun b hk => hb3.block b (ri.lt hk), ro⟩
  rcases hk with hk | hk | hk | hk
  · exact .inl hk
  · exact .inr ⟨f1 k hk, by have := rb.lt hk; omega⟩
  · exact .inr ⟨by have := f2 k hk; omega, by have := ri.lt hk; omega⟩
  · exact .inr ⟨by have := f3 k hk; omega, Ro.Row.lt ro hk⟩
theorem Fi.zeroB {gB off i : Nat} {a b c d : Value} (h : Fi W w g s cs m (some ⟨gB, off, none⟩) nB cB xb AI nI cI xi AO nO cO os) (hi : i < nB) :
    ∃ xb', Fi W ((((w.setCell ⟨gB, off + i * 4, none⟩ a).setCell ⟨gB, off + i * 4 + 1, none⟩ b).setCell ⟨gB, off + i * 4 + 2, none⟩ c).setCell ⟨gB, off + i * 4 + 3, none⟩ d) g s cs m (some ⟨gB, off, none⟩) nB cB xb' AI nI cI xi AO nO cO os := by
  have hl := h.rb.len
  have hO : Ro.Only (fun k => k = gB) w ((((w.setCell ⟨gB, off + i * 4, none⟩ a).setCell ⟨gB, off + i * 4 + 1, none⟩ b).setCell ⟨gB, off + i * 4 + 2, none⟩ c).setCell ⟨gB, off + i * 4 + 3, none⟩ d) :=
    (((Ro.Only.setCell w ⟨gB, off + i * 4, none⟩ a).trans (Ro.Only.setCell _ ⟨gB, off + i * 4 + 1, none⟩ b) (fun _ _ e => e)).trans (Ro.Only.setCell _ ⟨gB, off + i * 4 + 2, none⟩ c) (fun _ _ e => e)).trans (Ro.Only.setCell _ ⟨gB, off + i * 4 + 3, none⟩ d) (fun _ _ e => e)
  have h1 := h.rb.set1 (i * 4) (by omega) a
  have h2 := h1.set1 (i * 4 + 1) (by simp; omega) b
  have h3 := h2.set1 (i * 4 + 2) (by simp; omega) c
  have h4 := h3.set1 (i * 4 + 3) (by simp; omega) d
  simp only [← Nat.add_assoc] at h4
  refine ⟨_, h.inv.put hO (fun k e => .inr (.inl (by show some gB = some k; rw [e]))), (hO.block m h.mb.lt fun e => ?_).trans h.mb, h4, h.ri.only hO fun b hb e => ?_, h.ro.only hO fun b hb e => ?_⟩
  · exact h.rb.apartB h.mb (by decide) m (by show some gB = some m; rw [e]) rfl
  · exact h.ri.apart h.rb (by decide) b hb (by show some gB = some b; rw [e])
  · exact h.ro.apart h.rb (by decide) b hb (by show some gB = some b; rw [e])
theorem Fi.zeroI {gI off i : Nat} {a b c : Value} (h : Fi W w g s cs m AB nB cB xb (some ⟨gI, off, none⟩) nI cI xi AO nO cO os) (hi : i < nI) :
    ∃ xi', Fi W (((w.setCell ⟨gI, off + i * 3, none⟩ a).setCell ⟨gI, off + i * 3 + 1, none⟩ b).setCell ⟨gI, off + i * 3 + 2, none⟩ c) g s cs m AB nB cB xb (some ⟨gI, off, none⟩) nI cI xi' AO nO cO os := by
  have hl := h.ri.len
  have hO : Ro.Only (fun k => k = gI) w (((w.setCell ⟨gI, off + i * 3, none⟩ a).setCell ⟨gI, off + i * 3 + 1, none⟩ b).setCell ⟨gI, off + i * 3 + 2, none⟩ c) :=
    ((Ro.Only.setCell w ⟨gI, off + i * 3, none⟩ a).trans (Ro.Only.setCell _ ⟨gI, off + i * 3 + 1, none⟩ b) (fun _ _ e => e)).trans (Ro.Only.setCell _ ⟨gI, off + i * 3 + 2, none⟩ c) (fun _ _ e => e)
  have h1 := h.ri.set1 (i * 3) (by omega) a
  have h2 := h1.set1 (i * 3 + 1) (by simp; omega) b
  have h3 := h2.set1 (i * 3 + 2) (by simp; omega) c
  simp only [← Nat.add_assoc] at h3
  refine ⟨_, h.inv.put hO (fun k e => .inr (.inr (.inl (by show some gI = some k; rw [e])))), (hO.block m h.mb.lt fun e => ?_).trans h.mb, h.rb.only hO fun b hb e => ?_, h3, h.ro.only hO fun b hb e => ?_⟩
  · exact h.ri.apartB h.mb (by decide) m (by show some gI = some m; rw [e]) rfl
  · exact h.rb.apart h.ri (by decide) b hb (by show some gI = some b; rw [e])
  · exact h.ro.apart h.ri (by decide) b hb (by show some gI = some b; rw [e])
theorem Fi.flip {gO off i : Nat} {x : Bool} (h : Fi W w g s cs m AB nB cB xb AI nI cI xi (some ⟨gO, off, none⟩) nO cO os) (hi : i < os.length) :
    Fi W (w.setCell ⟨gO, off + i, none⟩ (.bool x)) g s cs m AB nB cB xb AI nI cI xi (some ⟨gO, off, none⟩) nO cO (os.set i x) := by
  have hO := Ro.Only.setCell w ⟨gO, off + i, none⟩ (.bool x)
  refine ⟨h.inv.put hO (fun k e => .inr (.inr (.inr (by show some gO = some k; rw [e])))), (hO.block m h.mb.lt fun e => ?_).trans h.mb, h.rb.only hO fun b hb e => ?_, h.ri.only hO fun b hb e => ?_, ?_⟩
  · exact h.ro.apartB h.mb (by decide) m (by show some gO = some m; rw [e]) rfl
  · exact h.rb.apart h.ro (by decide) b hb (by show some gO = some b; rw [e])
  · exact h.ri.apart h.ro (by decide) b hb (by show some gO = some b; rw [e])
  · have := h.ro.set1 i (by simpa using hi) (.bool x)
    show Ro.Row _ _ _ _ _ _ _
    rw [List.map_set]
    exact this
theorem Fi.below (h : Fi W w g s cs m AB nB cB xb AI nI cI xi AO nO cO os) (hb : Below w.heap.size w w') : Fi W w' g s cs m AB nB cB xb AI nI cI xi AO nO cO os :=
  ⟨h.inv.below hb, h.mb.below hb h.mb.lt, h.rb.keep fun b hk => hb.block b (h.rb.lt hk), h.ri.keep fun b hk => hb.block b (h.ri.lt hk), h.ro.keep fun b hk => hb.block b (h.ro.lt hk)⟩
end
end Wo
end Go.Proofs.Ythccojfflmfggaa
