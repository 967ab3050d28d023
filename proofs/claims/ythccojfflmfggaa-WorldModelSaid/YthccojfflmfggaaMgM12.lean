/- The walks of the law of layer 16: names, few acts; an act, whatever it is. -/
import Derived.Test.YthccojfflmfggaaWorRf
import Derived.Deep.DeepCutAuto
namespace Go.Proofs.Ythccojfflmfggaa
open Go.RowKit
namespace Wo
/-- some bool; if it is true, so is Q; nothing is changed -/
def NR (Q : Prop) (W : World) (e : Ending) (w' : World) : Prop := ∃ b, e = .returned (.bool b) ∧ (b = true → Q) ∧ w' = W
set_option maxRecDepth 100000 in
theorem names_c (A : Option Addr) (n c B : Nat) (us : List ByteArray) (w : World) (h : Strs w B A n us) (hu : ∀ u ∈ us, u.size ≤ maxLen) (hn : n ≤ maxLen) :
    Calls Try.prog 39 #[.slice A n c] w (NR (n ≤ 60) w) := by
  unfold maxLen at hu hn
  go_enter Try.func39, Try.ntmps39
  go_wp2_with fail
  go_loop [3] (fun vi => ∃ k : Nat, k ≤ n ∧ vi = .int .i64 k) (fun i => n - (intOf i).toNat)
  case atStart => exact ⟨0, by omega, rfl⟩
  case round =>
    obtain ⟨k, hk, rfl⟩ := hrel
    by_cases hlt : k < n ∧ k < 100
    · obtain ⟨h1, h2⟩ := hlt
      obtain ⟨ad, t, hl, rfl, _, e, hat⟩ := h.at_ h1
      have hz : t.size ≤ 9223372036854775807 := by rw [← e]; exact hu _ (List.getElem_mem hl)
      clear e hl hu
      by_cases hts : 60 < t.size
      · go_wp2_with fail
        go_ret
        exact ⟨false, rfl, fun h => (by cases h), rfl⟩
      · go_wp2_with fail
        go_round
        case rel => exact ⟨k + 1, by omega, by go_num⟩
        case measure => simp [intOf]; omega
    · have hor : k < n ∧ 100 ≤ k ∨ k = n := by omega
      rcases hor with ⟨h1, h2⟩ | rfl
      · go_wp2_with fail
        go_ret
        exact ⟨_, rfl, fun h => (by have := of_decide_eq_true h; omega), rfl⟩
      · go_wp2_with fail
        go_ret
        exact ⟨_, rfl, fun h => (by have := of_decide_eq_true h; omega), rfl⟩
/-- a small act -/
def Small (p : ActV) : Prop := p.welln ≤ 3000 ∧ p.usedn ≤ 60
set_option maxRecDepth 100000 in
set_option maxHeartbeats 4000000 in
theorem few_c (A : Option Addr) (n c : Nat) (ps : List ActV) (w : World) (h : Mem.Sl w w.heap.size 8 A n (ActV.flat ps)) (hok : ∀ p ∈ ps, p.ok ∧ ActV.lies w w.heap.size p) (hn : n ≤ maxLen) :
    Calls Try.prog 23 #[.slice A n c] w (NR (n ≤ 50 ∧ ∀ p ∈ ps, Small p) w) := by
  have hpl : ps.length = n := by have := h.1; rw [ActV.flat_len] at this; omega
  unfold maxLen at hn
  go_enter Try.func23, Try.ntmps23
  go_wp2_with fail
  go_loop [3] (fun vi => ∃ k : Nat, k ≤ n ∧ vi = .int .i64 k ∧ Hid (∀ (j : Nat) (hj : j < ps.length), j < k → Small ps[j])) (fun i => n - (intOf i).toNat)
  case atStart => exact ⟨0, by omega, rfl, fun j hj c => absurd c (by omega)⟩
  case round =>
    obtain ⟨k, hk, rfl, HN⟩ := hrel
    by_cases hlt : k < n ∧ k < 100
    · obtain ⟨h1, h2⟩ := hlt
      obtain ⟨ad, hl, rfl, _, hbk, hat⟩ := ActV.at_ h h1
      have hkk := hok _ (List.getElem_mem hl)
      have hstep : Hid (Small ps[k] → Hid (∀ (j : Nat) (hj : j < ps.length), j < k + 1 → Small ps[j])) := Lib.hid fun hs j hj hjk => by
        rcases Nat.lt_succ_iff_lt_or_eq.1 hjk with h | h
        · exact HN.out j hj h
        · subst h; exact hs
      generalize ps[k] = p at *
      obtain ⟨c0, c1, c2, c3, c4, c5, c6, c7⟩ := hat
      obtain ⟨hpo, hpl2⟩ := hkk
      have hNm := Lib.hid (names_c p.usedA p.usedn p.usedc w.heap.size p.used w hpl2.used hpo.used.2.2.2 (by have := hpo.used.1; have := hpo.used.2.1; omega))
      have b1 := hpo.id
      have b2 := hpo.name
      have b3 := hpo.well
      have b4 := hpo.used
      have b5 := hpo.size
      have b6 := hpo.round
      have b7 := hpo.what
      have b8 := hpo.d
      have b3' : p.welln ≤ 9223372036854775807 := by have := b3.1; have := b3.2.1; unfold maxLen at this; omega
      unfold maxLen at b1 b2
      unfold ActV.I64 at b5 b6 b7 b8
      unfold Small at hstep
      clear b3 b4 hpo hpl2 hok h hpl HN
      obtain ⟨d, well, wA, wn, wc, id, what, name, size, round, used, uA, un, uc⟩ := p
      dsimp only at *
      by_cases g1 : 60 < id.size
      · go_wp2_with fail
        go_ret
        exact ⟨false, rfl, fun h => (by cases h), rfl⟩
      by_cases g2 : 60 < name.size
      · go_wp2_with fail
        go_ret
        exact ⟨false, rfl, fun h => (by cases h), rfl⟩
      by_cases g3 : 3000 < wn
      · go_wp2_with fail
        go_ret
        exact ⟨false, rfl, fun h => (by cases h), rfl⟩
      go_wp2_with fail
      refine hNm.out.mono ?_
      rintro e w2 ⟨b, rfl, hb, rfl⟩
      cases b with
      | false =>
        go_wp2_with fail
        go_ret
        exact ⟨false, rfl, fun h => (by cases h), rfl⟩
      | true =>
        have hu := hb rfl
        clear hb hNm
        by_cases g4 : size < 0
        · go_wp2_with fail
          go_ret
          exact ⟨false, rfl, fun h => (by cases h), rfl⟩
        by_cases g5 : round < 0
        · go_wp2_with fail
          go_ret
          exact ⟨false, rfl, fun h => (by cases h), rfl⟩
        have hnx := hstep.out ⟨by omega, hu⟩
        clear hstep
        go_wp2_with fail
        go_round
        case rel => exact ⟨k + 1, by omega, by go_num, hnx⟩
        case measure => simp [intOf]; omega
    · have hor : k < n ∧ 100 ≤ k ∨ k = n := by omega
      rcases hor with ⟨h1, h2⟩ | rfl
      · clear hok h
        go_wp2_with fail
        go_ret
        exact ⟨_, rfl, fun h => (by have := of_decide_eq_true h; omega), rfl⟩
      · have hall : Hid (∀ p ∈ ps, Small p) := Lib.hid fun p hp => by
          obtain ⟨j, hj, rfl⟩ := List.getElem_of_mem hp
          exact HN.out j hj (by omega)
        clear hok h HN
        go_wp2_with fail
        go_ret
        exact ⟨_, rfl, fun h => ⟨by have := of_decide_eq_true h; omega, hall.out⟩, rfl⟩
theorem does_c {w : World} {ks T : Nat → Prop} {g : Nat} {s : St} {v : Value} {k : Nat} {p : ActV} (h : Two w ks T g s v) (hs : Fine k s) (hk : k ≤ 999) (hp : p.ok) (hl : ActV.lies w w.heap.size p) (hw : p.welln ≤ 5000) (hu : p.usedn ≤ 5000) (hwk : ∀ ad, p.usedA = some ad → 0 < p.usedn → ks ad.block) :
    Calls Try.prog 24 #[.pointer (some ⟨g, 0, none⟩), v, .agg p.arr] w fun e w' => ∃ v', e = .returned (.tuple #[v', .bool true]) ∧ Fin w ks T g (actS s (acOf p)) v' w' := by
  by_cases d0 : p.d = 0
  · exact does_0 h hs hk hp hl hw hu hwk d0
  by_cases d1 : p.d = 1
  · exact does_1 h hs hk hp hl hw hu hwk d1
  by_cases d2 : p.d = 2
  · exact does_2 h hs hk hp hl hw hu hwk d2
  by_cases d3 : p.d = 3
  · exact does_3 h hs hk hp hl hw hu hwk d3
  by_cases d4 : p.d = 4
  · exact does_4 h hs hk hp hl hw hu hwk d4
  exact does_5 h hs hk hp hl hw hu hwk ⟨d0, d1, d2, d3, d4⟩
end Wo
end Go.Proofs.Ythccojfflmfggaa
/- Words for the laws of layer 16 (world): a runtime and the document's value of it, among blocks of the law's own. -/
namespace Go.Proofs.Ythccojfflmfggaa
open Go.RowKit
open worldLife (has_self has_turn)
namespace Wo
section
variable {w w' : World} {ks T : Nat → Prop} {g : Nat} {s : St} {v : Value}
theorem Two.below (h : Two w ks T g s v) (hb : Below w.heap.size w w') : Two w' ks T g s v := ⟨has_self (h.has.below hb), h.rv.below hb, h.sub⟩
theorem Two.add (h : Two w ks T g s v) (o : Obj) : Two (w.alloc o) (fun k => ks k ∨ k = w.heap.size) T g s v :=
  ⟨h.has.rebase ((Below.refl _ _).alloc (Nat.le_refl _) o) (fun k hk => by
    rcases hk with hk | hk
    · exact ⟨by have := h.lt k hk; simp; omega, .inl hk⟩
    · exact ⟨by simp; omega, .inr (by omega)⟩), h.rv.below ((Below.refl _ _).alloc (Nat.le_refl _) o), fun k hk => .inl (h.sub k hk)⟩
theorem Two.put {Z : Nat → Prop} (h : Two w ks T g s v) (ho : Ro.Only Z w w') (hk : ∀ k, Z k → ks k) (hT : ∀ k, T k → ¬ Z k) : Two w' ks T g s v :=
  ⟨has_turn h.has (ho.mono fun k _ c => hk k c) (fun k c => ⟨by have := h.lt k c; have := ho.size; omega, .inl c⟩), h.rv.own ho fun k _ ht => hT k ht, h.sub⟩
end
/-- a runtime, and the document's value of it; what E names is the law's own -/
def Inv (W w : World) (E : Nat → Prop) (g : Nat) (s : St) (cs : Array Value) : Prop :=
  ∃ ks T, Below W.heap.size W w ∧ Two w ks T g s (.agg cs) ∧ (∀ k, k < W.heap.size → ks k) ∧ ∀ k, E k → ks k ∧ ¬ T k ∧ W.heap.size ≤ k
section
variable {W w w' : World} {E E' : Nat → Prop} {g k : Nat} {s s' : St} {cs : Array Value}
theorem Inv.base (h : Inv W w E g s cs) : Below W.heap.size W w := by obtain ⟨_, _, h, _⟩ := h; exact h
theorem Inv.shape (h : Inv W w E g s cs) : ∃ (rt : Int) (AO : Option Addr) (nO cO : Nat) (AB : Option Addr) (nB cB : Nat) (AI : Option Addr) (nI cI : Nat), cs = #[.int .i64 rt, .slice AO nO cO, .slice AB nB cB, .slice AI nI cI] := by
  obtain ⟨_, _, _, ⟨_, hv, _⟩, _⟩ := h
  obtain ⟨rt, AO, nO, cO, AB, nB, cB, AI, nI, cI, e⟩ := hv.shape
  exact ⟨rt, AO, nO, cO, AB, nB, cB, AI, nI, cI, by simpa using e⟩
theorem Inv.rows {rt : Int} {AO AB AI : Option Addr} {nO cO nB cB nI cI : Nat} (h : Inv W w E g s #[.int .i64 rt, .slice AO nO cO, .slice AB nB cB, .slice AI nI cI]) :
    (rt = s.rt ∧ nO = s.outs.length ∧ nB = s.bx.length ∧ nI = s.im.length) ∧ CRow w AB nB cB s.bx := by
  obtain ⟨_, _, _, ⟨_, hv, _⟩, _⟩ := h
  exact ⟨hv.parts.1, hv.parts.2.2.1⟩
theorem Inv.below (h : Inv W w E g s cs) (hb : Below w.heap.size w w') : Inv W w' E g s cs := by
  obtain ⟨ks, T, h1, h2, h3, h4⟩ := h
  exact ⟨ks, T, h1.trans (hb.mono h1.size), h2.below hb, h3, h4⟩
theorem Inv.less (h : Inv W w E g s cs) (hE : ∀ k, E' k → E k) : Inv W w E' g s cs := by
  obtain ⟨ks, T, h1, h2, h3, h4⟩ := h
  exact ⟨ks, T, h1, h2, h3, fun k hk => h4 k (hE k hk)⟩
theorem Inv.add (h : Inv W w E g s cs) (o : Obj) : Inv W (w.alloc o) (fun k => E k ∨ k = w.heap.size) g s cs := by
  obtain ⟨ks, T, h1, h2, h3, h4⟩ := h
  refine ⟨_, T, h1.alloc h1.size _, h2.add o, fun k hk => .inl (h3 k hk), fun k hk => ?_⟩
  rcases hk with hk | hk
  · exact ⟨.inl (h4 k hk).1, (h4 k hk).2⟩
  · exact ⟨.inr hk, fun c => by have := h2.lt k (h2.sub k c); omega, by have := h1.size; omega⟩
theorem Inv.put {Z : Nat → Prop} (h : Inv W w E g s cs) (ho : Ro.Only Z w w') (hZ : ∀ k, Z k → E k) : Inv W w' E g s cs := by
  obtain ⟨ks, T, h1, h2, h3, h4⟩ := h
  exact ⟨ks, T, h1.trans (ho.below h1.size fun k hk c => by have := (h4 k (hZ k c)).2.2; omega), h2.put ho (fun k c => (h4 k (hZ k c)).1) (fun k ht c => (h4 k (hZ k c)).2.1 ht), h3, h4⟩
theorem Inv.lt (h : Inv W w E g s cs) (hk : E k) : W.heap.size ≤ k ∧ k < w.heap.size := by
  obtain ⟨ks, T, h1, h2, h3, h4⟩ := h
  exact ⟨(h4 k hk).2.2, h2.lt k (h4 k hk).1⟩
/-- the runtime at work, alone -/
theorem Inv.has (h : Inv W w E g s cs) : Has w (fun k => E k ∨ k < W.heap.size) w g s := by
  obtain ⟨ks, T, h1, h2, h3, h4⟩ := h
  refine h2.has.rebase (Below.refl _ _) (fun k hk => ?_)
  rcases hk with hk | hk
  · exact ⟨h2.lt k (h4 k hk).1, .inl (h4 k hk).1⟩
  · exact ⟨by have := h1.size; omega, .inl (h3 k hk)⟩
/-- what is kept by an act -/
structure Keeps (W : World) (E : Nat → Prop) (w w' : World) : Prop where
  only : Ro.Only (fun k => ¬ (E k ∨ k < W.heap.size)) w w'
theorem Keeps.base (h : Keeps W E w w') (hb : Below W.heap.size W w) : Below W.heap.size W w' := hb.trans (h.only.below hb.size fun k hk c => c (.inr hk))
theorem Keeps.blk {t : TypeId} {b : Nat} {bs : Array Value} (h : Keeps W E w w') (hk : E b) (hM : Mem.Blk w b t bs) : Mem.Blk w' b t bs := (h.only.block b hM.lt (fun c => c (.inl hk))).trans hM
theorem Keeps.refl : Keeps W E w w := ⟨Ro.Only.refl _ _⟩
theorem Keeps.drew (h : Keeps W E w w') : Keeps W E w w'.drew := ⟨h.only.drew⟩
theorem Keeps.undrew (h : Keeps W E w.drew w') : Keeps W E w w' := ⟨h.only.undrew⟩
theorem Keeps.alloc (h : Keeps W E w w') (o : Obj) : Keeps W E w (w'.alloc o) := ⟨h.only.alloc o⟩
theorem Keeps.size (h : Keeps W E w w') : w.heap.size ≤ w'.heap.size := h.only.size
theorem Keeps.trans {w1 : World} (h : Keeps W E w w1) (h2 : Keeps W E w1 w') : Keeps W E w w' := ⟨Ro.Only.trans h.only h2.only (fun _ _ c => c)⟩
theorem Keeps.of_below (h : Below w.heap.size w w') : Keeps W E w w' := ⟨Ro.Only.of_below h⟩
theorem Keeps.mono {E' : Nat → Prop} (h : Keeps W E w w') (hE : ∀ k, k < w.heap.size → E' k → E k) : Keeps W E' w w' := ⟨Ro.Only.mono h.only fun k hk c d => c (d.imp (hE k hk) id)⟩
/-- a store into a block that is neither kept nor the caller's -/
theorem Keeps.put {Z : Nat → Prop} {w1 : World} (h : Keeps W E w w1) (ho : Ro.Only Z w1 w') (hZ : ∀ k, k < w.heap.size → Z k → ¬ (E k ∨ k < W.heap.size)) : Keeps W E w w' := ⟨Ro.Only.trans h.only ho hZ⟩
theorem Inv.does {p : ActV} {K : Nat} (h : Inv W w E g s cs) (hs : Fine K s) (hk : K ≤ 999) (hp : p.ok) (hl : ActV.lies w w.heap.size p) (hw : p.welln ≤ 5000) (hu : p.usedn ≤ 5000) (hwk : ∀ ad, p.usedA = some ad → 0 < p.usedn → E ad.block ∨ ad.block < W.heap.size) :
    Calls Try.prog 24 #[.pointer (some ⟨g, 0, none⟩), .agg cs, .agg p.arr] w fun e w' => ∃ cs', e = .returned (.tuple #[.agg cs', .bool true]) ∧ Inv W w' E g (actS s (acOf p)) cs' ∧ Keeps W E w w' := by
  obtain ⟨ks, T, h1, h2, h3, h4⟩ := h
  refine (does_c h2 hs hk hp hl hw hu (fun ad e hn => (hwk ad e hn).elim (fun c => (h4 _ c).1) (h3 _))).mono ?_
  rintro e w' ⟨v', rfl, ks', T', t2, hks, hT, ho⟩
  obtain ⟨rt, AO, nO, cO, AB, nB, cB, AI, nI, cI, rfl⟩ := t2.rv.shape
  refine ⟨_, rfl, ⟨ks', T', h1.trans (ho.below h1.size fun k hk c => c (h3 k hk)), t2, fun k hk => hks k (h3 k hk), fun k hk => ⟨hks k (h4 k hk).1, fun c => ?_, (h4 k hk).2.2⟩⟩, ⟨ho.mono fun k _ c d => c ?_⟩⟩
  · rcases hT k c with c | c
    · exact (h4 k hk).2.1 c
    · have := h2.lt k (h4 k hk).1
      omega
  · rcases d with d | d
    · exact (h4 k d).1
    · exact h3 k d
theorem Inv.same {K : Nat} (h : Inv W w E g s cs) (hs : Fine K s) (hk : K ≤ 1000) :
    Calls Try.prog 26 #[.pointer (some ⟨g, 0, none⟩), .agg cs] w fun e w' => e = .returned (.bool true) ∧ Below w.heap.size w w' := by
  obtain ⟨ks, T, h1, h2, h3, h4⟩ := h
  exact same_c h2.has hs hk h2.rv
/-- a new runtime, and the document's -/
theorem Inv.start {S : Nat → Prop} {rt : Int} (hb : Below W.heap.size W w) (ha : At w g ⟨rt, [], [], []⟩ S) (hS : ∀ k, S k → W.heap.size ≤ k) : Inv W w (fun _ => False) g ⟨rt, [], [], []⟩ #[.int .i64 rt, .slice none 0 0, .slice none 0 0, .slice none 0 0] := by
  refine ⟨fun k => k < W.heap.size, fun _ => False, hb, ⟨has_self (Has.start hb (fun k hk => hk) ha hS), ⟨none, none, none, 0, 0, 0, rfl, Ro.Row.nil, Ro.Row.nil, Ro.Row.nil, fun k hk => (by cases hk), fun k hk => (by cases hk), fun k hk => (by cases hk)⟩, fun k c => c.elim⟩, fun k hk => hk, fun k c => c.elim⟩
end
end Wo
end Go.Proofs.Ythccojfflmfggaa
/- WorldModel: the walk. -/
namespace Go.Proofs.Ythccojfflmfggaa.worldModel
open Go.RowKit Wo
set_option maxRecDepth 100000 in
set_option maxHeartbeats 8000000 in
theorem core (A : Option Addr) (n c : Nat) (ps : List ActV) (r : Int) (w : World) (h : Mem.Sl w w.heap.size 8 A n (ActV.flat ps)) (hok : ∀ p ∈ ps, p.ok ∧ ActV.lies w w.heap.size p) (hn : n ≤ maxLen) :
    Calls Try.prog 8 #[.slice A n c, .int .i64 r] w fun e w' => e = .returned (.bool true) ∧ Below w.heap.size w w' := by
  go_enter Try.func8, Try.ntmps8
  go_wp2_with fail
  refine (wawake_c _).mono ?_
  rintro e w1 ⟨rfl, hb1⟩
  go_wp2_with fail
  refine (few_c A n c ps w1 ((h.below hb1).more hb1.size) (fun p hp => ⟨(hok p hp).1, ((hok p hp).2.below hb1).more hb1.size⟩) hn).mono ?_
  rintro e wx ⟨b, rfl, hfew, rfl⟩
  cases b with
  | false =>
    clear hfew
    go_wp2_with fail
    refine (wawake_c _).mono ?_
    rintro e w2 ⟨rfl, hb2⟩
    go_wp2_with fail
    go_ret
    exact ⟨rfl, hb1.trans (hb2.mono hb1.size)⟩
  | true =>
    obtain ⟨hn50, hsm⟩ := hfew rfl
    clear hfew
    go_wp2_with fail
    refine (wnew_c r _).mono ?_
    rintro e w2 ⟨rfl, hat, hb2⟩
    have hbb := hb1.trans (hb2.mono hb1.size)
    have I0 := Lib.hid (Inv.start hbb hat (fun k hk => by have := hb1.size; omega))
    generalize wx.heap.size = g at *
    clear hat hb1 hb2
    go_wp2_with fail
    have I1 := Lib.hid (I0.out.add (.cells #[.int .i64 r, .slice none 0 0, .slice none 0 0, .slice none 0 0] 64))
    have M1 := Lib.hid (Mem.Blk.new (w := w2) (t := 64) (cs := #[.int .i64 r, .slice none 0 0, .slice none 0 0, .slice none 0 0]))
    have HS := Lib.hid h
    have HO := Lib.hid hok
    have HM := Lib.hid hsm
    clear h hok hsm I0 hbb
    generalize w2.alloc (.cells #[.int .i64 r, .slice none 0 0, .slice none 0 0, .slice none 0 0] 64) = w3 at *
    generalize w2.heap.size = m at *
    go_loopw [7] (fun vi wr => ∃ (k : Nat) (s : St) (cs : Array Value), k ≤ n ∧ vi = .int .i64 k ∧ Fine k s ∧ Inv w wr (fun b => b = m) g s cs ∧ Mem.Blk wr m 64 cs) (fun i _ => n - (intOf i).toNat)
    case atStart => exact ⟨0, ⟨r, [], [], []⟩, _, by omega, rfl, Fine.nil r, I1.out.less (fun k hk => .inr hk), M1.out⟩
    case round =>
      obtain ⟨k, s, cs, hk, rfl, hs, hI, hM⟩ := hrel
      clear I1 M1
      by_cases hlt : k < n
      · obtain ⟨rt, AO, nO, cO, AB, nB, cB, AI, nI, cI, rfl⟩ := hI.shape
        have hbr := hI.base
        obtain ⟨ad, hl, rfl, hadb, hbk, hat0⟩ := ActV.at_ HS.out hlt
        have hat := hat0.below hbr hbk
        have hpk := HO.out _ (List.getElem_mem hl)
        have hsk := HM.out _ (List.getElem_mem hl)
        generalize ps[k] = p at *
        have hdoes := Lib.hid (fun (X : World) (E : Nat → Prop) (hX : Inv w X E g s #[.int .i64 rt, .slice AO nO cO, .slice AB nB cB, .slice AI nI cI]) => Inv.does (p := p) hX hs (by omega) hpk.1 ((hpk.2.below hX.base).more hX.base.size) (by have := hsk.1; omega) (by have := hsk.2; omega) (fun ad e hn => .inr (by
          obtain ⟨ad', e', hb', _⟩ := hpk.2.used.2 hn
          rw [e] at e'
          cases e'
          exact hb')))
        have hs' := hs.act (by omega) (acOf p)
        have hid : (acOf p).id = p.id := rfl
        generalize actS s (acOf p) = s' at *
        obtain ⟨d, well, wA, wn, wc, id, what, name, size, round, used, uA, un, uc⟩ := p
        have hdoes : Hid (∀ (X : World) (E : Nat → Prop), Inv w X E g s #[.int .i64 rt, .slice AO nO cO, .slice AB nB cB, .slice AI nI cI] → Calls Try.prog 24 #[.pointer (some ⟨g, 0, none⟩), .agg #[.int .i64 rt, .slice AO nO cO, .slice AB nB cB, .slice AI nI cI], .agg #[.int .i64 d, .slice wA wn wc, .string id, .int .i64 what, .string name, .int .i64 size, .int .i64 round, .slice uA un uc]] X fun e w' => ∃ cs', e = .returned (.tuple #[.agg cs', .bool true]) ∧ Inv w w' E g s' cs' ∧ Keeps w E X w') := hdoes
        obtain ⟨c0, c1, c2, c3, c4, c5, c6, c7⟩ := hat
        dsimp only at c0 c1 c2 c3 c4 c5 c6 c7 hid
        have HI := Lib.hid hI
        have HB := Lib.hid hM
        have HF := Lib.hid hs'
        have HR := Lib.hid hbr
        have HC := Lib.hid (show ∀ X, Below w.heap.size w X → ActV.At X (ad.add (k * 8)) ⟨d, well, wA, wn, wc, id, what, name, size, round, used, uA, un, uc⟩ from fun X hX => hat0.below hX hbk)
        clear hI hM hs' hs hpk hsk HO HM hbr hat0
        go_upto_region 10 with fail
        go_upto_region 10 with fail
        go_cut [8, 9] (fun sx sa wy => ∃ bx cs', sx = .pointer (some ⟨bx, 0, none⟩) ∧ sa = .bool true ∧ Inv w wy (fun b => b = m) g s' cs' ∧ Mem.Blk wy m 64 #[.int .i64 rt, .slice AO nO cO, .slice AB nB cB, .slice AI nI cI] ∧ Mem.Blk wy bx 64 cs' ∧ bx ≠ m)
        case first =>
          have hm0 := (HI.out.lt (k := m) rfl).2
          refine Reg.start (S := fun w' => Keeps w (fun b => b = m) wr w') (by kernel_rfl) ?_
          refine Reg.takes (n := 7) (by kernel_rfl) (fun _ _ d _ _ h => by cases d <;> exact h) Keeps.refl.drew [0, 1, 2, 3, 4, 5] _ _ (by kernel_rfl) ?_
          iterate 6 (refine Reg.det_step rfl (fun K' hK' => ?_); go_simp; (first | (refine hK' _ ?_; clear hK' K') | (apply Exists.intro; refine ⟨fun wx hwx => ?_, hK' _ ?_⟩; (first | rfl | (obtain ⟨k0, k1, k2, k3, kf⟩ := blk4 (hwx.blk rfl HB.out); obtain ⟨k10, k11, k12, k13, k14, k15, k16, k17⟩ := HC.out wx (hwx.base HR.out); dsimp only at k10 k11 k12 k13 k14 k15 k16 k17; go_simp; first | done | rfl)); clear hK' K')))
          refine Reg.det_nil ?_
          refine Reg.two (i := 6) (j := 10) (n := 6) (by kernel_rfl) ?_ ?_
          · refine Reg.call rfl rfl (by go_simp; exact ⟨rfl, rfl⟩) ?_
            refine (hdoes.out wr.drew _ (HI.out.below (Below.refl _ _).drew)).mono ?_
            rintro e w1 ⟨cs', rfl, h1, h2⟩
            obtain ⟨rt1, AO1, nO1, cO1, AB1, nB1, cB1, AI1, nI1, cI1, rfl⟩ := h1.shape
            have S1 : Keeps w (fun b => b = m) wr w1 := h2.undrew
            have Z1 := S1.size
            have HX := Lib.hid h1
            clear h1 h2 hdoes
            refine ⟨_, rfl, S1, ?_⟩
            refine Reg.takes (n := 3) (by kernel_rfl) (fun _ _ d _ _ h => by cases d <;> exact h) S1 [7, 8, 9] _ _ (by kernel_rfl) ?_
            iterate 3 (refine Reg.det_step rfl (fun K' hK' => ?_); go_simp; (first | (refine hK' _ ?_; clear hK' K') | (apply Exists.intro; refine ⟨fun wx hwx => ?_, hK' _ ?_⟩; (first | rfl | (go_simp; first | done | rfl)); clear hK' K')))
            refine Reg.det_nil ?_
            refine Reg.one (i := 10) (n := 2) (by kernel_rfl) ?_
            refine Reg.val rfl rfl (v := .pointer (some ⟨w1.heap.size, 0, none⟩)) (w' := w1.alloc (.cells #[.int .i64 0, .slice none 0 0, .slice none 0 0, .slice none 0 0] 64)) (by go_simp) (S1.alloc _) ?_
            refine Reg.one (i := 11) (n := 1) (by kernel_rfl) ?_
            refine Reg.skip rfl rfl (w' := w1.alloc (.cells #[.int .i64 rt1, .slice AO1 nO1 cO1, .slice AB1 nB1 cB1, .slice AI1 nI1 cI1] 64)) (by go_simp) (S1.alloc _) ?_
            refine Reg.takes (n := 0) (by kernel_rfl) (fun _ _ d _ _ h => by cases d <;> exact h) (S1.alloc _) [12] _ _ (by kernel_rfl) ?_
            iterate 1 (refine Reg.det_step rfl (fun K' hK' => ?_); go_simp; (first | (refine hK' _ ?_; clear hK' K') | (apply Exists.intro; refine ⟨fun wx hwx => ?_, hK' _ ?_⟩; (first | rfl | (go_simp; first | done | rfl)); clear hK' K')))
            refine Reg.det_nil ?_
            refine wpAnyH_done (by kernel_rfl) ?_ _
            go_wp2_with fail
            go_meet
            exact ⟨_, _, rfl, rfl, HX.out.below ((Below.refl _ _).alloc (Nat.le_refl _) _), (S1.blk rfl HB.out).alloc, Mem.Blk.new, by omega⟩
          · refine Reg.val rfl rfl (v := .pointer (some ⟨wr.heap.size, 0, none⟩)) (w' := (wr.drew.alloc (.cells #[.int .i64 0, .slice none 0 0, .slice none 0 0, .slice none 0 0] 64))) (by go_simp) (Keeps.refl.drew.alloc _) ?_
            refine Reg.one (i := 6) (n := 5) (by kernel_rfl) ?_
            refine Reg.call rfl rfl (by go_simp; exact ⟨rfl, rfl⟩) ?_
            refine (hdoes.out (wr.drew.alloc (.cells #[.int .i64 0, .slice none 0 0, .slice none 0 0, .slice none 0 0] 64)) _ ((HI.out.below (Below.refl _ _).drew).add (.cells #[.int .i64 0, .slice none 0 0, .slice none 0 0, .slice none 0 0] 64))).mono ?_
            rintro e w1 ⟨cs', rfl, h1, h2⟩
            obtain ⟨rt1, AO1, nO1, cO1, AB1, nB1, cB1, AI1, nI1, cI1, rfl⟩ := h1.shape
            have N2 : Mem.Blk w1 wr.heap.size 64 #[.int .i64 0, .slice none 0 0, .slice none 0 0, .slice none 0 0] := h2.blk (.inr rfl) (Mem.Blk.new (w := wr.drew))
            obtain ⟨a0, a1, a2, a3, af⟩ := blk4 N2
            have S1 : Keeps w (fun b => b = m) wr w1 := (Keeps.refl.drew.alloc (.cells #[.int .i64 0, .slice none 0 0, .slice none 0 0, .slice none 0 0] 64)).trans (h2.mono fun k _ e => .inl e)
            have S3 : Keeps w (fun b => b = m) wr ((((w1.setCell ⟨wr.heap.size, 0, none⟩ (.int .i64 rt1)).setCell ⟨wr.heap.size, 1, none⟩ (.slice AO1 nO1 cO1)).setCell ⟨wr.heap.size, 2, none⟩ (.slice AB1 nB1 cB1)).setCell ⟨wr.heap.size, 3, none⟩ (.slice AI1 nI1 cI1)) := S1.put (only4 w1 wr.heap.size _ _ _ _) (fun k hk e => by omega)
            have HM3 : Hid (Mem.Blk ((((w1.setCell ⟨wr.heap.size, 0, none⟩ (.int .i64 rt1)).setCell ⟨wr.heap.size, 1, none⟩ (.slice AO1 nO1 cO1)).setCell ⟨wr.heap.size, 2, none⟩ (.slice AB1 nB1 cB1)).setCell ⟨wr.heap.size, 3, none⟩ (.slice AI1 nI1 cI1)) m 64 #[.int .i64 rt, .slice AO nO cO, .slice AB nB cB, .slice AI nI cI]) := Lib.hid (S3.blk rfl HB.out)
            have HX := Lib.hid ((h1.put (only4 w1 wr.heap.size (.int .i64 rt1) (.slice AO1 nO1 cO1) (.slice AB1 nB1 cB1) (.slice AI1 nI1 cI1)) (fun k e => .inr e)).less (E' := fun b => b = m) (fun k e => .inl e))
            have NX : Hid (Mem.Blk ((((w1.setCell ⟨wr.heap.size, 0, none⟩ (.int .i64 rt1)).setCell ⟨wr.heap.size, 1, none⟩ (.slice AO1 nO1 cO1)).setCell ⟨wr.heap.size, 2, none⟩ (.slice AB1 nB1 cB1)).setCell ⟨wr.heap.size, 3, none⟩ (.slice AI1 nI1 cI1)) wr.heap.size 64 #[.int .i64 rt1, .slice AO1 nO1 cO1, .slice AB1 nB1 cB1, .slice AI1 nI1 cI1]) := Lib.hid ((((N2.set_ 0 (.int .i64 rt1)).set_ 1 (.slice AO1 nO1 cO1)).set_ 2 (.slice AB1 nB1 cB1)).set_ 3 (.slice AI1 nI1 cI1))
            clear h1 h2 hdoes
            refine ⟨_, rfl, S1, ?_⟩
            refine Reg.takes (n := 2) (by kernel_rfl) (fun _ _ d _ _ h => by cases d <;> exact h) S1 [7, 8, 9] _ _ (by kernel_rfl) ?_
            iterate 3 (refine Reg.det_step rfl (fun K' hK' => ?_); go_simp; (first | (refine hK' _ ?_; clear hK' K') | (apply Exists.intro; refine ⟨fun wx hwx => ?_, hK' _ ?_⟩; (first | rfl | (go_simp; first | done | rfl)); clear hK' K')))
            refine Reg.det_nil ?_
            refine Reg.one (i := 11) (n := 1) (by kernel_rfl) ?_
            refine Reg.skip rfl rfl (w' := ((((w1.setCell ⟨wr.heap.size, 0, none⟩ (.int .i64 rt1)).setCell ⟨wr.heap.size, 1, none⟩ (.slice AO1 nO1 cO1)).setCell ⟨wr.heap.size, 2, none⟩ (.slice AB1 nB1 cB1)).setCell ⟨wr.heap.size, 3, none⟩ (.slice AI1 nI1 cI1))) (by go_simp) S3 ?_
            refine Reg.takes (n := 0) (by kernel_rfl) (fun _ _ d _ _ h => by cases d <;> exact h) S3 [12] _ _ (by kernel_rfl) ?_
            iterate 1 (refine Reg.det_step rfl (fun K' hK' => ?_); go_simp; (first | (refine hK' _ ?_; clear hK' K') | (apply Exists.intro; refine ⟨fun wx hwx => ?_, hK' _ ?_⟩; (first | rfl | (go_simp; first | done | rfl)); clear hK' K')))
            refine Reg.det_nil ?_
            refine wpAnyH_done (by kernel_rfl) ?_ _
            go_wp2_with fail
            go_meet
            exact ⟨_, _, rfl, rfl, HX.out, HM3.out, NX.out, by omega⟩
        case rest =>
          obtain ⟨bx, cs', rfl, rfl, hI2, hMm, hXb, hne⟩ := hcut
          obtain ⟨rt1, AO1, nO1, cO1, AB1, nB1, cB1, AI1, nI1, cI1, rfl⟩ := hI2.shape
          obtain ⟨x0, x1, x2, x3, xf⟩ := blk4 hXb
          obtain ⟨y0, y1, y2, y3, yf⟩ := blk4 hMm
          have ho : Ro.Only (fun b => b = m) wc ((((wc.setCell ⟨m, 0, none⟩ (.int .i64 rt1)).setCell ⟨m, 1, none⟩ (.slice AO1 nO1 cO1)).setCell ⟨m, 2, none⟩ (.slice AB1 nB1 cB1)).setCell ⟨m, 3, none⟩ (.slice AI1 nI1 cI1)) := only4 wc m _ _ _ _
          have hI3 := hI2.put ho (fun k e => e)
          have hM3 : Mem.Blk ((((wc.setCell ⟨m, 0, none⟩ (.int .i64 rt1)).setCell ⟨m, 1, none⟩ (.slice AO1 nO1 cO1)).setCell ⟨m, 2, none⟩ (.slice AB1 nB1 cB1)).setCell ⟨m, 3, none⟩ (.slice AI1 nI1 cI1)) m 64 #[.int .i64 rt1, .slice AO1 nO1 cO1, .slice AB1 nB1 cB1, .slice AI1 nI1 cI1] := (((hMm.set_ 0 (.int .i64 rt1)).set_ 1 (.slice AO1 nO1 cO1)).set_ 2 (.slice AB1 nB1 cB1)).set_ 3 (.slice AI1 nI1 cI1)
          obtain ⟨d0, d1, d2, d3, d4, d5, d6, d7⟩ := HC.out _ hI3.base
          dsimp only at d0 d1 d2 d3 d4 d5 d6 d7
          have HI3 := Lib.hid hI3
          have HM3 := Lib.hid hM3
          have hlen := Lib.hid hI3.rows.1
          have hgood := HF.out.good
          have hstate : Hid (∃ st tr ok pl, boxOf s'.bx id = (st, tr) ∧ Str.has (ids s'.bx) id = ok ∧ plc (ids s'.bx) id = pl ∧ ((ok = true ∧ ∃ (j : Nat) (hj : j < s'.bx.length), pl = (j : Int) ∧ s'.bx[j].st = st ∧ s'.bx[j].tr = tr) ∨ (ok = false ∧ pl = -1 ∧ st = 0 ∧ tr = 0))) := by
            refine Lib.hid ⟨_, _, _, _, rfl, rfl, rfl, ?_⟩
            cases hh : Str.has (ids s'.bx) id
            · refine .inr ⟨rfl, by unfold plc; rw [hh]; rfl, ?_, ?_⟩ <;> (unfold the; rw [hh]; rfl)
            · obtain ⟨hj, e1, e2⟩ := the_some hgood.rb hh
              refine .inl ⟨rfl, Str.pos (ids s'.bx) id, hj, by unfold plc; rw [hh]; rfl, ?_, ?_⟩ <;> (rw [e1])
          obtain ⟨st, tr, ok, pl, eb, eo, ep, hcase⟩ := hstate.out
          have HBox := Lib.hid (fun (X : World) (K : Nat → Prop) (hX : Has X K X g s') => boxH (id := id) hX hgood)
          have HP := Lib.hid (fun (X : World) (hX : CRow X AB1 nB1 cB1 s'.bx) => place_c AB1 nB1 cB1 X.heap.size s'.bx id X (Ro.Row.sl hX) hgood.rb (by have := hlen.out.2.2.1; omega) (by have := HF.out.lb; have := hlen.out.2.2.1; omega))
          rw [eb, eo] at HBox
          rw [ep] at HP
          dsimp only at HBox
          clear eb eo ep hI2 hMm hXb hne ho hI3 hM3 c0 c1 c2 c3 c4 c5 c6 c7 HI HB hdoes hgood hstate
          go_wp2_with fail
          clear x0 x1 x2 x3 xf y0 y1 y2 y3 yf d0 d1 d2 d3 d4 d5 d6 d7
          refine (HBox.out _ _ HI3.out.has).mono ?_
          rintro e w4 ⟨rfl, hb4, -⟩
          have HI4 := Lib.hid (HI3.out.below hb4)
          have HM4 := Lib.hid (HM3.out.below hb4 HM3.out.lt)
          clear hb4 HI3 HM3 HBox
          generalize ((((wc.setCell ⟨m, 0, none⟩ (.int .i64 rt1)).setCell ⟨m, 1, none⟩ (.slice AO1 nO1 cO1)).setCell ⟨m, 2, none⟩ (.slice AB1 nB1 cB1)).setCell ⟨m, 3, none⟩ (.slice AI1 nI1 cI1)) = wd at *
          have HSm := Lib.hid (fun (X : World) (hX : Inv w X (fun b => b = m) g s' #[.int .i64 rt1, .slice AO1 nO1 cO1, .slice AB1 nB1 cB1, .slice AI1 nI1 cI1]) => hX.same HF.out (by omega))
          go_wp2_with fail
          have HIY := Lib.hid (HI4.out.below ((Below.refl w4.heap.size w4).alloc (Nat.le_refl _) (.cells #[.int .i64 st, .int .i64 tr] 44)))
          have HMY := Lib.hid (HM4.out.alloc (o := .cells #[.int .i64 st, .int .i64 tr] 44))
          have HBY := Lib.hid (Mem.Blk.new (w := w4) (t := 44) (cs := #[.int .i64 st, .int .i64 tr]))
          clear HI4 HM4
          obtain ⟨Y, hY⟩ : ∃ Y, (w4.alloc (.cells #[.int .i64 st, .int .i64 tr] 44)).drew = Y := ⟨_, rfl⟩
          have HIY : Hid (Inv w Y (fun b => b = m) g s' #[.int .i64 rt1, .slice AO1 nO1 cO1, .slice AB1 nB1 cB1, .slice AI1 nI1 cI1]) := Lib.hid (by rw [← hY]; exact HIY.out.below (Below.refl _ _).drew)
          have HMY : Hid (Mem.Blk Y m 64 #[.int .i64 rt1, .slice AO1 nO1 cO1, .slice AB1 nB1 cB1, .slice AI1 nI1 cI1]) := Lib.hid (by rw [← hY]; exact HMY.out)
          have HBY : Hid (Mem.Blk Y w4.heap.size 44 #[.int .i64 st, .int .i64 tr]) := Lib.hid (by rw [← hY]; exact HBY.out)
          generalize w4.heap.size = G at *
          have HCR := Lib.hid HIY.out.rows.2
          have HGL := Lib.hid HBY.out.lt
          have HB0 := Lib.hid (HBY.out.cell 0)
          have HB1 := Lib.hid (HBY.out.cell 1)
          obtain ⟨k0, k1, k2, k3, kf⟩ := blk4 HMY.out
          obtain ⟨k10, k11, k12, k13, k14, k15, k16, k17⟩ := HC.out Y HIY.out.base
          dsimp only at k10 k11 k12 k13 k14 k15 k16 k17
          rcases hcase with ⟨rfl, j, hj, rfl, rfl, rfl⟩ | ⟨rfl, rfl, rfl, rfl⟩
          · have hjn : j < nB1 := by have := hlen.out.2.2.1; omega
            obtain ⟨adr, hlr, rfl, hrb, hrl, hRow⟩ := ConV.at_ (Ro.Row.sl HCR.out) hjn
            have HRow := Lib.hid hRow
            have HRL := Lib.hid hrl
            have hE : ∀ v, (binOp .neq 44 (.agg #[.int .i64 s'.bx[j].st, .int .i64 s'.bx[j].tr]) (.agg #[.int .i64 s'.bx[j].st, .int .i64 s'.bx[j].tr])).run Try.prog v = .ok (.bool false) v := fun v => (neq_box v _ _ _ _).trans (by simp)
            have HJ := Lib.hid hj
            clear hRow hrb hrl
            generalize s'.bx[j] = q at *
            obtain ⟨qi, qs, qt, ql⟩ := q
            dsimp only at HB0 HB1 hE HBY
            clear hj hlr
            refine Reg.start (S := fun w' => w' = Y) (by kernel_rfl) ?_
            rw [hY]
            refine Reg.takes (S := fun w' => w' = Y) (n := 2) (by kernel_rfl) (fun _ _ d _ _ h => by cases d <;> exact h) rfl [0, 1, 2, 3, 4, 5, 6] _ _ (by kernel_rfl) ?_
            iterate 7 (refine Reg.det_step rfl (fun K' hK' => ?_); go_simp; (first | (refine hK' _ ?_; clear hK' K') | (apply Exists.intro; refine ⟨fun wx hwx => ?_, hK' _ ?_⟩; (first | rfl | (subst hwx; go_simp; first | done | rfl)); clear hK' K')))
            refine Reg.det_nil ?_
            refine Reg.one (i := 7) (n := 1) (by kernel_rfl) ?_
            refine Reg.call rfl rfl (by go_simp; exact ⟨rfl, rfl⟩) ?_
            refine (HP.out Y HCR.out).mono ?_
            rintro e wz ⟨rfl, hwz⟩
            refine ⟨_, rfl, hwz, ?_⟩
            subst hwz
            refine Reg.takes (S := fun w' => w' = wz) (n := 0) (by kernel_rfl) (fun _ _ d _ _ h => by cases d <;> exact h) rfl [8] _ _ (by kernel_rfl) ?_
            iterate 1 (refine Reg.det_step rfl (fun K' hK' => ?_); go_simp; (first | (refine hK' _ ?_; clear hK' K') | (apply Exists.intro; refine ⟨fun wx hwx => ?_, hK' _ ?_⟩; (first | rfl | (subst hwx; go_simp; first | done | rfl)); clear hK' K')))
            refine Reg.det_nil ?_
            refine wpAnyH_done (by kernel_rfl) ?_ _
            go_wp2_with fail
            refine Reg.start (S := fun w' => Below wz.heap.size wz w') (by kernel_rfl) ?_
            refine Reg.takes (n := 31) (by kernel_rfl) (fun _ _ d _ _ h => by cases d <;> exact h) (Below.refl _ _).drew [0, 1, 2, 3, 4] _ _ (by kernel_rfl) ?_
            iterate 5 (refine Reg.det_step rfl (fun K' hK' => ?_); go_simp; (first | (refine hK' _ ?_; clear hK' K') | (apply Exists.intro; refine ⟨fun wx hwx => ?_, hK' _ ?_⟩; (first | rfl | (obtain ⟨k0, k1, k2, k3, kf⟩ := blk4 (HMY.out.below hwx HMY.out.lt); go_simp; first | done | rfl)); clear hK' K')))
            refine Reg.det_nil ?_
            refine Reg.one (i := 5) (n := 30) (by kernel_rfl) ?_
            refine Reg.call rfl rfl (by go_simp; exact ⟨rfl, rfl⟩) ?_
            refine (HSm.out wz.drew (HIY.out.below (Below.refl _ _).drew)).mono ?_
            rintro e wq ⟨rfl, hbq⟩
            have SQ : Below wz.heap.size wz wq := (Below.refl _ _).drew.trans hbq
            refine ⟨_, rfl, SQ, ?_⟩
            refine Reg.takes (n := 0) (by kernel_rfl) (fun _ _ d _ _ h => by cases d <;> exact h) SQ [6, 7, 8, 9, 10, 11, 12, 13, 14, 15, 16, 17, 18, 19, 20, 21, 22, 23, 24, 25, 26, 27, 28, 29, 30, 31, 32, 33, 34, 35] _ _ (by kernel_rfl) ?_
            iterate 30 (refine Reg.det_step rfl (fun K' hK' => ?_); go_simp; (first | (refine hK' _ ?_; clear hK' K') | (apply Exists.intro; refine ⟨fun wx hwx => ?_, hK' _ ?_⟩; (first | rfl | (obtain ⟨k0, k1, k2, k3, kf⟩ := blk4 (HMY.out.below hwx HMY.out.lt); have j0 := (hwx.cell (p := ⟨G, 0, none⟩) HGL.out).trans HB0.out; have j1 := (hwx.cell (p := ⟨G, 1, none⟩) HGL.out).trans HB1.out; obtain ⟨i0, i1, i2, i3⟩ := HRow.out.below hwx HRL.out; dsimp only at i1 i2; go_simp; first | done | rfl)); clear hK' K')))
            refine Reg.det_nil ?_
            refine wpAnyH_done (by kernel_rfl) ?_ _
            go_wp2_with fail
            go_roundw
            case rel => exact ⟨k + 1, s', _, by omega, by go_num, HF.out, HIY.out.below SQ, HMY.out.below SQ HMY.out.lt⟩
            case measure => simp [intOf]; omega
          · have hE : ∀ v, (binOp .neq 44 (.agg #[.int .i64 0, .int .i64 0]) (.agg #[.int .i64 0, .int .i64 0])).run Try.prog v = .ok (.bool false) v := fun v => (neq_box v _ _ _ _).trans (by simp)
            refine Reg.start (S := fun w' => w' = Y) (by kernel_rfl) ?_
            rw [hY]
            refine Reg.takes (S := fun w' => w' = Y) (n := 2) (by kernel_rfl) (fun _ _ d _ _ h => by cases d <;> exact h) rfl [0, 1, 2, 3, 4, 5, 6] _ _ (by kernel_rfl) ?_
            iterate 7 (refine Reg.det_step rfl (fun K' hK' => ?_); go_simp; (first | (refine hK' _ ?_; clear hK' K') | (apply Exists.intro; refine ⟨fun wx hwx => ?_, hK' _ ?_⟩; (first | rfl | (subst hwx; go_simp; first | done | rfl)); clear hK' K')))
            refine Reg.det_nil ?_
            refine Reg.one (i := 7) (n := 1) (by kernel_rfl) ?_
            refine Reg.call rfl rfl (by go_simp; exact ⟨rfl, rfl⟩) ?_
            refine (HP.out Y HCR.out).mono ?_
            rintro e wz ⟨rfl, hwz⟩
            refine ⟨_, rfl, hwz, ?_⟩
            subst hwz
            refine Reg.takes (S := fun w' => w' = wz) (n := 0) (by kernel_rfl) (fun _ _ d _ _ h => by cases d <;> exact h) rfl [8] _ _ (by kernel_rfl) ?_
            iterate 1 (refine Reg.det_step rfl (fun K' hK' => ?_); go_simp; (first | (refine hK' _ ?_; clear hK' K') | (apply Exists.intro; refine ⟨fun wx hwx => ?_, hK' _ ?_⟩; (first | rfl | (subst hwx; go_simp; first | done | rfl)); clear hK' K')))
            refine Reg.det_nil ?_
            refine wpAnyH_done (by kernel_rfl) ?_ _
            go_wp2_with fail
            refine Reg.start (S := fun w' => Below wz.heap.size wz w') (by kernel_rfl) ?_
            refine Reg.takes (n := 31) (by kernel_rfl) (fun _ _ d _ _ h => by cases d <;> exact h) (Below.refl _ _).drew [0, 1, 2, 3, 4] _ _ (by kernel_rfl) ?_
            iterate 5 (refine Reg.det_step rfl (fun K' hK' => ?_); go_simp; (first | (refine hK' _ ?_; clear hK' K') | (apply Exists.intro; refine ⟨fun wx hwx => ?_, hK' _ ?_⟩; (first | rfl | (obtain ⟨k0, k1, k2, k3, kf⟩ := blk4 (HMY.out.below hwx HMY.out.lt); go_simp; first | done | rfl)); clear hK' K')))
            refine Reg.det_nil ?_
            refine Reg.one (i := 5) (n := 30) (by kernel_rfl) ?_
            refine Reg.call rfl rfl (by go_simp; exact ⟨rfl, rfl⟩) ?_
            refine (HSm.out wz.drew (HIY.out.below (Below.refl _ _).drew)).mono ?_
            rintro e wq ⟨rfl, hbq⟩
            have SQ : Below wz.heap.size wz wq := (Below.refl _ _).drew.trans hbq
            refine ⟨_, rfl, SQ, ?_⟩
            refine Reg.takes (n := 0) (by kernel_rfl) (fun _ _ d _ _ h => by cases d <;> exact h) SQ [6, 7, 8, 9, 10, 11, 12, 13, 14, 15, 16, 17, 18, 19, 20, 21, 22, 23, 24, 25, 26, 27, 28, 29, 30, 31, 32, 33, 34, 35] _ _ (by kernel_rfl) ?_
            iterate 30 (refine Reg.det_step rfl (fun K' hK' => ?_); go_simp; (first | (refine hK' _ ?_; clear hK' K') | (apply Exists.intro; refine ⟨fun wx hwx => ?_, hK' _ ?_⟩; (first | rfl | (obtain ⟨k0, k1, k2, k3, kf⟩ := blk4 (HMY.out.below hwx HMY.out.lt); have j0 := (hwx.cell (p := ⟨G, 0, none⟩) HGL.out).trans HB0.out; have j1 := (hwx.cell (p := ⟨G, 1, none⟩) HGL.out).trans HB1.out; go_simp; first | done | rfl)); clear hK' K')))
            refine Reg.det_nil ?_
            refine wpAnyH_done (by kernel_rfl) ?_ _
            go_wp2_with fail
            go_roundw
            case rel => exact ⟨k + 1, s', _, by omega, by go_num, HF.out, HIY.out.below SQ, HMY.out.below SQ HMY.out.lt⟩
            case measure => simp [intOf]; omega
      · obtain rfl : k = n := by omega
        go_wp2_with fail
        go_ret
        exact ⟨rfl, hI.base⟩
theorem walk (v1 v2 : Value) (w : World) (h1 : Frame.Arg Try.prog w 61 v1) (h2 : Frame.Arg Try.prog w 3 v2) :
    Calls Try.prog 8 #[v1, v2] w fun e w' => e = .returned (.bool true) ∧ Below w.heap.size w w' := by
  obtain ⟨A, n, c, ps, rfl, hc, hm, _, hok, hs⟩ := ActV.of_slice h1
  obtain ⟨r, rfl, _⟩ := h2.int Try.underlying3
  exact core A n c ps r w hs hok (by omega)
end Go.Proofs.Ythccojfflmfggaa.worldModel
