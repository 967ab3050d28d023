/- WorldLife: the walk. -/
import Derived.Test.YthccojfflmfggaaWorldFull
import Derived.Test.YthccojfflmfggaaWorG
namespace Go.Proofs.Ythccojfflmfggaa.worldLife
open Go.RowKit Wo
theorem eli : Mem.El Try.prog 58 3 (.int .i64 0) 1 8 := ⟨Try.underlying58, by kernel_rfl, rfl, by decide⟩
theorem pos_one (s : ByteArray) : Str.pos [s] s = 0 := by rw [Str.pos_cons, Str.cmp_self]; rfl
theorem has_one (s : ByteArray) : Str.has [s] s = true := Str.has_iff.2 (by simp)
section
variable {s : ByteArray} {st tr ls : Int}
theorem the_one : the [⟨s, st, tr, ls⟩] s = some ⟨s, st, tr, ls⟩ := by
  unfold the
  rw [show ids [⟨s, st, tr, ls⟩] = [s] from rfl, pos_one, has_one]
  rfl
theorem err_one {q : Int} : errM [⟨s, st, tr, ls⟩] s q = if Box.nxt st q = 0 then 7 else 0 := by
  unfold errM
  rw [the_one]
theorem box_one : boxOf [⟨s, st, tr, ls⟩] s = (st, tr) := by
  unfold boxOf
  rw [the_one]
theorem do_one {q rt round : Int} {well : Bool} : doB [⟨s, st, tr, ls⟩] (Str.pos (ids [⟨s, st, tr, ls⟩]) s) q well rt round = if (doP ⟨s, st, tr, ls⟩ q well rt round).st = 5 then [] else [doP ⟨s, st, tr, ls⟩ q well rt round] := by
  rw [show ids [⟨s, st, tr, ls⟩] = [s] from rfl, pos_one]
  rfl
theorem ask_one {q : Int} {im : List ImgV} (h : Box.nxt st q ≠ 0) (hq : q ≠ 1) : askE ⟨0, [], [⟨s, st, tr, ls⟩], im⟩ s q = 0 := by
  unfold askE
  dsimp only
  rw [err_one, if_neg h, if_pos rfl, if_neg hq]
theorem askS_one {q round : Int} {im : List ImgV} (h : Box.nxt st q ≠ 0) : askS ⟨0, [], [⟨s, st, tr, ls⟩], im⟩ s q round = ⟨0, [], if Box.nxt st q = 5 then [] else [⟨s, Box.nxt st q, 0, round⟩], im⟩ := by
  unfold askS
  dsimp only
  rw [show tk [] = true from rfl, do_one]
  have e : doP ⟨s, st, tr, ls⟩ q true 0 round = ⟨s, Box.nxt st q, 0, round⟩ := by
    unfold doP Box.step
    dsimp only
    rw [if_neg h, if_pos rfl]
    rfl
  rw [e]
  rfl
theorem cr_one {a : Int} : ({ (⟨0, [], [], []⟩ : St) with bx := insB [] s a } : St) = ⟨0, [], [⟨s, 1, 0, a⟩], []⟩ := rfl
theorem pull_one {n : ByteArray} {a z r : Int} : errM [⟨s, 1, 0, a⟩] s 1 = 0 ∧ pullW ⟨0, [], [⟨s, 1, 0, a⟩], []⟩ n = true ∧ Str.has (nms []) n = false ∧ pullS ⟨0, [], [⟨s, 1, 0, a⟩], []⟩ s n z r = ⟨0, [], [⟨s, 2, 0, r⟩], [⟨n, z, r⟩]⟩ := by
  refine ⟨by rw [err_one]; rfl, rfl, rfl, ?_⟩
  unfold pullS
  dsimp only
  rw [show pullW ⟨0, [], [⟨s, 1, 0, a⟩], []⟩ n = true from rfl, do_one]
  rfl
theorem drop_one {z r : Int} : dropS ⟨0, [], [], [⟨s, z, r⟩]⟩ s = ⟨0, [], [], []⟩ := by
  unfold dropS dropI
  dsimp only
  rw [show nms [⟨s, z, r⟩] = [s] from rfl, has_one, pos_one]
  rfl
end
/-- a runtime, and a row of ints of the caller's -/
structure Inv0 (W w : World) (g : Nat) (s : St) (A : Option Addr) (n c : Nat) (zs : List Int) : Prop where
  below : Below W.heap.size W w
  has : Has w (fun k => k < W.heap.size ∨ Ro.blk A = some k) w g s
  row : Ro.Row w 3 1 A n c (zs.map (Value.int .i64))
  fresh : ∀ k, Ro.blk A = some k → W.heap.size ≤ k
structure Inv (W w : World) (g : Nat) (s : St) (A : Option Addr) (n c : Nat) (zs : List Int) (bB : Nat) (x y : Int) : Prop where
  below : Below W.heap.size W w
  has : Has w (fun k => k < W.heap.size ∨ Ro.blk A = some k ∨ k = bB) w g s
  row : Ro.Row w 3 1 A n c (zs.map (Value.int .i64))
  box : Mem.Blk w bB 44 #[.int .i64 x, .int .i64 y]
  fresh : W.heap.size ≤ bB ∧ ∀ k, Ro.blk A = some k → W.heap.size ≤ k ∧ k ≠ bB
theorem has_self {wr w : World} {ks : Nat → Prop} {g : Nat} {s : St} (h : Has wr ks w g s) : Has w ks w g s :=
  h.rebase (Below.refl _ _) (fun k hk => ⟨by obtain ⟨_, _, ho, h3⟩ := h; have := (h3 k hk).1; have := ho.size; omega, .inl hk⟩)
/-- what ks names is turned: the runtime stays -/
theorem has_turn {wr w w' : World} {ks ks2 : Nat → Prop} {g : Nat} {s : St} (h : Has wr ks w g s) (ho : Ro.Only ks w w') (hk : ∀ k, ks2 k → k < w'.heap.size ∧ (ks k ∨ w.heap.size ≤ k)) : Has w' ks2 w' g s := by
  obtain ⟨S, h1, h2, h3⟩ := h
  refine ⟨fun k => S k ∧ k < w.heap.size, (h1.mono (T := fun k => S k ∧ k < w.heap.size) fun k hk c => ⟨c, hk⟩).keep (fun k hk c => ho.block k hk (fun d => (h3 k d).2 c.1)), Ro.Only.refl _ _, fun k hk2 => ⟨(hk k hk2).1, ?_⟩⟩
  rintro ⟨c, hlt⟩
  rcases (hk k hk2).2 with e | e
  · exact (h3 k e).2 c
  · omega
section
variable {W w w' : World} {g n c : Nat} {s s' : St} {A : Option Addr} {zs : List Int} {bB : Nat} {x y : Int}
theorem Inv0.run (h : Inv0 W w g s A n c zs) (h2 : Has w (fun k => k < W.heap.size ∨ Ro.blk A = some k) w' g s') : Inv0 W w' g s' A n c zs :=
  ⟨h.below.trans (h2.only.below h.below.size (fun k hk c => c (.inl hk))), has_self h2, h.row.only h2.only (fun k hk c => c (.inr hk)), h.fresh⟩
theorem Inv.run (h : Inv W w g s A n c zs bB x y) (h2 : Has w (fun k => k < W.heap.size ∨ Ro.blk A = some k ∨ k = bB) w' g s') : Inv W w' g s' A n c zs bB x y :=
  ⟨h.below.trans (h2.only.below h.below.size (fun k hk c => c (.inl hk))), has_self h2, h.row.only h2.only (fun k hk c => c (.inr (.inl hk))),
    (h2.only.block bB h.box.lt (fun c => c (.inr (.inr rfl)))).trans h.box, h.fresh⟩
theorem Inv0.start (hb : Below W.heap.size W w) (h : Has W (fun k => k < W.heap.size) w g s) (z : Int) : Inv0 W (w.alloc (.cells #[.int .i64 z] 3)) g s (some ⟨w.heap.size, 0, none⟩) 1 1 [z] where
  below := hb.alloc hb.size _
  has := h.rebase ((Below.refl _ _).alloc (Nat.le_refl _) _) (fun k hk => by
    have := hb.size
    rcases hk with hk | hk
    · exact ⟨by simp; omega, .inl hk⟩
    · have e : w.heap.size = k := by simpa [Ro.blk] using hk
      exact ⟨by simp; omega, .inr (by omega)⟩)
  row := Ro.Row.new (cs := #[.int .i64 z]) rfl (by decide)
  fresh := fun k hk => by
    have e : w.heap.size = k := by simpa [Ro.blk] using hk
    have := hb.size
    omega
theorem Inv0.box (h : Inv0 W w g s A n c zs) (x y : Int) : Inv W (w.alloc (.cells #[.int .i64 x, .int .i64 y] 44)) g s A n c zs w.heap.size x y where
  below := h.below.alloc h.below.size _
  has := h.has.rebase ((Below.refl _ _).alloc (Nat.le_refl _) _) (fun k hk => by
    have := h.below.size
    rcases hk with hk | hk | hk
    · exact ⟨by simp; omega, .inl (.inl hk)⟩
    · have := h.row.lt hk
      exact ⟨by simp; omega, .inl (.inr hk)⟩
    · exact ⟨by simp; omega, .inr (by omega)⟩)
  row := h.row.keep fun k hk => Below.heap_alloc w _ k (h.row.lt hk)
  box := Mem.Blk.new
  fresh := ⟨h.below.size, fun k hk => ⟨h.fresh k hk, by have := h.row.lt hk; omega⟩⟩
theorem Inv.store (h : Inv W w g s A n c zs bB x y) (x' y' : Int) : Inv W ((w.setCell ⟨bB, 0, none⟩ (.int .i64 x')).setCell ⟨bB, 1, none⟩ (.int .i64 y')) g s A n c zs bB x' y' := by
  have ho : Ro.Only (fun k => k = bB) w ((w.setCell ⟨bB, 0, none⟩ (.int .i64 x')).setCell ⟨bB, 1, none⟩ (.int .i64 y')) := (Ro.Only.setCell w ⟨bB, 0, none⟩ _).trans (Ro.Only.setCell _ ⟨bB, 1, none⟩ _) (fun k _ e => e)
  refine ⟨h.below.trans (ho.below h.below.size (fun k hk e => by have := h.fresh.1; omega)), ?_, h.row.only ho (fun k hk e => (h.fresh.2 k hk).2 e), (h.box.set_ 0 _).set_ 1 _, h.fresh⟩
  refine has_turn h.has (ho.mono fun k _ e => .inr (.inr e)) (fun k hk => ⟨?_, .inl hk⟩)
  have hs : k < w.heap.size := by
    obtain ⟨_, _, _, h3⟩ := h.has
    exact (h3 k hk).1
  simpa using hs
/-- one more -/
theorem Inv.app (h : Inv W w g s A n c zs bB x y) (z : Int) (hn : n ≤ 1000) (c2 : Nat) {N : Nat} (hN : w.heap.size = N) : ∃ A' c' w', (Builtin.append_ #[58, 58] 58 #[.slice A n c, .slice (some ⟨N, 0, none⟩) 1 c2]).run Try.prog (w.alloc (.cells #[.int .i64 z] 3)) = .ok (.slice A' (n + 1) c') w' ∧ Inv W w' g s A' (n + 1) c' (zs ++ [z]) bB x y := by
  subst hN
  obtain ⟨A', c', w', hr, hR, hO, hb⟩ := Ro.app (P := Try.prog) (ty := 58) (c2 := c2) eli (w := w.alloc (.cells #[.int .i64 z] 3)) (h.row.keep fun k hk => Below.heap_alloc w _ k (h.row.lt hk)) (Mem.new_sl (w := w) (cs := #[.int .i64 z]) rfl rfl rfl) (by simp [Value.oneCell']) (by unfold maxLen; omega) (by omega)
  refine ⟨A', c', w', hr, ?_⟩
  have hz := h.below.size
  have hlb := h.box.lt
  have O : Ro.Only (fun k => Ro.blk A = some k) w w' := (Ro.Only.of_below ((Below.refl _ _).alloc (Nat.le_refl _) _)).trans hO (fun k _ e => e)
  have hw' : w.heap.size + 1 ≤ w'.heap.size := by have := hO.size; simpa using this
  have fr : ∀ k, Ro.blk A' = some k → Ro.blk A = some k ∨ k = w.heap.size + 1 := by
    intro k hk
    rcases hb with hb | hb
    · rw [hb] at hk; exact .inl hk
    · rw [hb] at hk
      refine .inr ?_
      have : (w.alloc (.cells #[.int .i64 z] 3)).heap.size = k := by simpa using hk
      simpa using this.symm
  refine ⟨h.below.trans (O.below hz (fun k hk e => by have := (h.fresh.2 k e).1; omega)), ?_, by simpa using hR, (O.block bB hlb (fun e => (h.fresh.2 bB e).2 rfl)).trans h.box, h.fresh.1, ?_⟩
  · refine has_turn h.has (O.mono fun k _ e => .inr (.inl e)) (fun k hk => ?_)
    rcases hk with hk | hk | hk
    · exact ⟨by omega, .inl (.inl hk)⟩
    · refine ⟨hR.lt hk, ?_⟩
      rcases fr k hk with e | e
      · exact .inl (.inr (.inl e))
      · exact .inr (by omega)
    · exact ⟨by omega, .inl (.inr (.inr hk))⟩
  · intro k hk
    rcases fr k hk with e | e
    · exact h.fresh.2 k e
    · exact ⟨by omega, by omega⟩
end
theorem good_c {id : ByteArray} {r : Int} {im : List ImgV} (st : Int) (h0 : 0 ≤ st) (h6 : st ≤ 6) (hi : im.length ≤ 1) : Wo.Good ⟨0, [], [⟨id, st, 0, r⟩], im⟩ := good_one ⟨h0, h6, by show (0 : Int) ≤ 0; decide, by show (0 : Int) ≤ 9223372036854775807; decide⟩ (by show 0 ≤ 4096; decide) hi
theorem good_i {q : ImgV} : Wo.Good ⟨0, [], [], [q]⟩ := ⟨List.Pairwise.nil, List.pairwise_singleton _ _, (fun p hp => by cases hp), Nat.zero_le _, (by show 1 ≤ 100000; decide), (by show 0 ≤ 4096; decide)⟩
set_option maxRecDepth 100000 in
set_option maxHeartbeats 4000000 in
theorem core (id name : ByteArray) (z y : Int) (w : World) (hi : id.size ≤ maxLen) (hn : name.size ≤ maxLen) (hz0 : 0 ≤ z) (hz1 : z ≤ 4294967295) (hy0 : 0 ≤ y) (hy1 : y ≤ 4294967295) :
    Calls Try.prog 7 #[.string id, .string name, .int .u32 z, .int .u32 y] w fun e w' => e = .returned (.bool true) ∧ Below w.heap.size w w' := by
  go_enter Try.func7, Try.ntmps7
  go_wp2_with fail
  refine (wawake_c _).mono ?_
  rintro e w1 ⟨rfl, hb1⟩
  go_wp2_with fail
  · refine (wawake_c _).mono ?_
    rintro e w2 ⟨rfl, hb2⟩
    go_wp2_with fail
    go_ret
    exact ⟨rfl, hb1.trans (hb2.mono hb1.size)⟩
  · refine (wnew_c 0 _).mono ?_
    rintro e w2 ⟨rfl, hat, hb2⟩
    have L2 := hb1.trans (hb2.mono hb1.size)
    have H := Has.start (ks := fun k => k < w.heap.size) L2 (fun k hk => hk) hat (fun k hk => by have := hb1.size; omega)
    have I3 := Lib.hid (Inv0.start L2 H 1)
    generalize w1.heap.size = g at *
    clear hat hb1 hb2 L2 H
    go_wp2_with fail
    generalize w2.alloc (.cells #[.int .i64 1] 3) = w3 at *
    generalize w2.heap.size = bA at *
    generalize (some (⟨bA, 0, none⟩ : Addr)) = A0 at *
    refine (createH I3.out.has (good_nil (by decide))).mono ?_
    rintro e w4 ⟨-, hq⟩
    obtain ⟨rfl, hp⟩ := hq rfl
    have I4 := Lib.hid (I3.out.run (hp.to (cr_one (s := id) (a := y))))
    clear I3 hq hp
    go_wp2_with fail
    refine (pullH I4.out.has (good_c 1 (by decide) (by decide) (by show 0 ≤ 1; decide))).mono ?_
    rintro e w5 ⟨-, hq⟩
    obtain ⟨p1, p2, p3, p4⟩ := pull_one (s := id) (n := name) (a := y) (z := z) (r := y + 1)
    obtain ⟨rfl, hp⟩ := hq p1
    rw [p2, p3]
    have I5 := Lib.hid (I4.out.run (hp.to p4))
    clear I4 hq hp p1 p2 p3 p4
    go_wp2_with fail
    refine (boxH I5.out.has (good_c 2 (by decide) (by decide) (by show 1 ≤ 1; decide))).mono ?_
    rintro e w6 ⟨rfl, -, hp⟩
    rw [box_one, show Str.has (ids [⟨id, 2, 0, y + 1⟩]) id = true from has_one id]
    dsimp only
    have I6 := Lib.hid ((I5.out.run hp).box 2 0)
    clear I5 hp
    have x0 : (w6.alloc (.cells #[.int .i64 2, .int .i64 0] 44)).cell? ⟨w6.heap.size, 0, none⟩ = some (.int .i64 2) := I6.out.box.cell 0
    obtain ⟨A7, c7, w7, hr, hI7⟩ := I6.out.app (N := w6.heap.size + 1) 2 (by omega) 1 (by simp)
    have I7 := Lib.hid hI7
    clear I6 hI7
    go_wp2_with (at_builtin; refine Ro.wpList_app rfl _ _ _ _ rfl _ _ rfl rfl hr ?_; clear hr x0)
    generalize w6.heap.size = bB at *
    refine (askH (q := 2) I7.out.has (good_c 2 (by decide) (by decide) (by show 1 ≤ 1; decide)) (by decide)).mono ?_
    rintro e w8 ⟨-, hq⟩
    obtain ⟨rfl, hp⟩ := hq (ask_one (by decide) (by decide))
    have I8 := Lib.hid (I7.out.run (hp.to (show _ = (⟨0, [], [⟨id, 3, 0, y + 2⟩], [⟨name, z, y + 1⟩]⟩ : St) from askS_one (by decide))))
    clear I7 hq hp
    go_wp2_with fail
    refine (boxH I8.out.has (good_c 3 (by decide) (by decide) (by show 1 ≤ 1; decide))).mono ?_
    rintro e w9 ⟨rfl, -, hp⟩
    rw [box_one, show Str.has (ids [⟨id, 3, 0, y + 2⟩]) id = true from has_one id]
    dsimp only
    have I9 := I8.out.run hp
    have x0 : w9.cell? ⟨bB, 0, none⟩ = some (.int .i64 2) := I9.box.cell 0
    have x1 : w9.cell? ⟨bB, 1, none⟩ = some (.int .i64 0) := I9.box.cell 1
    have kf := I9.box.frozen
    obtain ⟨A10, c10, w10, hr, hI10⟩ := (I9.store 3 0).app (N := w9.heap.size) 3 (by omega) 1 (by simp)
    have I10 := Lib.hid hI10
    clear I8 I9 hp hI10
    go_wp2_with (at_builtin; refine Ro.wpList_app rfl _ _ _ _ rfl _ _ rfl rfl hr ?_; clear hr x0 x1 kf)
    refine (askH (q := 3) I10.out.has (good_c 3 (by decide) (by decide) (by show 1 ≤ 1; decide)) (by decide)).mono ?_
    rintro e w11 ⟨-, hq⟩
    obtain ⟨rfl, hp⟩ := hq (ask_one (by decide) (by decide))
    have I11 := Lib.hid (I10.out.run (hp.to (show _ = (⟨0, [], [⟨id, 4, 0, y + 3⟩], [⟨name, z, y + 1⟩]⟩ : St) from askS_one (by decide))))
    clear I10 hq hp
    go_wp2_with fail
    refine (boxH I11.out.has (good_c 4 (by decide) (by decide) (by show 1 ≤ 1; decide))).mono ?_
    rintro e w12 ⟨rfl, -, hp⟩
    rw [box_one, show Str.has (ids [⟨id, 4, 0, y + 3⟩]) id = true from has_one id]
    dsimp only
    have I12 := I11.out.run hp
    have x0 : w12.cell? ⟨bB, 0, none⟩ = some (.int .i64 3) := I12.box.cell 0
    have x1 : w12.cell? ⟨bB, 1, none⟩ = some (.int .i64 0) := I12.box.cell 1
    have kf := I12.box.frozen
    obtain ⟨A13, c13, w13, hr, hI13⟩ := (I12.store 4 0).app (N := w12.heap.size) 4 (by omega) 1 (by simp)
    have I13 := Lib.hid hI13
    clear I11 I12 hp hI13
    go_wp2_with (at_builtin; refine Ro.wpList_app rfl _ _ _ _ rfl _ _ rfl rfl hr ?_; clear hr x0 x1 kf)
    obtain ⟨ad, rfl, _, hc⟩ := I13.out.row.sl.2 (by decide)
    have hall : ∀ i : Nat, i < 4 → w13.cell? (ad.add i) = some (.int .i64 ((i : Int) + 1)) := by
      intro i hi4
      rw [hc i (by simpa using hi4)]
      match i, hi4 with
      | 0, _ => rfl
      | 1, _ => rfl
      | 2, _ => rfl
      | 3, _ => rfl
    clear hc
    go_loop [17] (fun vi => ∃ i : Nat, i ≤ 4 ∧ vi = .int .i64 i) (fun i => 4 - (intOf i).toNat)
    case atStart => exact ⟨0, by omega, rfl⟩
    case round =>
      obtain ⟨i, hi4, rfl⟩ := hrel
      by_cases hlt : i < 4
      · have hcell := hall i hlt
        clear hall
        go_wp2_with fail
        go_round
        case rel => exact ⟨i + 1, by omega, by go_num⟩
        case measure => simp [intOf]; omega
      · obtain rfl : i = 4 := by omega
        clear hall hlt hi4
        go_wp2_with fail
        refine (askH (q := 4) I13.out.has (good_c 4 (by decide) (by decide) (by show 1 ≤ 1; decide)) (by decide)).mono ?_
        rintro e w14 ⟨-, hq⟩
        obtain ⟨rfl, hp⟩ := hq (ask_one (by decide) (by decide))
        have HB := Lib.hid (I13.out.below)
        have H14 := Lib.hid (hp.to (show _ = (⟨0, [], [], [⟨name, z, y + 1⟩]⟩ : St) from askS_one (by decide)))
        clear I13 hq hp
        go_wp2_with fail
        refine (boxH H14.out good_i).mono ?_
        rintro e w15 ⟨rfl, -, hp⟩
        rw [show boxOf [] id = (0, 0) from rfl, show Str.has (ids []) id = false from rfl]
        dsimp only
        have H15 := Lib.hid (hp.below ((Below.refl _ _).alloc (Nat.le_refl _) (.cells #[.int .i64 0, .int .i64 0] 44)))
        clear H14 hp
        go_wp2_with fail
        refine (imagesH H15.out good_i).mono ?_
        rintro e w16 ⟨⟨A', c', rfl, hI, -, -⟩, hp⟩
        have H16 := Lib.hid hp
        clear H15 hp
        dsimp only
        rw [show [(⟨name, z, y + 1⟩ : ImgV)].length = 1 from rfl]
        obtain ⟨ad2, _, rfl, hlt2, _, hat⟩ := ImgV.at_ hI.sl (k := 0) (by show 0 < 1; decide)
        rw [show ad2.add (0 * 3) = ad2 from by simp [Addr.add]] at hat
        have Hat := Lib.hid (show ImgV.At w16 ad2 ⟨name, z, y + 1⟩ from hat)
        have Hlt := Lib.hid hlt2
        clear hat hI hlt2
        go_wp2_with fail
        refine (containersH H16.out good_i).mono ?_
        rintro e w17 ⟨⟨A2, c2, rfl, -, hb17, -⟩, hp⟩
        have H17 := Lib.hid hp
        have hat := Hat.out.below hb17 Hlt.out
        have i0 : w17.cell? ad2 = some (.string name) := hat.c0
        have i1 : w17.cell? { block := ad2.block, off := ad2.off + 1 } = some (.int .i64 z) := hat.c1
        have i2 : w17.cell? { block := ad2.block, off := ad2.off + 2 } = some (.int .i64 (y + 1)) := hat.c2
        have eI : ∀ w, (binOp .neq 54 (.agg #[.string name, .int .i64 z, .int .i64 (y + 1)]) (.agg #[.string name, .int .i64 z, .int .i64 (y + 1)])).run Try.prog w = .ok (.bool false) w := fun w => (neq_img w ⟨name, z, y + 1⟩ ⟨name, z, y + 1⟩).trans (by rw [sameI_self]; rfl)
        clear H16 hp hat hb17 Hat Hlt
        dsimp only
        rw [show ([] : List ConV).length = 0 from rfl]
        go_wp2_with fail
        refine (dropH H17.out good_i).mono ?_
        rintro e w18 ⟨-, hq⟩
        obtain ⟨rfl, hp⟩ := hq (has_one name)
        have H18 := Lib.hid (hp.to drop_one)
        clear H17 hq hp i0 i1 i2 eI
        go_wp2_with fail
        refine (dropH H18.out (good_nil (by decide))).mono ?_
        rintro e w19 ⟨hq, -⟩
        obtain ⟨rfl, hp⟩ := hq rfl
        have H19 := Lib.hid hp
        clear H18 hq hp
        go_wp2_with fail
        refine (imagesH H19.out (good_nil (by decide))).mono ?_
        rintro e w20 ⟨⟨A', c', rfl, -, -, -⟩, hp⟩
        have H20 := Lib.hid hp
        clear H19 hp
        dsimp only
        rw [show ([] : List ImgV).length = 0 from rfl]
        go_wp2_with fail
        go_ret
        exact ⟨rfl, HB.out.trans (H20.out.only.below HB.out.size (fun k hk hn => hn (.inl hk)))⟩
  · refine (wawake_c _).mono ?_
    rintro e w2 ⟨rfl, hb2⟩
    go_wp2_with fail
    go_ret
    exact ⟨rfl, hb1.trans (hb2.mono hb1.size)⟩
theorem arg_string {P : Program} {W : World} {t : TypeId} {v : Value} (h : Frame.Arg P W t v) (ht : P.underlying t = some .string) : ∃ s : ByteArray, v = .string s ∧ s.size ≤ maxLen := by
  obtain ⟨s, hs, hsz⟩ := h.dat.string ht
  obtain ⟨H, enc, base, d, p, hv, _⟩ := h
  obtain ⟨s', rfl⟩ := Go.WideShapes.okWide_string ht hv
  have e : s' = s := by simpa [Value.cells] using hs
  exact ⟨s', rfl, by rw [e]; exact hsz⟩
theorem walk (v1 v2 v3 v4 : Value) (w : World) (h1 : Frame.Arg Try.prog w 9 v1) (h2 : Frame.Arg Try.prog w 9 v2) (h3 : Frame.Arg Try.prog w 57 v3) (h4 : Frame.Arg Try.prog w 57 v4) :
    Calls Try.prog 7 #[v1, v2, v3, v4] w fun e w' => e = .returned (.bool true) ∧ Below w.heap.size w w' := by
  obtain ⟨z, rfl, hz⟩ := h3.int Try.underlying57
  obtain ⟨y, rfl, hy⟩ := h4.int Try.underlying57
  obtain ⟨id, rfl, hi⟩ := arg_string h1 Try.underlying9
  obtain ⟨name, rfl, hn⟩ := arg_string h2 Try.underlying9
  exact core id name z y w hi hn (Frame.bd_u32 hz).1 (Frame.bd_u32 hz).2 (Frame.bd_u32 hy).1 (Frame.bd_u32 hy).2
end Go.Proofs.Ythccojfflmfggaa.worldLife
