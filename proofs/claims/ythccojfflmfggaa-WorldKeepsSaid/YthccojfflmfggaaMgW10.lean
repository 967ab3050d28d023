/- WorldFull: the walk. -/
import Derived.Test.YthccojfflmfggaaMgW7
import Derived.Laws.MakeOwn
import Derived.Test.YthccojfflmfggaaMgW1
import Derived.Test.YthccojfflmfggaaMgW5
import Derived.Test.YthccojfflmfggaaMgW9
namespace Go.Proofs.Ythccojfflmfggaa.worldFull
open Go.RowKit Wo
theorem make_c (k : Nat) (hk : k ≤ 5000) : ∃ M : Array Value, M.size = k ∧ M.toList = (List.replicate k false).map Value.bool ∧ ∀ u : World, (Instr.makeSlice 22 (.int .i64 (k : Int)) (.int .i64 (k : Int))).run Try.prog u = .ok (.slice (some ⟨u.heap.size, 0, none⟩) k k) (u.alloc (.cells M 4)) := by
  obtain ⟨i, hi, hz, h1, h2⟩ := info_parts elb.info
  have e : (madeCells (Value.bool false).cells (((k : Nat) : Int).toNat * i.size)).toList = (List.replicate k false).map Value.bool := by
    rw [h1]
    apply List.ext_getElem
    · simp [madeCells]
    · intro j h3 h4
      simp [madeCells, Value.cells, Nat.mod_one]
  refine ⟨madeCells (Value.bool false).cells (((k : Nat) : Int).toNat * i.size), ?_, e, fun u => ?_⟩
  · simp [madeCells, h1]
  exact run_makeSlice (P := Try.prog) u 22 4 i (.bool false) elb.ty hi hz .i64 .i64 (k : Int) (k : Int) (by omega) (by omega) (by rw [h1]; simp; omega) (by rw [h2]; omega) (by omega)
theorem has_sl {wr w : World} {ks : Nat → Prop} {g : Nat} {s : St} {B sz n : Nat} {A : Option Addr} {xs : List Value} (h : Has wr ks w g s) (hB : B ≤ wr.heap.size) (hk : ∀ k, k < B → ks k) (hs : Mem.Sl wr B sz A n xs) : Mem.Sl w B sz A n xs ∧ B ≤ w.heap.size :=
  have hb := h.only.below hB (fun k h1 hn => hn (hk k h1))
  ⟨hs.below hb, Nat.le_trans hB h.only.size⟩
set_option maxRecDepth 100000 in
set_option maxHeartbeats 4000000 in
theorem core (z : Int) (A : Option Addr) (n c : Nat) (bs : List Bool) (w : World) (h : Mem.Sl w w.heap.size 1 A n (bs.map Value.bool)) (hz0 : 0 ≤ z) (hz1 : z ≤ 65535) :
    Calls Try.prog 6 #[.int .u16 z, .slice A n c] w fun e w' => e = .returned (.bool true) ∧ Below w.heap.size w w' := by
  obtain ⟨m, rfl⟩ : ∃ m : Nat, z = m := ⟨z.toNat, by omega⟩
  go_enter Try.func6, Try.ntmps6
  go_wp2_with fail
  refine (wawake_c _).mono ?_
  rintro e w1 ⟨rfl, hb1⟩
  go_wp2_with fail
  · refine (wawake_c _).mono ?_
    rintro e w2 ⟨rfl, hb2⟩
    go_wp2_with fail
    go_ret
    exact ⟨rfl, hb1.trans (hb2.mono hb1.size)⟩
  · rename_i hn
    have hk1 : (m : Int) % 4097 ≤ 4096 ∧ 0 ≤ (m : Int) % 4097 := by omega
    generalize (m : Int) % 4097 = kk at *
    obtain ⟨k, rfl⟩ : ∃ k : Nat, kk = k := ⟨kk.toNat, by omega⟩
    have hk : k ≤ 4096 := by omega
    clear hk1
    have hnn : n ≤ 5000 := by omega
    have hln : bs.length = n := by have := h.1; simpa using this
    refine (wnew_c 0 _).mono ?_
    rintro e w2 ⟨rfl, hat, hb2⟩
    have hbb := hb1.trans (hb2.mono hb1.size)
    have H := Lib.hid (Has.start (ks := fun k => k < w.heap.size) hbb (fun k hk => hk) hat (fun k hk => by have := hb1.size; omega))
    obtain ⟨M, hMs, hMl, hM⟩ := make_c k (by omega)
    have HF := Lib.hid ((feedH (wr := w) (bs := List.replicate k false) (H.out.below ((show Below w2.heap.size w2 (w2.alloc (.cells M 4)).drew from ((Below.refl _ _).alloc (Nat.le_refl _) _).drew))) (A := some ⟨w2.heap.size, 0, none⟩) (n := k) (c := k)
      (Mem.Sl.more (Mem.new_sl rfl (by rw [hMs]; simp) hMl) (by simp)) (by omega) (by show (0 : Nat) ≤ 4096; omega)).mono (R' := fun e w3 => e = .returned (.int .i64 0) ∧ Has w (fun k => k < w.heap.size) w3 w1.heap.size ⟨0, List.replicate k false, [], []⟩) (fun e w3 p => p.2 (by show 0 + k ≤ 4096; omega)))
    generalize w1.heap.size = g at *
    clear hat hb1 hb2 H hbb
    go_wp2_with fail
    go_region_with
      (go_at_call 13
       refine HF.out.mono ?_
       rintro e w3 ⟨rfl, hp⟩)
    have H3 := Lib.hid hp
    clear HF hp hM hMl hMs
    obtain ⟨hsl, hsz⟩ := has_sl H3.out (Nat.le_refl _) (fun _ h => h) h
    have HM := Lib.hid (feedH (c := c) H3.out (hsl.more hsz) (by omega) (by show (List.replicate k false).length ≤ 4096; simp; omega))
    have hle : (List.replicate k false).length = k := by simp
    by_cases hf : 4096 < k + n
    · have HM2 := Lib.hid (HM.out.mono (R' := fun e w4 => e = .returned (.int .i64 6) ∧ Has w (fun k => k < w.heap.size) w4 g ⟨0, List.replicate k false, [], []⟩) (fun e w4 p => p.1 (by show 4096 < (List.replicate k false).length + n; rw [hle]; omega)))
      have hfi : (4096 : Int) < (k : Int) + (n : Int) := by omega
      clear HM hsl hsz hle h
      go_wp2_with fail
      refine HM2.out.mono ?_
      rintro e w4 ⟨rfl, hp⟩
      have H4 := Lib.hid hp
      clear H3 HM2 hp
      go_wp2_with fail
      refine (waitingH H4.out ⟨List.Pairwise.nil, List.Pairwise.nil, (fun p hp => by cases hp), Nat.zero_le _, Nat.zero_le _, by show (List.replicate k false).length ≤ 4096; simp; omega⟩).mono ?_
      rintro e w5 ⟨⟨Ad, cd, rfl, -, -, -⟩, hp⟩
      have H5 := Lib.hid hp
      have hle : (St.outs ⟨0, List.replicate k false, [], []⟩).length = k := by simp
      rw [hle]
      clear H4 hp hle
      go_wp2_with fail
      go_ret
      exact ⟨rfl, H5.out.only.below (Nat.le_refl _) (fun k hk hn => hn hk)⟩
    · have HM2 := Lib.hid (HM.out.mono (R' := fun e w4 => e = .returned (.int .i64 0) ∧ Has w (fun k => k < w.heap.size) w4 g ⟨0, List.replicate k false ++ bs, [], []⟩) (fun e w4 p => p.2 (by show (List.replicate k false).length + n ≤ 4096; rw [hle]; omega)))
      have hfi : ¬ (4096 : Int) < (k : Int) + (n : Int) := by omega
      clear HM hsl hsz hle h
      go_wp2_with fail
      refine HM2.out.mono ?_
      rintro e w4 ⟨rfl, hp⟩
      have H4 := Lib.hid hp
      clear H3 HM2 hp
      go_wp2_with fail
      refine (waitingH H4.out ⟨List.Pairwise.nil, List.Pairwise.nil, (fun p hp => by cases hp), Nat.zero_le _, Nat.zero_le _, by show (List.replicate k false ++ bs).length ≤ 4096; simp; omega⟩).mono ?_
      rintro e w5 ⟨⟨Ad, cd, rfl, -, -, -⟩, hp⟩
      have H5 := Lib.hid hp
      have hle : (St.outs ⟨0, List.replicate k false ++ bs, [], []⟩).length = k + n := by simp; omega
      rw [hle]
      clear H4 hp hle
      go_wp2_with fail
      go_ret
      exact ⟨rfl, H5.out.only.below (Nat.le_refl _) (fun k hk hn => hn hk)⟩
theorem walk (v1 v2 : Value) (w : World) (h1 : Frame.Arg Try.prog w 50 v1) (h2 : Frame.Arg Try.prog w 22 v2) :
    Calls Try.prog 6 #[v1, v2] w fun e w' => e = .returned (.bool true) ∧ Below w.heap.size w w' := by
  obtain ⟨z, rfl, hz⟩ := h1.int Try.underlying50
  obtain ⟨A, n, c, bs, rfl, _, _, _, h⟩ := h2.bools Try.underlying22 Try.underlying4 (by kernel_rfl)
  exact core z A n c bs w h (Frame.bd_u16 hz).1 (Frame.bd_u16 hz).2
end Go.Proofs.Ythccojfflmfggaa.worldFull
/- WorldLife: the walk. -/
namespace Go.Proofs.Ythccojfflmfggaa.worldLife
open Go.RowKit Wo
theorem eli : Mem.El Try.prog 58 3 (.int .i64 0) 1 8 := ⟨Try.underlying58, by kernel_rfl, rfl, by decide⟩
theorem pos_one (s : ByteArray) : Str.pos [s] s = 0 := by rw [Str.pos_cons, Str.cmp_self]; rfl
theorem has_one (s : ByteArray) : Str.has [s] s = true := Str.has_iff.2 (by simp)
section
variable {s : ByteArray} {st tr ls : Int}
theorem the_one : the [⟨s, st, tr, ls⟩] s = some ⟨s, st, tr, ls⟩ := by
  unfold the
  rw [show ids [⟨s, st, tr, ls⟩] = [s] from rfl, pos_one, has_one]
  rfl
theorem err_one {q : Int} : errM [⟨s, st, tr, ls⟩] s q = if Box.nxt st q = 0 then 7 else 0 := by
  unfold errM
  rw [the_one]
theorem box_one : boxOf [⟨s, st, tr, ls⟩] s = (st, tr) := by
  unfold boxOf
  rw [the_one]
theorem do_one {q rt round : Int} {well : Bool} : doB [⟨s, st, tr, ls⟩] (Str.pos (ids [⟨s, st, tr, ls⟩]) s) q well rt round = if (doP ⟨s, st, tr, ls⟩ q well rt round).st = 5 then [] else [doP ⟨s, st, tr, ls⟩ q well rt round] := by
  rw [show ids [⟨s, st, tr, ls⟩] = [s] from rfl, pos_one]
  rfl
theorem ask_one {q : Int} {im : List ImgV} (h : Box.nxt st q ≠ 0) (hq : q ≠ 1) : askE ⟨0, [], [⟨s, st, tr, ls⟩], im⟩ s q = 0 := by
  unfold askE
  dsimp only
  rw [err_one, if_neg h, if_pos rfl, if_neg hq]
theorem askS_one {q round : Int} {im : List ImgV} (h : Box.nxt st q ≠ 0) : askS ⟨0, [], [⟨s, st, tr, ls⟩], im⟩ s q round = ⟨0, [], if Box.nxt st q = 5 then [] else [⟨s, Box.nxt st q, 0, round⟩], im⟩ := by
  unfold askS
  dsimp only
  rw [show tk [] = true from rfl, do_one]
  have e : doP ⟨s, st, tr, ls⟩ q true 0 round = ⟨s, Box.nxt st q, 0, round⟩ := by
    unfold doP Box.step
    dsimp only
    rw [if_neg h, if_pos rfl]
    rfl
  rw [e]
  rfl
theorem cr_one {a : Int} : ({ (⟨0, [], [], []⟩ : St) with bx := insB [] s a } : St) = ⟨0, [], [⟨s, 1, 0, a⟩], []⟩ := rfl
theorem pull_one {n : ByteArray} {a z r : Int} : errM [⟨s, 1, 0, a⟩] s 1 = 0 ∧ pullW ⟨0, [], [⟨s, 1, 0, a⟩], []⟩ n = true ∧ Str.has (nms []) n = false ∧ pullS ⟨0, [], [⟨s, 1, 0, a⟩], []⟩ s n z r = ⟨0, [], [⟨s, 2, 0, r⟩], [⟨n, z, r⟩]⟩ := by
  refine ⟨by rw [err_one]; rfl, rfl, rfl, ?_⟩
  unfold pullS
  dsimp only
  rw [show pullW ⟨0, [], [⟨s, 1, 0, a⟩], []⟩ n = true from rfl, do_one]
  rfl
theorem drop_one {z r : Int} : dropS ⟨0, [], [], [⟨s, z, r⟩]⟩ s = ⟨0, [], [], []⟩ := by
  unfold dropS dropI
  dsimp only
  rw [show nms [⟨s, z, r⟩] = [s] from rfl, has_one, pos_one]
  rfl
end
/-- a runtime, and a row of ints of the caller's -/
structure Inv0 (W w : World) (g : Nat) (s : St) (A : Option Addr) (n c : Nat) (zs : List Int) : Prop where
  below : Below W.heap.size W w
  has : Has w (fun k => k < W.heap.size ∨ Ro.blk A = some k) w g s
  row : Ro.Row w 3 1 A n c (zs.map (Value.int .i64))
  fresh : ∀ k, Ro.blk A = some k → W.heap.size ≤ k
structure Inv (W w : World) (g : Nat) (s : St) (A : Option Addr) (n c : Nat) (zs : List Int) (bB : Nat) (x y : Int) : Prop where
  below : Below W.heap.size W w
  has : Has w (fun k => k < W.heap.size ∨ Ro.blk A = some k ∨ k = bB) w g s
  row : Ro.Row w 3 1 A n c (zs.map (Value.int .i64))
  box : Mem.Blk w bB 44 #[.int .i64 x, .int .i64 y]
  fresh : W.heap.size ≤ bB ∧ ∀ k, Ro.blk A = some k → W.heap.size ≤ k ∧ k ≠ bB
theorem has_self {wr w : World} {ks : Nat → Prop} {g : Nat} {s : St} (h : Has wr ks w g s) : Has w ks w g s :=
  h.rebase (Below.refl _ _) (fun k hk => ⟨by obtain ⟨_, _, ho, h3⟩ := h; have := (h3 k hk).1; have := ho.size; omega, .inl hk⟩)
/-- what ks names is turned: the runtime stays -/
theorem has_turn {wr w w' : World} {ks ks2 : Nat → Prop} {g : Nat} {s : St} (h : Has wr ks w g s) (ho : Ro.Only ks w w') (hk : ∀ k, ks2 k → k < w'.heap.size ∧ (ks k ∨ w.heap.size ≤ k)) : Has w' ks2 w' g s := by
  obtain ⟨S, h1, h2, h3⟩ := h
  refine ⟨fun k => S k ∧ k < w.heap.size, (h1.mono (T := fun k => S k ∧ k < w.heap.size) fun k hk c => ⟨c, hk⟩).keep (fun k hk c => ho.block k hk (fun d => (h3 k d).2 c.1)), Ro.Only.refl _ _, fun k hk2 => ⟨(hk k hk2).1, ?_⟩⟩
  rintro ⟨c, hlt⟩
  rcases (hk k hk2).2 with e | e
  · exact (h3 k e).2 c
  · omega
section
variable {W w w' : World} {g n c : Nat} {s s' : St} {A : Option Addr} {zs : List Int} {bB : Nat} {x y : Int}
theorem Inv0.run (h : Inv0 W w g s A n c zs) (h2 : Has w (fun k => k < W.heap.size ∨ Ro.blk A = some k) w' g s') : Inv0 W w' g s' A n c zs :=
  ⟨h.below.trans (h2.only.below h.below.size (fun _k hk c => c (.inl hk))), has_self h2, h.row.only h2.only (fun _k hk c => c (.inr hk)), h.fresh⟩
theorem Inv.run (h : Inv W w g s A n c zs bB x y) (h2 : Has w (fun k => k < W.heap.size ∨ Ro.blk A = some k ∨ k = bB) w' g s') : Inv W w' g s' A n c zs bB x y :=
  ⟨h.below.trans (h2.only.below h.below.size (fun _k hk c => c (.inl hk))), has_self h2, h.row.only h2.only (fun _k hk c => c (.inr (.inl hk))),
    (h2.only.block bB h.box.lt (fun c => c (.inr (.inr rfl)))).trans h.box, h.fresh⟩
theorem Inv0.start (hb : Below W.heap.size W w) (h : Has W (fun k => k < W.heap.size) w g s) (z : Int) : Inv0 W (w.alloc (.cells #[.int .i64 z] 3)) g s (some ⟨w.heap.size, 0, none⟩) 1 1 [z] where
  below := hb.alloc hb.size _
  has := h.rebase ((Below.refl _ _).alloc (Nat.le_refl _) _) (fun k hk => by
    have := hb.size
    rcases hk with hk | hk
    · exact ⟨by simp; omega, .inl hk⟩
    · have e : w.heap.size = k := by simpa [Ro.blk] using hk
      exact ⟨by simp; omega, .inr (by omega)⟩)
  row := Ro.Row.new (cs := #[.int .i64 z]) rfl (by decide)
  fresh := fun k hk => by
    have e : w.heap.size = k := by simpa [Ro.blk] using hk
    have := hb.size
    omega
theorem Inv0.box (h : Inv0 W w g s A n c zs) (x y : Int) : Inv W (w.alloc (.cells #[.int .i64 x, .int .i64 y] 44)) g s A n c zs w.heap.size x y where
  below := h.below.alloc h.below.size _
  has := h.has.rebase ((Below.refl _ _).alloc (Nat.le_refl _) _) (fun k hk => by
    have := h.below.size
    rcases hk with hk | hk | hk
    · exact ⟨by simp; omega, .inl (.inl hk)⟩
    · have := h.row.lt hk
      exact ⟨by simp; omega, .inl (.inr hk)⟩
    · exact ⟨by simp; omega, .inr (by omega)⟩)
  row := h.row.keep fun k hk => Below.heap_alloc w _ k (h.row.lt hk)
  box := Mem.Blk.new
  fresh := ⟨h.below.size, fun k hk => ⟨h.fresh k hk, by have := h.row.lt hk; omega⟩⟩
theorem Inv.store (h : Inv W w g s A n c zs bB x y) (x' y' : Int) : Inv W ((w.setCell ⟨bB, 0, none⟩ (.int .i64 x')).setCell ⟨bB, 1, none⟩ (.int .i64 y')) g s A n c zs bB x' y' := by
  have ho : Ro.Only (fun k => k = bB) w ((w.setCell ⟨bB, 0, none⟩ (.int .i64 x')).setCell ⟨bB, 1, none⟩ (.int .i64 y')) := (Ro.Only.setCell w ⟨bB, 0, none⟩ _).trans (Ro.Only.setCell _ ⟨bB, 1, none⟩ _) (fun k _ e => e)
  refine ⟨h.below.trans (ho.below h.below.size (fun k hk e => by have := h.fresh.1; omega)), ?_, h.row.only ho (fun k hk e => (h.fresh.2 k hk).2 e), (h.box.set_ 0 _).set_ 1 _, h.fresh⟩
  refine has_turn h.has (ho.mono fun k _ e => .inr (.inr e)) (fun k hk => ⟨?_, .inl hk⟩)
  have hs : k < w.heap.size := by
    obtain ⟨_, _, _, h3⟩ := h.has
    exact (h3 k hk).1
  simpa using hs
/-- one more -/
theorem Inv.app (h : Inv W w g s A n c zs bB x y) (z : Int) (hn : n ≤ 1000) (c2 : Nat) {N : Nat} (hN : w.heap.size = N) : ∃ A' c' w', (Builtin.append_ #[58, 58] 58 #[.slice A n c, .slice (some ⟨N, 0, none⟩) 1 c2]).run Try.prog (w.alloc (.cells #[.int .i64 z] 3)) = .ok (.slice A' (n + 1) c') w' ∧ Inv W w' g s A' (n + 1) c' (zs ++ [z]) bB x y := by
  subst hN
  obtain ⟨A', c', w', hr, hR, hO, hb⟩ := Ro.app (P := Try.prog) (ty := 58) (c2 := c2) eli (w := w.alloc (.cells #[.int .i64 z] 3)) (h.row.keep fun k hk => Below.heap_alloc w _ k (h.row.lt hk)) (Mem.new_sl (w := w) (cs := #[.int .i64 z]) rfl rfl rfl) (by simp [Value.oneCell']) (by unfold maxLen; omega) (by omega)
  refine ⟨A', c', w', hr, ?_⟩
  have hz := h.below.size
  have hlb := h.box.lt
  have O : Ro.Only (fun k => Ro.blk A = some k) w w' := (Ro.Only.of_below ((Below.refl _ _).alloc (Nat.le_refl _) _)).trans hO (fun k _ e => e)
  have hw' : w.heap.size + 1 ≤ w'.heap.size := by have := hO.size; simpa using this
  have fr : ∀ k, Ro.blk A' = some k → Ro.blk A = some k ∨ k = w.heap.size + 1 := by
    intro k hk
    rcases hb with hb | hb
    · rw [hb] at hk; exact .inl hk
    · rw [hb] at hk
      refine .inr ?_
      have : (w.alloc (.cells #[.int .i64 z] 3)).heap.size = k := by simpa using hk
      simpa using this.symm
  refine ⟨h.below.trans (O.below hz (fun k hk e => by have := (h.fresh.2 k e).1; omega)), ?_, by simpa using hR, (O.block bB hlb (fun e => (h.fresh.2 bB e).2 rfl)).trans h.box, h.fresh.1, ?_⟩
  · refine has_turn h.has (O.mono fun k _ e => .inr (.inl e)) (fun k hk => ?_)
    rcases hk with hk | hk | hk
    · exact ⟨by omega, .inl (.inl hk)⟩
    · refine ⟨hR.lt hk, ?_⟩
      rcases fr k hk with e | e
      · exact .inl (.inr (.inl e))
      · exact .inr (by omega)
    · exact ⟨by omega, .inl (.inr (.inr hk))⟩
  · intro k hk
    rcases fr k hk with e | e
    · exact h.fresh.2 k e
    · exact ⟨by omega, by omega⟩
end
theorem good_c {id : ByteArray} {r : Int} {im : List ImgV} (st : Int) (h0 : 0 ≤ st) (h6 : st ≤ 6) (hi : im.length ≤ 1) : Wo.Good ⟨0, [], [⟨id, st, 0, r⟩], im⟩ := good_one ⟨h0, h6, by show (0 : Int) ≤ 0; decide, by show (0 : Int) ≤ 9223372036854775807; decide⟩ (by show 0 ≤ 4096; decide) hi
theorem good_i {q : ImgV} : Wo.Good ⟨0, [], [], [q]⟩ := ⟨List.Pairwise.nil, List.pairwise_singleton _ _, (fun p hp => by cases hp), Nat.zero_le _, (by show 1 ≤ 100000; decide), (by show 0 ≤ 4096; decide)⟩
set_option maxRecDepth 100000 in
set_option maxHeartbeats 4000000 in
theorem core (id name : ByteArray) (z y : Int) (w : World) (_hi : id.size ≤ maxLen) (_hn : name.size ≤ maxLen) (hz0 : 0 ≤ z) (hz1 : z ≤ 4294967295) (hy0 : 0 ≤ y) (hy1 : y ≤ 4294967295) :
    Calls Try.prog 7 #[.string id, .string name, .int .u32 z, .int .u32 y] w fun e w' => e = .returned (.bool true) ∧ Below w.heap.size w w' := by
  go_enter Try.func7, Try.ntmps7
  go_wp2_with fail
  refine (wawake_c _).mono ?_
  rintro e w1 ⟨rfl, hb1⟩
  go_wp2_with fail
  · refine (wawake_c _).mono ?_
    rintro e w2 ⟨rfl, hb2⟩
    go_wp2_with fail
    go_ret
    exact ⟨rfl, hb1.trans (hb2.mono hb1.size)⟩
  · refine (wnew_c 0 _).mono ?_
    rintro e w2 ⟨rfl, hat, hb2⟩
    have L2 := hb1.trans (hb2.mono hb1.size)
    have H := Has.start (ks := fun k => k < w.heap.size) L2 (fun k hk => hk) hat (fun k hk => by have := hb1.size; omega)
    have I3 := Lib.hid (Inv0.start L2 H 1)
    generalize w1.heap.size = g at *
    clear hat hb1 hb2 L2 H
    go_wp2_with fail
    generalize w2.alloc (.cells #[.int .i64 1] 3) = w3 at *
    generalize w2.heap.size = bA at *
    generalize (some (⟨bA, 0, none⟩ : Addr)) = A0 at *
    refine (createH I3.out.has (good_nil (by decide))).mono ?_
    rintro e w4 ⟨-, hq⟩
    obtain ⟨rfl, hp⟩ := hq rfl
    have I4 := Lib.hid (I3.out.run (hp.to (cr_one (s := id) (a := y))))
    clear I3 hq hp
    go_wp2_with fail
    refine (pullH I4.out.has (good_c 1 (by decide) (by decide) (by show 0 ≤ 1; decide))).mono ?_
    rintro e w5 ⟨-, hq⟩
    obtain ⟨p1, p2, p3, p4⟩ := pull_one (s := id) (n := name) (a := y) (z := z) (r := y + 1)
    obtain ⟨rfl, hp⟩ := hq p1
    rw [p2, p3]
    have I5 := Lib.hid (I4.out.run (hp.to p4))
    clear I4 hq hp p1 p2 p3 p4
    go_wp2_with fail
    refine (boxH I5.out.has (good_c 2 (by decide) (by decide) (by show 1 ≤ 1; decide))).mono ?_
    rintro e w6 ⟨rfl, -, hp⟩
    rw [box_one, show Str.has (ids [⟨id, 2, 0, y + 1⟩]) id = true from has_one id]
    dsimp only
    have I6 := Lib.hid ((I5.out.run hp).box 2 0)
    clear I5 hp
    have x0 : (w6.alloc (.cells #[.int .i64 2, .int .i64 0] 44)).cell? ⟨w6.heap.size, 0, none⟩ = some (.int .i64 2) := I6.out.box.cell 0
    obtain ⟨A7, c7, w7, hr, hI7⟩ := I6.out.app (N := w6.heap.size + 1) 2 (by omega) 1 (by simp)
    have I7 := Lib.hid hI7
    clear I6 hI7
    go_wp2_with (at_builtin; refine Ro.wpList_app rfl _ _ _ _ rfl _ _ rfl rfl hr ?_; clear hr x0)
    generalize w6.heap.size = bB at *
    refine (askH (q := 2) I7.out.has (good_c 2 (by decide) (by decide) (by show 1 ≤ 1; decide)) (by decide)).mono ?_
    rintro e w8 ⟨-, hq⟩
    obtain ⟨rfl, hp⟩ := hq (ask_one (by decide) (by decide))
    have I8 := Lib.hid (I7.out.run (hp.to (show _ = (⟨0, [], [⟨id, 3, 0, y + 2⟩], [⟨name, z, y + 1⟩]⟩ : St) from askS_one (by decide))))
    clear I7 hq hp
    go_wp2_with fail
    refine (boxH I8.out.has (good_c 3 (by decide) (by decide) (by show 1 ≤ 1; decide))).mono ?_
    rintro e w9 ⟨rfl, -, hp⟩
    rw [box_one, show Str.has (ids [⟨id, 3, 0, y + 2⟩]) id = true from has_one id]
    dsimp only
    have I9 := I8.out.run hp
    have x0 : w9.cell? ⟨bB, 0, none⟩ = some (.int .i64 2) := I9.box.cell 0
    have x1 : w9.cell? ⟨bB, 1, none⟩ = some (.int .i64 0) := I9.box.cell 1
    have kf := I9.box.frozen
    obtain ⟨A10, c10, w10, hr, hI10⟩ := (I9.store 3 0).app (N := w9.heap.size) 3 (by omega) 1 (by simp)
    have I10 := Lib.hid hI10
    clear I8 I9 hp hI10
    go_wp2_with (at_builtin; refine Ro.wpList_app rfl _ _ _ _ rfl _ _ rfl rfl hr ?_; clear hr x0 x1 kf)
    refine (askH (q := 3) I10.out.has (good_c 3 (by decide) (by decide) (by show 1 ≤ 1; decide)) (by decide)).mono ?_
    rintro e w11 ⟨-, hq⟩
    obtain ⟨rfl, hp⟩ := hq (ask_one (by decide) (by decide))
    have I11 := Lib.hid (I10.out.run (hp.to (show _ = (⟨0, [], [⟨id, 4, 0, y + 3⟩], [⟨name, z, y + 1⟩]⟩ : St) from askS_one (by decide))))
    clear I10 hq hp
    go_wp2_with fail
    refine (boxH I11.out.has (good_c 4 (by decide) (by decide) (by show 1 ≤ 1; decide))).mono ?_
    rintro e w12 ⟨rfl, -, hp⟩
    rw [box_one, show Str.has (ids [⟨id, 4, 0, y + 3⟩]) id = true from has_one id]
    dsimp only
    have I12 := I11.out.run hp
    have x0 : w12.cell? ⟨bB, 0, none⟩ = some (.int .i64 3) := I12.box.cell 0
    have x1 : w12.cell? ⟨bB, 1, none⟩ = some (.int .i64 0) := I12.box.cell 1
    have kf := I12.box.frozen
    obtain ⟨A13, c13, w13, hr, hI13⟩ := (I12.store 4 0).app (N := w12.heap.size) 4 (by omega) 1 (by simp)
    have I13 := Lib.hid hI13
    clear I11 I12 hp hI13
    go_wp2_with (at_builtin; refine Ro.wpList_app rfl _ _ _ _ rfl _ _ rfl rfl hr ?_; clear hr x0 x1 kf)
    obtain ⟨ad, rfl, _, hc⟩ := I13.out.row.sl.2 (by decide)
    have hall : ∀ i : Nat, i < 4 → w13.cell? (ad.add i) = some (.int .i64 ((i : Int) + 1)) := by
      intro i hi4
      rw [hc i (by simpa using hi4)]
      match i, hi4 with
      | 0, _ => rfl
      | 1, _ => rfl
      | 2, _ => rfl
      | 3, _ => rfl
    clear hc
    go_loop [17] (fun vi => ∃ i : Nat, i ≤ 4 ∧ vi = .int .i64 i) (fun i => 4 - (intOf i).toNat)
    case atStart => exact ⟨0, by omega, rfl⟩
    case round =>
      obtain ⟨i, hi4, rfl⟩ := hrel
      by_cases hlt : i < 4
      · have hcell := hall i hlt
        clear hall
        go_wp2_with fail
        go_round
        case rel => exact ⟨i + 1, by omega, by go_num⟩
        case measure => simp [intOf]; omega
      · obtain rfl : i = 4 := by omega
        clear hall hlt hi4
        go_wp2_with fail
        refine (askH (q := 4) I13.out.has (good_c 4 (by decide) (by decide) (by show 1 ≤ 1; decide)) (by decide)).mono ?_
        rintro e w14 ⟨-, hq⟩
        obtain ⟨rfl, hp⟩ := hq (ask_one (by decide) (by decide))
        have HB := Lib.hid (I13.out.below)
        have H14 := Lib.hid (hp.to (show _ = (⟨0, [], [], [⟨name, z, y + 1⟩]⟩ : St) from askS_one (by decide)))
        clear I13 hq hp
        go_wp2_with fail
        refine (boxH H14.out good_i).mono ?_
        rintro e w15 ⟨rfl, -, hp⟩
        rw [show boxOf [] id = (0, 0) from rfl, show Str.has (ids []) id = false from rfl]
        dsimp only
        have H15 := Lib.hid (hp.below ((Below.refl _ _).alloc (Nat.le_refl _) (.cells #[.int .i64 0, .int .i64 0] 44)))
        clear H14 hp
        go_wp2_with fail
        refine (imagesH H15.out good_i).mono ?_
        rintro e w16 ⟨⟨A', c', rfl, hI, -, -⟩, hp⟩
        have H16 := Lib.hid hp
        clear H15 hp
        dsimp only
        rw [show [(⟨name, z, y + 1⟩ : ImgV)].length = 1 from rfl]
        obtain ⟨ad2, _, rfl, hlt2, _, hat⟩ := ImgV.at_ hI.sl (k := 0) (by show 0 < 1; decide)
        rw [show ad2.add (0 * 3) = ad2 from by simp [Addr.add]] at hat
        have Hat := Lib.hid (show ImgV.At w16 ad2 ⟨name, z, y + 1⟩ from hat)
        have Hlt := Lib.hid hlt2
        clear hat hI hlt2
        go_wp2_with fail
        refine (containersH H16.out good_i).mono ?_
        rintro e w17 ⟨⟨A2, c2, rfl, -, hb17, -⟩, hp⟩
        have H17 := Lib.hid hp
        have hat := Hat.out.below hb17 Hlt.out
        have i0 : w17.cell? ad2 = some (.string name) := hat.c0
        have i1 : w17.cell? { block := ad2.block, off := ad2.off + 1 } = some (.int .i64 z) := hat.c1
        have i2 : w17.cell? { block := ad2.block, off := ad2.off + 2 } = some (.int .i64 (y + 1)) := hat.c2
        have eI : ∀ w, (binOp .neq 54 (.agg #[.string name, .int .i64 z, .int .i64 (y + 1)]) (.agg #[.string name, .int .i64 z, .int .i64 (y + 1)])).run Try.prog w = .ok (.bool false) w := fun w => (neq_img w ⟨name, z, y + 1⟩ ⟨name, z, y + 1⟩).trans (by rw [sameI_self]; rfl)
        clear H16 hp hat hb17 Hat Hlt
        dsimp only
        rw [show ([] : List ConV).length = 0 from rfl]
        go_wp2_with fail
        refine (dropH H17.out good_i).mono ?_
        rintro e w18 ⟨-, hq⟩
        obtain ⟨rfl, hp⟩ := hq (has_one name)
        have H18 := Lib.hid (hp.to drop_one)
        clear H17 hq hp i0 i1 i2 eI
        go_wp2_with fail
        refine (dropH H18.out (good_nil (by decide))).mono ?_
        rintro e w19 ⟨hq, -⟩
        obtain ⟨rfl, hp⟩ := hq rfl
        have H19 := Lib.hid hp
        clear H18 hq hp
        go_wp2_with fail
        refine (imagesH H19.out (good_nil (by decide))).mono ?_
        rintro e w20 ⟨⟨A', c', rfl, -, -, -⟩, hp⟩
        have H20 := Lib.hid hp
        clear H19 hp
        dsimp only
        rw [show ([] : List ImgV).length = 0 from rfl]
        go_wp2_with fail
        go_ret
        exact ⟨rfl, HB.out.trans (H20.out.only.below HB.out.size (fun k hk hn => hn (.inl hk)))⟩
  · refine (wawake_c _).mono ?_
    rintro e w2 ⟨rfl, hb2⟩
    go_wp2_with fail
    go_ret
    exact ⟨rfl, hb1.trans (hb2.mono hb1.size)⟩
theorem arg_string {P : Program} {W : World} {t : TypeId} {v : Value} (h : Frame.Arg P W t v) (ht : P.underlying t = some .string) : ∃ s : ByteArray, v = .string s ∧ s.size ≤ maxLen := by
  obtain ⟨s, hs, hsz⟩ := h.dat.string ht
  obtain ⟨H, enc, base, d, p, hv, _⟩ := h
  obtain ⟨s', rfl⟩ := Go.WideShapes.okWide_string ht hv
  have e : s' = s := by simpa [Value.cells] using hs
  exact ⟨s', rfl, by rw [e]; exact hsz⟩
theorem walk (v1 v2 v3 v4 : Value) (w : World) (h1 : Frame.Arg Try.prog w 9 v1) (h2 : Frame.Arg Try.prog w 9 v2) (h3 : Frame.Arg Try.prog w 57 v3) (h4 : Frame.Arg Try.prog w 57 v4) :
    Calls Try.prog 7 #[v1, v2, v3, v4] w fun e w' => e = .returned (.bool true) ∧ Below w.heap.size w w' := by
  obtain ⟨z, rfl, hz⟩ := h3.int Try.underlying57
  obtain ⟨y, rfl, hy⟩ := h4.int Try.underlying57
  obtain ⟨id, rfl, hi⟩ := arg_string h1 Try.underlying9
  obtain ⟨name, rfl, hn⟩ := arg_string h2 Try.underlying9
  exact core id name z y w hi hn (Frame.bd_u32 hz).1 (Frame.bd_u32 hz).2 (Frame.bd_u32 hy).1 (Frame.bd_u32 hy).2
end Go.Proofs.Ythccojfflmfggaa.worldLife
/- The acts of layer 16 (world): what the document answers, what the program answers; a runtime and the document's value, side by side. -/
namespace Go.Proofs.Ythccojfflmfggaa
open Go.RowKit
open worldLife (has_self has_turn)
namespace Wo
/-- the act of an argument -/
def acOf (p : ActV) : Ac := ⟨p.d, p.well, p.id, p.what, p.name, p.size, p.round, p.used⟩
def feedE (s : St) (a : Ac) : Int := if 4096 < s.outs.length + a.well.length then 6 else 0
def crE (s : St) (a : Ac) : Int := if Str.has (ids s.bx) a.id then 5 else 0
def askB (s : St) (a : Ac) : Bool := if askE s a.id a.what = 0 then tk s.outs else false
def pullB (s : St) (a : Ac) : Bool := if errM s.bx a.id 1 = 0 then pullW s a.name else false
def pullC (s : St) (a : Ac) : Bool := if errM s.bx a.id 1 = 0 then (pullW s a.name && !Str.has (nms s.im) a.name) else false
def dropB (s : St) (a : Ac) : Bool := if Str.has (nms s.im) a.name then tk s.outs else false
def dropE (s : St) (a : Ac) : Int := if Str.has (nms s.im) a.name then 0 else 4
section
variable {w : World} {T ks : Nat → Prop} {v : Value} {s : St} {k g : Nat} {a : Ac} {wr : World}
theorem NewV.same {f : Value → Ending} {e : Ending} {w' : World} (h : RV w T v s) (he : e = f v) (hb : Below w.heap.size w w') : NewV w T s f e w' :=
  ⟨v, he, (h.below hb).mono fun _ _ c => .inl c, hb⟩
theorem NewV.to {s' : St} {f f' : Value → Ending} {e : Ending} {w' : World} (h : NewV w T s f e w') (hs : s = s') (hf : ∀ v, f v = f' v) : NewV w T s' f' e w' := by
  obtain ⟨v, he, h1, h2⟩ := h
  subst hs
  exact ⟨v, he.trans (hf v), h1, h2⟩
theorem docFeed {A2 : Option Addr} {m d : Nat} (h : RV w T v s) (hs : Fine k s) (h2 : Mem.Sl w w.heap.size 1 A2 m (a.well.map Value.bool)) (hm : m ≤ 10000) (hd : a.d = 0) :
    Calls Try.prog 40 #[v, .slice A2 m d] w (NewV w T (actS s a) fun v' => .returned (.tuple #[v', .int .i64 (feedE s a)])) := by
  have hl : a.well.length = m := by have := h2.1; simpa using this
  refine (rfeedV h hs.good.no h2 hm).mono ?_
  rintro e w' ⟨p1, p2⟩
  unfold feedE
  rw [hl]
  by_cases c : 4096 < s.outs.length + m
  · rw [if_pos c, act_full hd (by omega)]
    exact .same h (p1 c).1 (p1 c).2
  · rw [if_neg c, act_feed hd (by omega)]
    exact p2 (by omega)
theorem proFeed {A2 : Option Addr} {m d : Nat} (h : Has wr ks w g s) (hs : Fine k s) (h2 : Mem.Sl w w.heap.size 1 A2 m (a.well.map Value.bool)) (hm : m ≤ 10000) (hd : a.d = 0) :
    Calls Try.prog 13 #[.pointer (some ⟨g, 0, none⟩), .slice A2 m d] w fun e w' => e = .returned (.int .i64 (feedE s a)) ∧ Has wr ks w' g (actS s a) := by
  have hl : a.well.length = m := by have := h2.1; simpa using this
  refine (feedH (c := d) h h2 (by omega) hs.good.no).mono ?_
  rintro e w' ⟨p1, p2⟩
  unfold feedE
  rw [hl]
  by_cases c : 4096 < s.outs.length + m
  · rw [if_pos c, act_full hd (by omega)]
    exact p1 c
  · rw [if_neg c, act_feed hd (by omega)]
    exact p2 (by omega)
theorem docCreate (h : RV w T v s) (hs : Fine k s) (hk : k ≤ 999) (hd : a.d = 1) :
    Calls Try.prog 41 #[v, .string a.id, .int .i64 a.round] w (NewV w T (actS s a) fun v' => .returned (.tuple #[v', .int .i64 (crE s a)])) := by
  refine (rcreateV h hs (by omega)).mono ?_
  rintro e w' ⟨p1, p2⟩
  unfold crE
  cases c : Str.has (ids s.bx) a.id
  · rw [if_neg (by decide), act_create hd c]
    exact p2 c
  · rw [if_pos rfl, act_twice hd c]
    exact .same h (p1 c).1 (p1 c).2
theorem proCreate (h : Has wr ks w g s) (hs : Fine k s) (hd : a.d = 1) :
    Calls Try.prog 14 #[.pointer (some ⟨g, 0, none⟩), .string a.id, .int .i64 a.round] w fun e w' => e = .returned (.int .i64 (crE s a)) ∧ Has wr ks w' g (actS s a) := by
  refine (createH h hs.good).mono ?_
  rintro e w' ⟨p1, p2⟩
  unfold crE
  cases c : Str.has (ids s.bx) a.id
  · rw [if_neg (by decide), act_create hd c]
    exact p2 c
  · rw [if_pos rfl, act_twice hd c]
    exact p1 c
theorem docAsk (h : RV w T v s) (hs : Fine k s) (hk : k ≤ 999) (hd : a.d = 2) :
    Calls Try.prog 42 #[v, .string a.id, .int .i64 a.what, .int .i64 a.round] w (NewV w T (actS s a) fun v' => .returned (.tuple #[.bool (askB s a), v', .int .i64 (askE s a.id a.what)])) := by
  refine (raskV h hs (by omega)).mono ?_
  rintro e w' ⟨p1, p2⟩
  unfold askB
  by_cases c : askE s a.id a.what = 0
  · rw [if_pos c, act_ask hd c, c]
    exact p2 c
  · rw [if_neg c, act_noask hd c]
    exact .same h (p1 c).1 (p1 c).2
theorem proAsk (h : Has wr ks w g s) (hs : Fine k s) (hq : (Lit.int .i64 a.what).wf = true) (hd : a.d = 2) :
    Calls Try.prog 18 #[.pointer (some ⟨g, 0, none⟩), .string a.id, .int .i64 a.what, .int .i64 a.round] w fun e w' => e = .returned (.tuple #[.bool (askB s a), .int .i64 (askE s a.id a.what)]) ∧ Has wr ks w' g (actS s a) := by
  refine (askH h hs.good hq).mono ?_
  rintro e w' ⟨p1, p2⟩
  unfold askB
  by_cases c : askE s a.id a.what = 0
  · rw [if_pos c, act_ask hd c, c]
    exact p2 c
  · rw [if_neg c, act_noask hd c]
    exact p1 c
theorem docPull (h : RV w T v s) (hs : Fine k s) (hk : k ≤ 999) (hd : a.d = 3) :
    Calls Try.prog 43 #[v, .string a.id, .string a.name, .int .i64 a.size, .int .i64 a.round] w (NewV w T (actS s a) fun v' => .returned (.tuple #[.bool (pullB s a), .bool (pullC s a), v', .int .i64 (errM s.bx a.id 1)])) := by
  refine (rpullV h hs hk).mono ?_
  rintro e w' ⟨p1, p2⟩
  unfold pullB pullC
  by_cases c : errM s.bx a.id 1 = 0
  · rw [if_pos c, if_pos c, act_pull hd c, c]
    exact p2 c
  · rw [if_neg c, if_neg c, act_nopull hd c]
    exact .same h (p1 c).1 (p1 c).2
theorem proPull (h : Has wr ks w g s) (hs : Fine k s) (hd : a.d = 3) :
    Calls Try.prog 15 #[.pointer (some ⟨g, 0, none⟩), .string a.id, .string a.name, .int .i64 a.size, .int .i64 a.round] w fun e w' => e = .returned (.tuple #[.bool (pullB s a), .bool (pullC s a), .int .i64 (errM s.bx a.id 1)]) ∧ Has wr ks w' g (actS s a) := by
  refine (pullH h hs.good).mono ?_
  rintro e w' ⟨p1, p2⟩
  unfold pullB pullC
  by_cases c : errM s.bx a.id 1 = 0
  · rw [if_pos c, if_pos c, act_pull hd c, c]
    exact p2 c
  · rw [if_neg c, if_neg c, act_nopull hd c]
    exact p1 c
theorem docDrop (h : RV w T v s) (hs : Fine k s) (hk : k ≤ 999) (hd : a.d = 4) :
    Calls Try.prog 44 #[v, .string a.name] w (NewV w T (actS s a) fun v' => .returned (.tuple #[.bool (dropB s a), v', .int .i64 (dropE s a)])) := by
  refine (rwdropV h hs (by omega)).mono ?_
  rintro e w' ⟨p1, p2⟩
  unfold dropB dropE
  cases c : Str.has (nms s.im) a.name
  · rw [if_neg (by decide), if_neg (by decide), act_nodrop hd c]
    exact .same h (p1 c).1 (p1 c).2
  · rw [if_pos rfl, if_pos rfl, act_drop hd c]
    exact p2 c
theorem proDrop (h : Has wr ks w g s) (hs : Fine k s) (hd : a.d = 4) :
    Calls Try.prog 22 #[.pointer (some ⟨g, 0, none⟩), .string a.name] w fun e w' => e = .returned (.tuple #[.bool (dropB s a), .int .i64 (dropE s a)]) ∧ Has wr ks w' g (actS s a) := by
  refine (dropH h hs.good).mono ?_
  rintro e w' ⟨p1, p2⟩
  unfold dropB dropE
  cases c : Str.has (nms s.im) a.name
  · rw [if_neg (by decide), if_neg (by decide), act_nodrop hd c]
    exact p1 c
  · rw [if_pos rfl, if_pos rfl, act_drop hd c]
    exact p2 c
/-- is it a touch? -/
def isTouch (a : Ac) : Prop := a.d ≠ 0 ∧ a.d ≠ 1 ∧ a.d ≠ 2 ∧ a.d ≠ 3 ∧ a.d ≠ 4
theorem docTouch {A2 : Option Addr} {m d : Nat} (h : RV w T v s) (hs : Fine k s) (hk : k ≤ 999) (h2 : Strs w w.heap.size A2 m a.used) (hm : m ≤ 10000) (hd : isTouch a) :
    Calls Try.prog 46 #[v, .slice A2 m d, .int .i64 a.round] w (NewV w T (actS s a) fun v' => .returned v') := by
  rw [act_touch hd.1 hd.2.1 hd.2.2.1 hd.2.2.2.1 hd.2.2.2.2]
  exact rtouchV h hs (by omega) h2 hm
theorem proTouch {A2 : Option Addr} {m d : Nat} (h : Has wr ks w g s) (hs : Fine k s) (h2 : Strs w w.heap.size A2 m a.used) (hm : m ≤ 10000) (hd : isTouch a) :
    Calls Try.prog 45 #[.pointer (some ⟨g, 0, none⟩), .slice A2 m d, .int .i64 a.round] w fun e w' => e = .returned (.tuple #[]) ∧ Has wr ks w' g (actS s a) := by
  rw [act_touch hd.1 hd.2.1 hd.2.2.1 hd.2.2.2.1 hd.2.2.2.2]
  exact touchH h hs.good h2 hm
end
/-- a runtime, and the document's value of it, in blocks that are named -/
structure Two (w : World) (ks T : Nat → Prop) (g : Nat) (s : St) (v : Value) : Prop where
  has : Has w ks w g s
  rv : RV w T v s
  sub : ∀ k, T k → ks k
theorem Two.lt {w : World} {ks T : Nat → Prop} {g : Nat} {s : St} {v : Value} (h : Two w ks T g s v) : ∀ k, ks k → k < w.heap.size := by
  obtain ⟨⟨_, _, _, h3⟩, _⟩ := h
  exact fun k hk => (h3 k hk).1
/-- behind a call that goes on with both -/
def Fin (w : World) (ks T : Nat → Prop) (g : Nat) (s : St) (v : Value) (w' : World) : Prop := ∃ ks' T', Two w' ks' T' g s v ∧ (∀ k, ks k → ks' k) ∧ (∀ k, T' k → T k ∨ w.heap.size ≤ k) ∧ Ro.Only (fun k => ¬ ks k) w w'
theorem Fin.of {wr w w2 w3 : World} {ks T K2 T2 : Nat → Prop} {g b2 : Nat} {s : St} {v : Value} (hH : Has wr K2 w2 g s) (hV : RV w2 T2 v s) (hT : ∀ k, k < w2.heap.size → T2 k → K2 k ∧ k ≠ b2 ∧ (T k ∨ w.heap.size ≤ k)) (hb2 : K2 b2 ∧ ¬ ks b2) (hks : ∀ k, ks k → K2 k)
    (hO : Ro.Only (fun k => ¬ ks k) w w2) (hbw : w.heap.size ≤ b2) (ho : Ro.Only (fun k => k = b2) w2 w3) : Fin w ks T g s v w3 := by
  have hlt : ∀ k, K2 k → k < w2.heap.size := by
    obtain ⟨_, _, h2, h3⟩ := hH
    exact fun k hk => Nat.lt_of_lt_of_le (h3 k hk).1 h2.size
  exact ⟨fun k => K2 k ∧ k ≠ b2, fun k => K2 k ∧ k ≠ b2 ∧ (T k ∨ w.heap.size ≤ k), ⟨has_turn hH (ho.mono fun k _ e => by rw [e]; exact hb2.1) (fun k hk => ⟨Nat.lt_of_lt_of_le (hlt k hk.1) ho.size, .inl hk.1⟩), (hV.mono hT).own ho fun k _ ht e => ht.2.1 e, fun k hk => ⟨hk.1, hk.2.1⟩⟩, fun k hk => ⟨hks k hk, fun e => hb2.2 (by rw [← e]; exact hk)⟩, fun k hk => hk.2.2, hO.trans ho (fun k hk e => by omega)⟩
end Wo
end Go.Proofs.Ythccojfflmfggaa
