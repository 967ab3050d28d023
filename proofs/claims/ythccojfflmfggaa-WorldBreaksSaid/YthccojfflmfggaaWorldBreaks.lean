/- WorldBreaks: the walk. -/
import Derived.Test.YthccojfflmfggaaWorldFull
namespace Go.Proofs.Ythccojfflmfggaa.worldBreaks
open Go.RowKit Wo
theorem pos_p : Str.pos [tP] tP = 0 := by kernel_rfl
theorem has_p : Str.has [tP] tP = true := by kernel_rfl
theorem the_p (st tr ls : Int) : the [⟨tP, st, tr, ls⟩] tP = some ⟨tP, st, tr, ls⟩ := by
  unfold the
  rw [show ids [⟨tP, st, tr, ls⟩] = [tP] from rfl, pos_p, has_p]
  rfl
theorem err_p (st tr ls q : Int) : errM [⟨tP, st, tr, ls⟩] tP q = if Box.nxt st q = 0 then 7 else 0 := by
  unfold errM
  rw [the_p]
theorem box_p (st tr ls : Int) : boxOf [⟨tP, st, tr, ls⟩] tP = (st, tr) := by
  unfold boxOf
  rw [the_p]
theorem do_p (st tr ls q : Int) (well : Bool) (rt round : Int) : doB [⟨tP, st, tr, ls⟩] (Str.pos (ids [⟨tP, st, tr, ls⟩]) tP) q well rt round = if (doP ⟨tP, st, tr, ls⟩ q well rt round).st = 5 then [] else [doP ⟨tP, st, tr, ls⟩ q well rt round] := by
  rw [show ids [⟨tP, st, tr, ls⟩] = [tP] from rfl, pos_p]
  rfl
def sB (r f i : Nat) : St := ⟨r, List.replicate (f - i) false, [⟨tP, if r < i then 6 else 3, i, 3⟩], [⟨tW, 1, 2⟩]⟩
theorem good_b {r f i : Nat} (hf : f ≤ 100) (hi : i ≤ 100) : Wo.Good (sB r f i) :=
  good_one ⟨by dsimp only; split <;> decide, by dsimp only; split <;> decide, by dsimp only; omega, by dsimp only; omega⟩ (by simp; omega) (by decide)
theorem ask_b {r f i : Nat} (hf : i < f) (hr : i ≤ r) : askE (sB r f i) tP 3 = 0 ∧ tk (sB r f i).outs = false := by
  obtain ⟨k, hk⟩ : ∃ k, f - i = k + 1 := ⟨f - i - 1, by omega⟩
  unfold askE sB
  dsimp only
  rw [if_neg (show ¬ r < i by omega), err_p, hk]
  exact ⟨rfl, rfl⟩
theorem next_b {r f i : Nat} (hf : i < f) (hr : i ≤ r) (hi : i ≤ 100) : askS (sB r f i) tP 3 4 = sB r f (i + 1) := by
  have ht := (ask_b hf hr).2
  have ha : Sat.add (i : Int) 1 = (i + 1 : Nat) := by unfold Sat.add Sat.cut Sat.num; (repeat' split) <;> omega
  unfold askS
  rw [ht]
  unfold sB
  dsimp only
  rw [if_neg (show ¬ r < i by omega), do_p]
  have e1 : (List.replicate (f - i) false).tail = List.replicate (f - (i + 1)) false := by rw [List.tail_replicate]; congr 1
  have e2 : doP ⟨tP, 3, i, 3⟩ 3 false r 4 = ⟨tP, if r < i + 1 then 6 else 3, (i + 1 : Nat), 3⟩ := by
    have e : Box.step (3, (i : Int)) 3 false r = (if r < i + 1 then 6 else 3, ((i + 1 : Nat) : Int)) := by
      unfold Box.step
      rw [if_neg (show ¬ Box.nxt (3, (i : Int)).1 3 = 0 by show ¬ Box.nxt 3 3 = 0; decide), if_neg (by decide)]
      dsimp only
      rw [ha]
      by_cases h : r < i + 1
      · rw [if_pos h, if_pos (by omega)]
      · rw [if_neg h, if_neg (by omega)]
    unfold doP
    dsimp only
    rw [e]
    rfl
  rw [e1, e2, if_neg (by dsimp only; split <;> decide)]
theorem c1 (r : Int) : ({ (⟨r, [], [], []⟩ : St) with bx := insB [] tP 1 } : St) = ⟨r, [], [⟨tP, 1, 0, 1⟩], []⟩ := by kernel_rfl
theorem p1 (r : Int) : pullS ⟨r, [], [⟨tP, 1, 0, 1⟩], []⟩ tP tW 1 2 = ⟨r, [], [⟨tP, 2, 0, 2⟩], [⟨tW, 1, 2⟩]⟩ := by kernel_rfl
theorem q1 (r : Int) : askS ⟨r, [], [⟨tP, 2, 0, 2⟩], [⟨tW, 1, 2⟩]⟩ tP 2 3 = ⟨r, [], [⟨tP, 3, 0, 3⟩], [⟨tW, 1, 2⟩]⟩ := by kernel_rfl
theorem q2 (r t : Int) : askS ⟨r, [], [⟨tP, 3, t, 3⟩], [⟨tW, 1, 2⟩]⟩ tP 3 5 = ⟨r, [], [⟨tP, 4, 0, 5⟩], [⟨tW, 1, 2⟩]⟩ := by kernel_rfl
set_option maxRecDepth 100000 in
set_option maxHeartbeats 4000000 in
theorem core (z y : Int) (w : World) (hz0 : 0 ≤ z) (hz1 : z ≤ 255) (hy0 : 0 ≤ y) (hy1 : y ≤ 255) :
    Calls Try.prog 4 #[.int .u8 z, .int .u8 y] w fun e w' => e = .returned (.bool true) ∧ Below w.heap.size w w' := by
  go_enter Try.func4, Try.ntmps4
  go_wp2_with fail
  refine (wawake_c _).mono ?_
  rintro e w1 ⟨rfl, hb1⟩
  have q1 : z % 30 ≤ 29 ∧ 0 ≤ z % 30 := by omega
  have q2 : y % 40 ≤ 39 ∧ 0 ≤ y % 40 := by omega
  go_wp2_with fail
  generalize z % 30 = zz at *
  generalize y % 40 = yy at *
  obtain ⟨r, rfl⟩ : ∃ k : Nat, zz = k := ⟨zz.toNat, by omega⟩
  obtain ⟨f, rfl⟩ : ∃ k : Nat, yy = k := ⟨yy.toNat, by omega⟩
  have hr : r ≤ 29 := by omega
  have hf : f ≤ 39 := by omega
  clear q1 q2 hz0 hz1 hy0 hy1
  refine (wnew_c r _).mono ?_
  rintro e w2 ⟨rfl, hat, hb2⟩
  have H := Lib.hid (Has.start (ks := fun k => k < w.heap.size) (hb1.trans (hb2.mono hb1.size)) (fun k hk => hk) hat (fun k hk => by have := hb1.size; omega))
  generalize w1.heap.size = g at *
  clear hat hb1 hb2
  go_wp2_with fail
  refine (createH H.out (good_nil (by decide))).mono ?_
  rintro e w3 ⟨-, hq⟩
  obtain ⟨rfl, hp⟩ := hq (by kernel_rfl)
  have H3 := Lib.hid (hp.to (c1 r))
  clear H hq hp
  go_wp2_with fail
  refine (pullH H3.out (good_one ⟨by decide, by decide, by decide, by decide⟩ (by decide) (by decide))).mono ?_
  rintro e w4 ⟨-, hq⟩
  obtain ⟨rfl, hp⟩ := hq (by kernel_rfl)
  have H4 := Lib.hid (hp.to (p1 r))
  clear H3 hq hp
  go_wp2_with fail
  refine (askH H4.out (good_one ⟨by decide, by decide, by decide, by decide⟩ (by decide) (by decide)) (by decide)).mono ?_
  rintro e w5 ⟨-, hq⟩
  obtain ⟨rfl, hp⟩ := hq (by kernel_rfl)
  have H5 := Lib.hid (hp.to (q1 r))
  clear H4 hq hp
  obtain ⟨M, hMs, hMl, hM⟩ := worldFull.make_c f (by omega)
  have HF := Lib.hid ((feedH (wr := w) (bs := List.replicate f false) (H5.out.below ((show Below w5.heap.size w5 (w5.alloc (.cells M 4)).drew from ((Below.refl _ _).alloc (Nat.le_refl _) _).drew))) (A := some ⟨w5.heap.size, 0, none⟩) (n := f) (c := f)
      (Mem.Sl.more (Mem.new_sl rfl (by rw [hMs]; simp) hMl) (by simp)) (by omega) (by show (0 : Nat) ≤ 4096; omega)).mono (R' := fun e w3 => e = .returned (.int .i64 0) ∧ Has w (fun k => k < w.heap.size) w3 g (sB r f 0)) (fun e w3 p => p.2 (by show 0 + f ≤ 4096; omega)))
  go_wp2_with fail
  go_region_with
    (go_at_call 13
     refine HF.out.mono ?_
     rintro e w6 ⟨rfl, hp⟩)
  have H6 := Lib.hid hp
  clear H5 HF hp hM hMl hMs
  go_wp2_with fail
  go_loopw [8] (fun vi wr => ∃ i : Nat, i ≤ f ∧ i ≤ r + 1 ∧ vi = .int .i64 i ∧ Hid (Has w (fun k => k < w.heap.size) wr g (sB r f i))) (fun i _ => f - (intOf i).toNat)
  case atStart => exact ⟨0, by omega, by omega, rfl, H6⟩
  case round =>
    clear H6
    obtain ⟨i, hif, hir, rfl, HI⟩ := hrel
    have hG := good_b (r := r) (show f ≤ 100 by omega) (show i ≤ 100 by omega)
    by_cases hlt : i < f ∧ i ≤ r
    · obtain ⟨hl1, hl2⟩ := hlt
      have ea := ask_b hl1 hl2
      have HA := Lib.hid ((askH (id := tP) (q := 3) (round := 4) HI.out hG (by decide)).mono (R' := fun e wr => e = .returned (.tuple #[.bool false, .int .i64 0]) ∧ Has w (fun k => k < w.heap.size) wr g (sB r f (i + 1))) (fun e w' p => by
        obtain ⟨h1, h2⟩ := p.2 ea.1
        rw [ea.2] at h1
        exact ⟨h1, h2.to (next_b hl1 hl2 (by omega))⟩))
      have hG2 := good_b (r := r) (show f ≤ 100 by omega) (show i + 1 ≤ 100 by omega)
      clear ea hG
      go_wp2_with fail
      refine HA.out.mono ?_
      rintro e wa ⟨rfl, hp⟩
      have H2 := Lib.hid hp
      clear HI HA hp
      go_wp2_with fail
      refine (boxH H2.out hG2).mono ?_
      rintro e wb ⟨rfl, -, hp⟩
      rw [show boxOf (sB r f (i + 1)).bx tP = _ from box_p _ _ _, show Str.has (ids (sB r f (i + 1)).bx) tP = true from has_p]
      dsimp only
      have H3 := Lib.hid (hp.below ((Below.refl _ _).alloc (Nat.le_refl _) (.cells #[.int .i64 (if r < i + 1 then 6 else 3), .int .i64 ((i + 1 : Nat) : Int)] 44)))
      clear H2 hp hG2
      by_cases he : i = r
      · subst he
        rw [if_pos (Nat.lt_succ_self i)] at H3 ⊢
        go_wp2_with fail
        go_roundw
        case rel => exact ⟨i + 1, by omega, by omega, by go_num, H3⟩
        case measure => simp [intOf]; omega
      · have hne : ((i : Int) == (r : Int)) = false := by simp; omega
        rw [if_neg (show ¬ r < i + 1 by omega)] at H3 ⊢
        go_wp2_with fail
        go_roundw
        case rel => exact ⟨i + 1, by omega, by omega, by go_num, H3⟩
        case measure => simp [intOf]; omega
    · by_cases hfr : r < f
      · obtain rfl : i = r + 1 := by omega
        obtain ⟨d, rfl⟩ : ∃ d, f = r + 1 + d := ⟨f - (r + 1), by omega⟩
        have es : sB r (r + 1 + d) (r + 1) = ⟨r, List.replicate d false, [⟨tP, 6, (r + 1 : Nat), 3⟩], [⟨tW, 1, 2⟩]⟩ := by
          unfold sB
          rw [if_pos (Nat.lt_succ_self r), Nat.add_sub_cancel_left]
        rw [es] at HI hG
        have HA := Lib.hid ((askH (id := tP) (q := 3) (round := 5) HI.out hG (by decide)).mono (R' := fun e wr => e = .returned (.tuple #[.bool false, .int .i64 7]) ∧ Has w (fun k => k < w.heap.size) wr g ⟨r, List.replicate d false, [⟨tP, 6, (r + 1 : Nat), 3⟩], [⟨tW, 1, 2⟩]⟩) (fun e w' p => by
          have ee : askE ⟨r, List.replicate d false, [⟨tP, 6, (r + 1 : Nat), 3⟩], [⟨tW, 1, 2⟩]⟩ tP 3 = 7 := by unfold askE; rw [err_p]; rfl
          obtain ⟨h1, h2⟩ := p.1 (by rw [ee]; decide)
          rw [ee] at h1
          exact ⟨h1, h2⟩))
        have f1 : (r : Int) < ((r + 1 + d : Nat) : Int) := by omega
        have f2 : ¬ ((r + 1 : Nat) : Int) ≤ (r : Int) := by omega
        have f3 : ((d : Int) == (r : Int) + 1 + (d : Int) - (r : Int) - 1) = true := beq_iff_eq.2 (by omega)
        have fw : (List.replicate d false).length = d := by simp
        clear es hlt hfr hir hif
        go_wp2_with fail
        all_goals
          refine HA.out.mono ?_
          rintro e wa ⟨rfl, hp⟩
          have H2 := Lib.hid hp
          clear HI HA hp
          go_wp2_with fail
          refine (boxH H2.out hG).mono ?_
          rintro e wb ⟨rfl, -, hp⟩
          rw [box_p, show Str.has (ids [⟨tP, 6, ((r + 1 : Nat) : Int), 3⟩]) tP = true from has_p]
          dsimp only
          have H3 := Lib.hid (hp.below ((Below.refl _ _).alloc (Nat.le_refl _) (.cells #[.int .i64 6, .int .i64 ((r + 1 : Nat) : Int)] 44)))
          clear H2 hp
          go_wp2_with fail
          refine (waitingH H3.out hG).mono ?_
          rintro e wc ⟨⟨Ad, cd, rfl, -, -, -⟩, hp⟩
          dsimp only
          rw [fw]
          have H4 := Lib.hid hp
          clear H3 hp
          go_wp2_with fail
          go_ret
          exact ⟨rfl, H4.out.only.below (Nat.le_refl _) (fun k hk hn => hn hk)⟩
      · obtain rfl : i = f := by omega
        have es : sB r i i = ⟨r, [], [⟨tP, 3, (i : Nat), 3⟩], [⟨tW, 1, 2⟩]⟩ := by
          unfold sB
          rw [if_neg hfr, Nat.sub_self]
          rfl
        rw [es] at HI hG
        have HA := Lib.hid ((askH (id := tP) (q := 3) (round := 5) HI.out hG (by decide)).mono (R' := fun e wr => e = .returned (.tuple #[.bool true, .int .i64 0]) ∧ Has w (fun k => k < w.heap.size) wr g ⟨r, [], [⟨tP, 4, 0, 5⟩], [⟨tW, 1, 2⟩]⟩) (fun e w' p => by
          have ee : askE ⟨r, [], [⟨tP, 3, (i : Nat), 3⟩], [⟨tW, 1, 2⟩]⟩ tP 3 = 0 := by unfold askE; rw [err_p]; rfl
          obtain ⟨h1, h2⟩ := p.2 ee
          exact ⟨h1, h2.to (q2 r i)⟩))
        have f1 : ¬ (r : Int) < (i : Int) := by omega
        have hG2 : Wo.Good ⟨r, [], [⟨tP, 4, 0, 5⟩], [⟨tW, 1, 2⟩]⟩ := good_one ⟨by decide, by decide, by decide, by decide⟩ (by decide) (by decide)
        clear es hlt hfr hir hif hG
        go_wp2_with fail
        refine HA.out.mono ?_
        rintro e wa ⟨rfl, hp⟩
        have H2 := Lib.hid hp
        clear HI HA hp
        go_wp2_with fail
        refine (boxH H2.out hG2).mono ?_
        rintro e wb ⟨rfl, -, hp⟩
        rw [box_p, show Str.has (ids [⟨tP, 4, 0, 5⟩]) tP = true from has_p]
        dsimp only
        have H3 := Lib.hid (hp.below ((Below.refl _ _).alloc (Nat.le_refl _) (.cells #[.int .i64 4, .int .i64 0] 44)))
        have eB := fun w => eq_box w 4 0 4 0
        clear H2 hp
        go_wp2_with fail
        refine (containersH H3.out hG2).mono ?_
        rintro e wc ⟨⟨Ac, cc, rfl, hR, -, -⟩, hp⟩
        have H4 := Lib.hid hp
        clear H3 hp
        obtain ⟨ad, _, rfl, _, _, hat⟩ := ConV.at_ hR.sl (k := 0) (by show 0 < 1; decide)
        have i3 : wc.cell? { block := ad.block, off := ad.off + 3 } = some (.int .i64 5) := by
          have h3 := hat.c3
          rw [show ad.add (0 * 4) = ad from by simp [Addr.add]] at h3
          exact h3
        clear hat hR
        dsimp only
        rw [show [(⟨tP, 4, 0, 5⟩ : ConV)].length = 1 from rfl]
        go_wp2_with fail
        go_ret
        exact ⟨rfl, H4.out.only.below (Nat.le_refl _) (fun k hk hn => hn hk)⟩
theorem walk (v1 v2 : Value) (w : World) (h1 : Frame.Arg Try.prog w 5 v1) (h2 : Frame.Arg Try.prog w 5 v2) :
    Calls Try.prog 4 #[v1, v2] w fun e w' => e = .returned (.bool true) ∧ Below w.heap.size w w' := by
  obtain ⟨z, rfl, hz⟩ := h1.int Try.underlying5
  obtain ⟨y, rfl, hy⟩ := h2.int Try.underlying5
  exact core z y w (Frame.bd_u8 hz).1 (Frame.bd_u8 hz).2 (Frame.bd_u8 hy).1 (Frame.bd_u8 hy).2
end Go.Proofs.Ythccojfflmfggaa.worldBreaks
