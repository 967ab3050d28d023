/- BoxForward: the walk. -/
import Derived.Test.YtfcdmfiblmnbkaaBoxA
import Derived.Test.YtfcdmfiblmnbkaaBoxM
import Derived.Test.YtfcdmfiblmnbkaaFrame
namespace Go.Proofs.Ytfcdmfiblmnbkaa.boxForward
open Go.RowKit Go.Maps Box
theorem ints_take {w : World} {B : Nat} {A : Option Addr} {n m : Nat} {l : List Int} (h : Mem.Ints w B .i64 A n l) (hm : m ≤ n) : Mem.Ints w B .i64 A m (l.take m) := by
  have hl := h.len
  refine ⟨by simp; omega, fun h0 => ?_⟩
  obtain ⟨ad, e, hb, hc⟩ := h.2 (by omega)
  refine ⟨ad, e, hb, fun j hj => ?_⟩
  have hj' : j < (l.map (Value.int .i64)).length := by simp at hj ⊢; omega
  rw [hc j hj']; simp
set_option maxRecDepth 4000 in
set_option maxHeartbeats 4000000 in
theorem core (A A2 : Option Addr) (n c m c2 : Nat) (l : List Int) (well : List Bool) (r : Int) (w : World) (hnc : n ≤ c) (hcm : c ≤ maxLen) (hl : Mem.Ints w w.heap.size .i64 A n l) (hw : Mem.Sl w w.heap.size 1 A2 m (well.map Value.bool)) (hlz : ∀ z ∈ l, (Lit.int .i64 z).wf = true)
    (hn : n ≤ 60) (hm : m ≤ 60) :
    Calls Try.prog 12 #[.slice A n c, .slice A2 m c2, .int .i64 r] w fun e w' => e = .returned (.bool true) ∧ Below w.heap.size w w' := by
  have hln := hl.len
  have hn' : decide (60 < n) = false := by simp; omega
  have hm' : decide (60 < m) = false := by simp; omega
  go_enter Try.func12, Try.ntmps12
  go_wp2_with (go_at_call 24; refine (awake_c _).mono ?_; rintro e w1 ⟨rfl, hb1⟩)
  have hz1 := hb1.size
  go_loopw [8, 9] (fun vs vi wr => ∃ k : Nat, k ≤ n ∧ vi = .int .i64 k ∧ ∃ sd : Bool, vs = .bool sd ∧ ((runTo l well r k).1.1 = 3 → sd = true) ∧ Below w.heap.size w wr ∧ In wr w1.heap.size (runTo l well r k).1) (fun _ i _ => n - (intOf i).toNat)
  case atStart => exact ⟨0, Nat.zero_le _, rfl, false, rfl, by simp [runTo], hb1.alloc hb1.size _, Mem.Blk.new⟩
  case round =>
    obtain ⟨k, hk, rfl, sd, rfl, hsd, hbr, B⟩ := hrel
    clear hb1
    by_cases hlt : k < n
    · obtain ⟨ad, q, hlk, rfl, hadb, hq, hcq⟩ := (hl.below hbr).at_ hlt
      obtain ⟨⟨s, u⟩, hsk⟩ : ∃ b, b = (runTo l well r k).1 := ⟨_, rfl⟩
      obtain ⟨⟨x, y⟩, hxk⟩ : ∃ b, b = (runTo l well r (k + 1)).1 := ⟨_, rfl⟩
      have hx1 : x = s ∨ x = s + 1 ∨ x = 6 ∨ x = 5 := by
        have := step_forward (runTo l well r k).1 (l.getD k 0) (well.getD k true) r
        have e : (runTo l well r (k + 1)).1 = Box.step (runTo l well r k).1 (l.getD k 0) (well.getD k true) r := rfl
        rw [← e, ← hxk, ← hsk] at this
        exact this
      have hx2 : x = 3 → s = 3 ∨ s = 2 ∧ q = 2 := by
        have := step_up (runTo l well r k).1 (l.getD k 0) (well.getD k true) r
        have e : (runTo l well r (k + 1)).1 = Box.step (runTo l well r k).1 (l.getD k 0) (well.getD k true) r := rfl
        have e1 : l.getD k 0 = q := by rw [← hq]; simp [List.getD_eq_getElem?_getD, List.getElem?_eq_getElem hlk]
        rw [← e, ← hxk, ← hsk, e1] at this
        exact this
      have hok := (runTo_ok l well r k).1
      obtain ⟨_, hn0, hnk⟩ := runTo_ok l well r (k + 1)
      rw [← hsk] at B hsd hok
      obtain ⟨o1, o2, _, _⟩ := hok
      obtain ⟨nn, hnn⟩ : ∃ nn, nn = (runTo l well r (k + 1)).2 := ⟨_, rfl⟩
      rw [← hnn] at hn0 hnk
      have Hq := Lib.hid hq
      have Hx1 := Lib.hid hx1
      have Hx2 := Lib.hid hx2
      have Hsd := Lib.hid hsd
      have Hxk := Lib.hid hxk
      have Hnn := Lib.hid hnn
      have Ho : Hid (0 ≤ s ∧ s ≤ 6) := Lib.hid ⟨o1, o2⟩
      clear hq hx1 hx2 hsd hxk hsk hnn o1 o2
      go_wp2_with fail
      refine (run_c _ A2 (k + 1) c m c2 (l.take (k + 1)) well r wr ((ints_take (hl.below hbr) (by omega)).more hbr.size) ((hw.below hbr).more hbr.size) (fun z hz => hlz z (List.mem_of_mem_take hz)) (by omega) (by omega)).mono ?_
      rintro e w2 ⟨rfl, hb2⟩
      rw [runTo_take l well r (k + 1) (k + 1) (Nat.le_refl _), ← Hxk.out, ← Hnn.out]
      have hz2 := hb2.size
      have hzr := hbr.size
      have L2 : Below w.heap.size w (w2.alloc (.cells #[.int .i64 x, .int .i64 y] 33)) := (hbr.trans (hb2.mono hzr)).alloc (by omega) _
      have B2 : In (w2.alloc (.cells #[.int .i64 x, .int .i64 y] 33)) w1.heap.size (s, u) := (B.belowS hb2).alloc
      have X2 : In (w2.alloc (.cells #[.int .i64 x, .int .i64 y] 33)) w2.heap.size (x, y) := Mem.Blk.new
      have hcq2 : (w2.alloc (.cells #[.int .i64 x, .int .i64 y] 33)).cell? (ad.add k) = some (.int .i64 q) := (Mem.keep_alloc ((hb2.cell (by simp [Mem.add_block]; omega)).trans hcq))
      have b0 := B2.cell 0
      have b1 := B2.cell 1
      have bf := B2.frozen
      have x0 := X2.cell 0
      have x1 := X2.cell 1
      have hg : w1.heap.size < w2.heap.size := by have := B.lt; omega
      clear hcq hb2 hbr B
      have hnn2 : decide ((k : Int) + 1 < nn) = false := by simp; omega
      go_upto_region 9 with fail
      generalize hw2' : w2.alloc (.cells #[.int .i64 x, .int .i64 y] 33) = wz at *
      go_cut [11, 70] (fun s11 s70 wx => s11 = .int .i64 nn ∧ s70 = .bool false ∧ wx = wz)
      case first =>
        obtain ⟨o1, o2⟩ := Ho.out
        by_cases e1 : x = s
        · have d1' : (x != s) = false := by simp [e1]
          clear e1
          go_wp2_with fail
          go_meet
          exact ⟨rfl, rfl, rfl⟩
        · have d1' : (x != s) = true := by simp [e1]
          by_cases e2 : x = s + 1
          · have d2' : (x != s + 1) = false := by simp [e2]
            clear e1 e2
            go_wp2_with fail
            go_meet
            exact ⟨rfl, rfl, rfl⟩
          · have d2' : (x != s + 1) = true := by simp [e2]
            by_cases e3 : x = 6
            · have d3' : (x != 6) = false := by simp [e3]
              clear e1 e2 e3
              go_wp2_with fail
              go_meet
              exact ⟨rfl, rfl, rfl⟩
            · have d3' : (x != 6) = true := by simp [e3]
              have d4' : (x != 5) = false := by have := Hx1.out; simp; omega
              clear e1 e2 e3
              go_wp2_with fail
              go_meet
              exact ⟨rfl, rfl, rfl⟩
      case rest =>
        obtain ⟨rfl, rfl, hwz⟩ := hcut
        subst hwz
        clear hw2'
        have hfin : ∀ (sd' : Bool), (x = 3 → sd' = true) → ∀ wy, Below w.heap.size w wy → In wy w1.heap.size (x, y) →
            Below w.heap.size w wy ∧ ((runTo l well r (k + 1)).1.1 = 3 → sd' = true) ∧ In wy w1.heap.size (runTo l well r (k + 1)).1 := by
          intro sd' h1 wy h2 h3
          rw [← Hxk.out]
          exact ⟨h2, h1, h3⟩
        have Hfin := Lib.hid hfin
        clear hfin
        by_cases e3 : x = 3
        · have hx2 := Hx2.out e3
          have e3' := Lib.hid e3
          clear Hx1 Hx2
          subst e3
          by_cases es : s = 2
          · have hq2 : q = 2 := by omega
            subst hq2; subst es
            clear hx2 Ho
            go_wp2
            go_roundw
            case rel =>
              obtain ⟨a1, a2, a3⟩ := Hfin.out true (fun _ => rfl) _ ((L2.setCell (by simp; omega) _).setCell (by simp; omega) _) ((B2.set_ 0 _).set_ 1 _)
              exact ⟨k + 1, by omega, by go_num, _, rfl, a2, a1, a3⟩
            case measure => simp [intOf]; omega
          · have hs3 : s = 3 := by omega
            have hsdt : sd = true := Hsd.out hs3
            subst hs3; subst hsdt
            clear hx2 Ho
            go_wp2
            go_roundw
            case rel =>
              obtain ⟨a1, a2, a3⟩ := Hfin.out true (fun _ => rfl) _ ((L2.setCell (by simp; omega) _).setCell (by simp; omega) _) ((B2.set_ 0 _).set_ 1 _)
              exact ⟨k + 1, by omega, by go_num, _, rfl, a2, a1, a3⟩
            case measure => simp [intOf]; omega
        · have d3 : (x == 3) = false := by simp [e3]
          have He3 := Lib.hid e3
          clear e3 Hx1 Hx2 Ho Hsd
          by_cases es : s = 2
          · subst es
            by_cases eq : q = 2
            · subst eq
              go_wp2
              go_roundw
              case rel =>
                obtain ⟨a1, a2, a3⟩ := Hfin.out sd (fun h => absurd h He3.out) _ ((L2.setCell (by simp; omega) _).setCell (by simp; omega) _) ((B2.set_ 0 _).set_ 1 _)
                exact ⟨k + 1, by omega, by go_num, _, rfl, a2, a1, a3⟩
              case measure => simp [intOf]; omega
            · have dq : (q == 2) = false := by simp [eq]
              clear eq
              go_wp2
              go_roundw
              case rel =>
                obtain ⟨a1, a2, a3⟩ := Hfin.out sd (fun h => absurd h He3.out) _ ((L2.setCell (by simp; omega) _).setCell (by simp; omega) _) ((B2.set_ 0 _).set_ 1 _)
                exact ⟨k + 1, by omega, by go_num, _, rfl, a2, a1, a3⟩
              case measure => simp [intOf]; omega
          · have ds : (s == 2) = false := by simp [es]
            clear es
            go_wp2
            go_roundw
            case rel =>
              obtain ⟨a1, a2, a3⟩ := Hfin.out sd (fun h => absurd h He3.out) _ ((L2.setCell (by simp; omega) _).setCell (by simp; omega) _) ((B2.set_ 0 _).set_ 1 _)
              exact ⟨k + 1, by omega, by go_num, _, rfl, a2, a1, a3⟩
            case measure => simp [intOf]; omega
    · obtain rfl : k = n := by omega
      go_wp2
      go_ret
      exact ⟨rfl, hbr⟩
theorem walk (v1 v2 v3 : Value) (w : World) (h1 : Frame.Arg Try.prog w 26 v1) (h2 : Frame.Arg Try.prog w 42 v2) (h3 : Frame.Arg Try.prog w 3 v3) :
    Calls Try.prog 12 #[v1, v2, v3] w fun e w' => e = .returned (.bool true) ∧ Below w.heap.size w w' := by
  obtain ⟨A, n, c, zs, rfl, hc, hm, hr, hz⟩ := h1.ints Try.underlying26 Try.underlying3 (by kernel_rfl)
  obtain ⟨A2, n2, c2, bs, rfl, hc2, hm2, hr2⟩ := h2.bools Try.underlying42 Try.underlying4 (by kernel_rfl)
  obtain ⟨r, rfl, _⟩ := h3.int Try.underlying3
  unfold maxLen at hm hm2
  by_cases hn : 60 < n
  · have hn' : decide (60 < n) = true := by simp; omega
    go_enter Try.func12, Try.ntmps12
    go_wp2_with fail
    refine (awake_c _).mono ?_
    rintro e w1 ⟨rfl, hb1⟩
    go_wp2_with fail
    refine (awake_c _).mono ?_
    rintro e w2 ⟨rfl, hb2⟩
    go_wp2
    go_ret
    exact ⟨rfl, hb1.trans (hb2.mono hb1.size)⟩
  · by_cases hn2 : 60 < n2
    · have hn' : decide (60 < n) = false := by simp; omega
      have hn2' : decide (60 < n2) = true := by simp; omega
      go_enter Try.func12, Try.ntmps12
      go_wp2_with fail
      refine (awake_c _).mono ?_
      rintro e w1 ⟨rfl, hb1⟩
      go_wp2_with fail
      refine (awake_c _).mono ?_
      rintro e w2 ⟨rfl, hb2⟩
      go_wp2
      go_ret
      exact ⟨rfl, hb1.trans (hb2.mono hb1.size)⟩
    · exact core A A2 n c n2 c2 zs bs r w hc (by unfold maxLen; omega) hr hr2.2 hz (by omega) (by omega)
end Go.Proofs.Ytfcdmfiblmnbkaa.boxForward
