/- The walks of layer 14 (box): what is asked of a container. -/
import Derived.Test.YthccojfflmfggaaBoxW
namespace Go.Proofs.Ythccojfflmfggaa
open Go.RowKit Go.Maps
namespace Box
/-- a container as a value -/
abbrev val (b : B) : Value := .agg #[.int .i64 b.1, .int .i64 b.2]
theorem look0 {w : World} {g : Nat} (h : Map.At Try.prog 126 w g nextR) {s q : Int} (hs : (Lit.int .i64 s).wf = true) (hq : (Lit.int .i64 q).wf = true) (h0 : Hid (nxt s q = 0)) :
    (Instr.lookup 124 (.map (some g)) (.agg #[.int .i64 s, .int .i64 q]) true).run Try.prog w = .ok (.tuple #[.int .i64 0, .bool false]) w := by
  rw [look h s q hs hq, h0.out]; rfl
theorem look1 {w : World} {g : Nat} (h : Map.At Try.prog 126 w g nextR) {s q : Int} (hs : (Lit.int .i64 s).wf = true) (hq : (Lit.int .i64 q).wf = true) (h0 : Hid (nxt s q ≠ 0)) :
    (Instr.lookup 124 (.map (some g)) (.agg #[.int .i64 s, .int .i64 q]) true).run Try.prog w = .ok (.tuple #[.int .i64 (nxt s q), .bool true]) w := by
  rw [look h s q hs hq, show (nxt s q != 0) = true from by simp [h0.out]]
def Said (s t q r : Int) (well : Bool) (W : World) (e : Ending) (w' : World) : Prop :=
  e = .returned (.tuple #[.agg #[.int .i64 (step (s, t) q well r).1, .int .i64 (step (s, t) q well r).2], .int .i64 (err s q)]) ∧ Below W.heap.size W w'
set_option maxRecDepth 100000 in
theorem do_c (s t q r : Int) (well : Bool) (w : World) (hs : (Lit.int .i64 s).wf = true) (hq : (Lit.int .i64 q).wf = true) (ht : t ≤ 9223372036854775807) :
    Calls Try.prog 55 #[.agg #[.int .i64 s, .int .i64 t], .int .i64 q, .bool well, .int .i64 r] w (Said s t q r well w) := by
  by_cases h0 : nxt s q = 0
  · have e1 : Hid (step (s, t) q well r = (s, t)) := by show step _ _ _ _ = _; unfold step; rw [if_pos h0]
    have h0' := Lib.hid h0
    have fin : ∀ w', Below w.heap.size w w' → Said s t q r well w (.returned (.tuple #[.agg #[.int .i64 s, .int .i64 t], .int .i64 7])) w' :=
      fun w' hb => ⟨by unfold err; rw [e1.out, if_pos h0'.out], hb⟩
    clear h0
    go_enter Try.func55, Try.ntmps55
    go_wp2
    go_region_held3 (fun w' => w'.cell? ⟨w.heap.size, 0, none⟩ = some (.int .i64 s)) (first | assumption | (simp [go_sem]; done))
      ((go_at_call 71; refine (next_c _).mono ?_; rintro e w1 ⟨g, rfl, hg, hb1, hat⟩
        have hs1 : w1.cell? ⟨w.heap.size, 0, none⟩ = some (.int .i64 s) := (hb1.cell (p := ⟨w.heap.size, 0, none⟩) (by simp; omega)).trans (by simp [go_sem])
        have hlk := look0 hat hs hq h0'))
    have hbl : Below w.heap.size w w1 := (((Below.refl _ _).alloc (Nat.le_refl _) _).alloc (by simp) _).drew.trans (hb1.mono (by simp; omega))
    obtain ⟨hc, hf⟩ := Mem.bcell hb1
    have hz : w.heap.size + 1 < w1.heap.size := by have := hb1.size; simp at this; omega
    have hs2 : w1.cell? ⟨w.heap.size, 1, none⟩ = some (.int .i64 t) := (hc _ _ (by simp; omega)).trans (by simp [go_sem])
    have hr1 : w1.cell? ⟨w.heap.size + 1, 0, none⟩ = some (.int .i64 0) := (hc _ _ (by simp)).trans (by simp [go_sem])
    have hr2 : w1.cell? ⟨w.heap.size + 1, 1, none⟩ = some (.int .i64 0) := (hc _ _ (by simp)).trans (by simp [go_sem])
    have hf1 : ∀ o, w1.frozen? ⟨w.heap.size, o, none⟩ = false := fun o => (hf _ _ (by simp; omega)).trans (by simp [go_sem])
    have hf2 : ∀ o, w1.frozen? ⟨w.heap.size + 1, o, none⟩ = false := fun o => (hf _ _ (by simp)).trans (by simp [go_sem])
    clear hc hf hat hlk hb1 hg
    go_wp2
    refine bodyPost_ret (v := .tuple #[.agg #[.int .i64 s, .int .i64 t], .int .i64 7]) (by simp [results, Try.results55, go_sem, hr1, hr2]) rfl (fin _ ?_)
    exact (hbl.setCell (by simp) _).setCell (by simp) _
  · have h0' := Lib.hid h0
    have htb := Sat.add_bd t 1
    have fin : ∀ (x y : Int), step (s, t) q well r = (x, y) → ∀ w', Below w.heap.size w w' → Said s t q r well w (.returned (.tuple #[.agg #[.int .i64 x, .int .i64 y], .int .i64 0])) w' :=
      fun x y e w' hb => ⟨by unfold err; rw [e, if_neg h0'.out], hb⟩
    have Fin := Lib.hid fin
    clear fin
    have e0 : Hid (step (s, t) q well r = if well then (nxt s q, 0) else if r < Sat.add t 1 then (6, Sat.add t 1) else (s, Sat.add t 1)) := by
      show step _ _ _ _ = _; unfold step; rw [if_neg h0]
    clear h0
    cases well with
    | true =>
      go_enter Try.func55, Try.ntmps55
      go_wp2
      go_region_held3 (fun w' => w'.cell? ⟨w.heap.size, 0, none⟩ = some (.int .i64 s)) (first | assumption | (simp [go_sem]; done))
        ((go_at_call 71; refine (next_c _).mono ?_; rintro e w1 ⟨g, rfl, hg, hb1, hat⟩
          have hs1 : w1.cell? ⟨w.heap.size, 0, none⟩ = some (.int .i64 s) := (hb1.cell (p := ⟨w.heap.size, 0, none⟩) (by simp; omega)).trans (by simp [go_sem])
          have hlk := look1 hat hs hq h0'))
      have hbl : Below w.heap.size w w1 := (((Below.refl _ _).alloc (Nat.le_refl _) _).alloc (by simp) _).drew.trans (hb1.mono (by simp; omega))
      obtain ⟨hc, hf⟩ := Mem.bcell hb1
      have hz : w.heap.size + 1 < w1.heap.size := by have := hb1.size; simp at this; omega
      have hs2 : w1.cell? ⟨w.heap.size, 1, none⟩ = some (.int .i64 t) := (hc _ _ (by simp; omega)).trans (by simp [go_sem])
      have hr1 : w1.cell? ⟨w.heap.size + 1, 0, none⟩ = some (.int .i64 0) := (hc _ _ (by simp)).trans (by simp [go_sem])
      have hr2 : w1.cell? ⟨w.heap.size + 1, 1, none⟩ = some (.int .i64 0) := (hc _ _ (by simp)).trans (by simp [go_sem])
      have hf1 : ∀ o, w1.frozen? ⟨w.heap.size, o, none⟩ = false := fun o => (hf _ _ (by simp; omega)).trans (by simp [go_sem])
      have hf2 : ∀ o, w1.frozen? ⟨w.heap.size + 1, o, none⟩ = false := fun o => (hf _ _ (by simp)).trans (by simp [go_sem])
      clear hc hf hat hlk hb1 hg
      go_wp2
      refine bodyPost_ret (v := .tuple #[.agg #[.int .i64 (nxt s q), .int .i64 0], .int .i64 0]) (by simp [results, Try.results55, go_sem, hr1, hr2]) rfl (Fin.out _ _ (by rw [e0.out]; rfl) _ ?_)
      exact (hbl.setCell (by simp) _).setCell (by simp) _
    | false =>
      by_cases hr : r < Sat.add t 1
      · have e1 : Hid (step (s, t) q false r = (6, Sat.add t 1)) := by show step _ _ _ _ = _; rw [e0.out, if_neg (by simp), if_pos hr]
        go_enter Try.func55, Try.ntmps55
        go_wp2
        go_region_held3 (fun w' => w'.cell? ⟨w.heap.size, 0, none⟩ = some (.int .i64 s)) (first | assumption | (simp [go_sem]; done))
          ((go_at_call 71; refine (next_c _).mono ?_; rintro e w1 ⟨g, rfl, hg, hb1, hat⟩
            have hs1 : w1.cell? ⟨w.heap.size, 0, none⟩ = some (.int .i64 s) := (hb1.cell (p := ⟨w.heap.size, 0, none⟩) (by simp; omega)).trans (by simp [go_sem])
            have hlk := look1 hat hs hq h0'))
        have hbl : Below w.heap.size w w1 := (((Below.refl _ _).alloc (Nat.le_refl _) _).alloc (by simp) _).drew.trans (hb1.mono (by simp; omega))
        obtain ⟨hc, hf⟩ := Mem.bcell hb1
        have hz : w.heap.size + 1 < w1.heap.size := by have := hb1.size; simp at this; omega
        have hs2 : w1.cell? ⟨w.heap.size, 1, none⟩ = some (.int .i64 t) := (hc _ _ (by simp; omega)).trans (by simp [go_sem])
        have hr1 : w1.cell? ⟨w.heap.size + 1, 0, none⟩ = some (.int .i64 0) := (hc _ _ (by simp)).trans (by simp [go_sem])
        have hr2 : w1.cell? ⟨w.heap.size + 1, 1, none⟩ = some (.int .i64 0) := (hc _ _ (by simp)).trans (by simp [go_sem])
        have hf1 : ∀ o, w1.frozen? ⟨w.heap.size, o, none⟩ = false := fun o => (hf _ _ (by simp; omega)).trans (by simp [go_sem])
        have hf2 : ∀ o, w1.frozen? ⟨w.heap.size + 1, o, none⟩ = false := fun o => (hf _ _ (by simp)).trans (by simp [go_sem])
        clear hc hf hat hlk hb1 hg
        go_wp2_with (go_at_call 74; refine (Sat.add_c _ _ _ ht (by decide)).mono ?_; rintro e w' ⟨rfl, rfl⟩)
        refine bodyPost_ret (v := .tuple #[.agg #[.int .i64 6, .int .i64 (Sat.add t 1)], .int .i64 0]) (by simp [results, Try.results55, go_sem, hr1, hr2]) rfl (Fin.out _ _ e1.out _ ?_)
        exact ((((hbl.setCell (by simp) _).setCell (by simp) _).setCell (by simp) _).setCell (by simp) _)
      · have e1 : Hid (step (s, t) q false r = (s, Sat.add t 1)) := by show step _ _ _ _ = _; rw [e0.out, if_neg (by simp), if_neg hr]
        go_enter Try.func55, Try.ntmps55
        go_wp2
        go_region_held3 (fun w' => w'.cell? ⟨w.heap.size, 0, none⟩ = some (.int .i64 s)) (first | assumption | (simp [go_sem]; done))
          ((go_at_call 71; refine (next_c _).mono ?_; rintro e w1 ⟨g, rfl, hg, hb1, hat⟩
            have hs1 : w1.cell? ⟨w.heap.size, 0, none⟩ = some (.int .i64 s) := (hb1.cell (p := ⟨w.heap.size, 0, none⟩) (by simp; omega)).trans (by simp [go_sem])
            have hlk := look1 hat hs hq h0'))
        have hbl : Below w.heap.size w w1 := (((Below.refl _ _).alloc (Nat.le_refl _) _).alloc (by simp) _).drew.trans (hb1.mono (by simp; omega))
        obtain ⟨hc, hf⟩ := Mem.bcell hb1
        have hz : w.heap.size + 1 < w1.heap.size := by have := hb1.size; simp at this; omega
        have hs2 : w1.cell? ⟨w.heap.size, 1, none⟩ = some (.int .i64 t) := (hc _ _ (by simp; omega)).trans (by simp [go_sem])
        have hr1 : w1.cell? ⟨w.heap.size + 1, 0, none⟩ = some (.int .i64 0) := (hc _ _ (by simp)).trans (by simp [go_sem])
        have hr2 : w1.cell? ⟨w.heap.size + 1, 1, none⟩ = some (.int .i64 0) := (hc _ _ (by simp)).trans (by simp [go_sem])
        have hf1 : ∀ o, w1.frozen? ⟨w.heap.size, o, none⟩ = false := fun o => (hf _ _ (by simp; omega)).trans (by simp [go_sem])
        have hf2 : ∀ o, w1.frozen? ⟨w.heap.size + 1, o, none⟩ = false := fun o => (hf _ _ (by simp)).trans (by simp [go_sem])
        clear hc hf hat hlk hb1 hg
        go_wp2_with (go_at_call 74; refine (Sat.add_c _ _ _ ht (by decide)).mono ?_; rintro e w' ⟨rfl, rfl⟩)
        refine bodyPost_ret (v := .tuple #[.agg #[.int .i64 s, .int .i64 (Sat.add t 1)], .int .i64 0]) (by simp [results, Try.results55, go_sem, hr1, hr2]) rfl (Fin.out _ _ e1.out _ ?_)
        exact (((hbl.setCell (by simp) _).setCell (by simp) _).setCell (by simp) _)
/-- the reference's answer -/
def RSaid (s t q r : Int) (well : Bool) (W : World) (e : Ending) (w' : World) : Prop :=
  e = .returned (.tuple #[.agg #[.int .i64 (step (s, t) q well r).1, .int .i64 (step (s, t) q well r).2], .bool (nxt s q != 0)]) ∧ Below W.heap.size W w'
theorem rdo_c (s t q r : Int) (well : Bool) (w : World) (ht : t ≤ 9223372036854775807) :
    Calls Try.prog 78 #[.agg #[.int .i64 s, .int .i64 t], .int .i64 q, .bool well, .int .i64 r] w (RSaid s t q r well w) := by
  by_cases h0 : nxt s q = 0
  · have h0' := Lib.hid h0
    have e1 : Hid (step (s, t) q well r = (s, t)) := by show step _ _ _ _ = _; unfold step; rw [if_pos h0]
    have fin : ∀ w', Below w.heap.size w w' → RSaid s t q r well w (.returned (.tuple #[.agg #[.int .i64 s, .int .i64 t], .bool false])) w' :=
      fun w' hb => ⟨by rw [e1.out, h0'.out]; rfl, hb⟩
    clear h0
    go_enter Try.func78, Try.ntmps78
    go_wp2_with (go_at_call 77; refine (rto_c _ _ _).mono ?_; rw [h0'.out]; rintro e w' ⟨rfl, rfl⟩)
    refine bodyPost_ret (v := .tuple #[.agg #[.int .i64 s, .int .i64 t], .bool false]) (by simp [results, Try.results78, go_sem]) rfl (fin _ ?_)
    exact ((Below.refl _ _).alloc (Nat.le_refl _) _).alloc (by simp) _
  · have h0' : (nxt s q == 0) = false := by simp [h0]
    have h0h := Lib.hid h0
    have fin : ∀ (x y : Int), step (s, t) q well r = (x, y) → ∀ w', Below w.heap.size w w' → RSaid s t q r well w (.returned (.tuple #[.agg #[.int .i64 x, .int .i64 y], .bool true])) w' :=
      fun x y e w' hb => ⟨by rw [e, show (nxt s q != 0) = true from by simp [h0h.out]], hb⟩
    have Fin := Lib.hid fin
    clear fin
    have e0 : Hid (step (s, t) q well r = if well then (nxt s q, 0) else if r < Sat.add t 1 then (6, Sat.add t 1) else (s, Sat.add t 1)) := by
      show step _ _ _ _ = _; unfold step; rw [if_neg h0]
    clear h0
    have htb := Sat.add_bd t 1
    cases well with
    | true =>
      go_enter Try.func78, Try.ntmps78
      go_wp2_with (go_at_call 77; refine (rto_c _ _ _).mono ?_; rintro e w' ⟨rfl, rfl⟩)
      refine bodyPost_ret (v := .tuple #[.agg #[.int .i64 (nxt s q), .int .i64 0], .bool true]) (by simp [results, Try.results78, go_sem]) rfl (Fin.out _ _ (by rw [e0.out]; rfl) _ ?_)
      exact ((Below.refl _ _).alloc (Nat.le_refl _) _).alloc (by simp) _
    | false =>
      by_cases hr : r < Sat.add t 1
      · have e1 : Hid (step (s, t) q false r = (6, Sat.add t 1)) := by show step _ _ _ _ = _; rw [e0.out, if_neg (by simp), if_pos hr]
        go_enter Try.func78, Try.ntmps78
        go_wp2_with (first
          | (go_at_call 77; refine (rto_c _ _ _).mono ?_; rintro e w' ⟨rfl, rfl⟩)
          | (go_at_call 84; refine (Sat.radd_c _ _ _ ht (by decide)).mono ?_; rintro e w' ⟨rfl, rfl⟩))
        refine bodyPost_ret (v := .tuple #[.agg #[.int .i64 6, .int .i64 (Sat.add t 1)], .bool true]) (by simp [results, Try.results78, go_sem]) rfl (Fin.out _ _ e1.out _ ?_)
        exact ((Below.refl _ _).alloc (Nat.le_refl _) _).alloc (by simp) _
      · have e1 : Hid (step (s, t) q false r = (s, Sat.add t 1)) := by show step _ _ _ _ = _; rw [e0.out, if_neg (by simp), if_neg hr]
        go_enter Try.func78, Try.ntmps78
        go_wp2_with (first
          | (go_at_call 77; refine (rto_c _ _ _).mono ?_; rintro e w' ⟨rfl, rfl⟩)
          | (go_at_call 84; refine (Sat.radd_c _ _ _ ht (by decide)).mono ?_; rintro e w' ⟨rfl, rfl⟩))
        refine bodyPost_ret (v := .tuple #[.agg #[.int .i64 s, .int .i64 (Sat.add t 1)], .bool true]) (by simp [results, Try.results78, go_sem]) rfl (Fin.out _ _ e1.out _ ?_)
        exact ((Below.refl _ _).alloc (Nat.le_refl _) _).alloc (by simp) _
end Box
end Go.Proofs.Ythccojfflmfggaa
