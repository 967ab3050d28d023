/- Layer 10 (disk): the walks of new, sync. -/
import Derived.Test.YtnaidihoijociaaDkD
namespace Go.Proofs.Ytnaidihoijociaa
open Go.RowKit Go.Maps
namespace Dk
open Bs
open Crc (Byte)
/-- behind a call that works on a disk -/
def Post (M C : Nat → Prop) (w w' : World) (g : Nat) (s : Ds) : Prop :=
  ∃ M' C', At w' g s M' C' ∧ (∀ k, M' k → M k ∨ w.heap.size ≤ k) ∧ (∀ k, C' k → C k ∨ w.heap.size ≤ k) ∧ Ro.Only M w w'
theorem Post.same {M C : Nat → Prop} {w w' : World} {g : Nat} {s : Ds} (h : At w g s M C) (hb : Below w.heap.size w w') : Post M C w w' g s :=
  ⟨M, C, h.below hb, fun _ c => .inl c, fun _ c => .inl c, .of_below hb⟩
theorem Mp.none (w : World) (C : Nat → Prop) : Mp (w.alloc (.map #[] 0)) C w.heap.size [] :=
  ⟨[], rfl, fun e he => (by cases he), World.ownsMap_made w _ _ _⟩
theorem new_c (w : World) : Calls Try.prog 15 #[] w fun e w' => e = .returned (.pointer (some ⟨w.heap.size + 1, 0, none⟩)) ∧ At w' (w.heap.size + 1) ⟨[], []⟩ (fun k => w.heap.size ≤ k) (fun _ => False) ∧ Below w.heap.size w w' := by
  have hmm := @run_makeMap Try.prog
  have h1 : Mem.Blk ((w.alloc (.map #[] 0)).alloc (.cells #[.map (some w.heap.size), .slice none 0 0] 74)) (w.heap.size + 1) 74 #[.map (some w.heap.size), .slice none 0 0] := by
    have := Mem.Blk.new (w := w.alloc (.map #[] 0)) (t := 74) (cs := #[.map (some w.heap.size), .slice none 0 0])
    simpa using this
  have h2 : Mp ((w.alloc (.map #[] 0)).alloc (.cells #[.map (some w.heap.size), .slice none 0 0] 74)) (fun _ => False) w.heap.size [] := (Mp.none w _).below ((Below.refl _ _).alloc (Nat.le_refl _) _)
  have HA : Hid (At ((w.alloc (.map #[] 0)).alloc (.cells #[.map (some w.heap.size), .slice none 0 0] 74)) (w.heap.size + 1) ⟨[], []⟩ (fun k => w.heap.size ≤ k) (fun _ => False)) := Lib.hid ⟨w.heap.size, none, 0, 0, [], h1, h2, Ro.Row.nil, rfl, fun p hp => (by cases hp), ⟨by omega, Nat.le_refl _, fun k hk => (by cases hk)⟩, fun k c => c.elim⟩
  clear h1 h2
  go_enter Try.func15, Try.ntmps15
  go_wp2_with fail
  go_ret
  exact ⟨rfl, HA.out, ((Below.refl _ _).alloc (Nat.le_refl _) _).alloc (by simp) _⟩
set_option maxRecDepth 100000 in
theorem sync_c {w : World} {g : Nat} {s : Ds} {M C : Nat → Prop} (h : At w g s M C) (hs : Good s) :
    Calls Try.prog 21 #[.pointer (some ⟨g, 0, none⟩)] w fun e w' => e = .returned (.tuple #[]) ∧ Post M C w w' g ⟨look s, []⟩ := by
  have HL := Lib.hid (look_c h hs)
  obtain ⟨b, AO, nO, cO, ps, h⟩ := h
  have HB := Lib.hid h.blk
  have HM := Lib.hid h.mg
  have HC := Lib.hid h.cm
  clear h hs
  go_enter Try.func21, Try.ntmps21
  go_wp2_with fail
  refine HL.out.mono ?_
  rintro e w1 ⟨rfl, hm, hb1⟩
  have hlt := hm.lt
  have hB1 := HB.out.belowS hb1
  have hglt := HB.out.lt
  have hgm := HM.out.1
  have m0 := hB1.cell 0
  have m1 := hB1.cell 1
  have mf := hB1.frozen
  have ho : Ro.Only (fun k => k = g) w1 ((w1.setCell ⟨g, 0, none⟩ (.map (some w.heap.size))).setCell ⟨g, 1, none⟩ (.slice none 0 0)) :=
    (Ro.Only.setCell w1 ⟨g, 0, none⟩ _).trans (Ro.Only.setCell _ ⟨g, 1, none⟩ _) (fun _ _ e => e)
  have HP : Hid (Post M C w ((w1.setCell ⟨g, 0, none⟩ (.map (some w.heap.size))).setCell ⟨g, 1, none⟩ (.slice none 0 0)) g ⟨look s, []⟩) := Lib.hid
    ⟨fun k => (M k ∧ k < w.heap.size) ∨ k = w.heap.size, fun k => (C k ∧ k < w.heap.size) ∨ w.heap.size < k, ⟨w.heap.size, none, 0, 0, [], (hB1.set_ 0 _).set_ 1 _,
      (hm.mono (C' := fun k => (C k ∧ k < w.heap.size) ∨ w.heap.size < k) (fun k _ c => by
        rcases c with ⟨c | c, d⟩
        · by_cases hk : k < w.heap.size
          · exact .inl ⟨c, hk⟩
          · exact .inr (by omega)
        · exact .inr (by omega))).keep ho.size (fun k hk c => ho.block k hk (fun e => by
          rcases c with c | c
          · exact HC.out k c.1 (by rw [e]; exact hgm)
          · omega)) (ho.block _ hlt (by omega)), Ro.Row.nil, rfl, fun p hp => (by cases hp), ⟨.inl ⟨hgm, hglt⟩, .inr rfl, fun k hk => (by cases hk)⟩, fun k c d => by
        rcases c with c | c <;> rcases d with d | d
        · exact HC.out k c.1 d.1
        · omega
        · omega
        · omega⟩, fun k c => c.imp (·.1) (fun e => by omega), fun k c => c.imp (·.1) (fun e => by omega), (Ro.Only.of_below hb1).trans ho (fun k _ e => by rw [e]; exact hgm)⟩
  clear hm hb1 hlt hB1 ho HL HB HM HC
  go_wp2_with fail
  exact bodyPost_end (results_none rfl _ _ _) rfl ⟨rfl, HP.out⟩
end Dk
end Go.Proofs.Ytnaidihoijociaa
