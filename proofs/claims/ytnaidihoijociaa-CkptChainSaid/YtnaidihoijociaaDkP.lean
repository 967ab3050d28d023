/- Layer 10 (disk): names and bytes that were read, and that a law turns. -/
import Derived.Test.YtnaidihoijociaaDkO
namespace Go.Proofs.Ytnaidihoijociaa
open Go.RowKit Go.Maps
namespace Dk
open Bs
open Crc (Byte)
/-- names of the law's own -/
structure Nms (w : World) (col : Nat → Nat) (A : Option Addr) (L c : Nat) : Prop where
  row : ∃ ks, NRow w A L c ks ∧ ∀ k ∈ ks, k.length ≤ maxLen
  rc : ∀ g, Ro.blk A = some g → col g = 9
/-- bytes of the law's own beside the names -/
structure Byn (w : World) (col : Nat → Nat) (A : Option Addr) (n c : Nat) (AN : Option Addr) (L cN : Nat) : Prop where
  row : ∃ bs, BRow w A n c bs
  rc : ∀ g, Ro.blk A = some g → col g = 9
  nms : Nms w col AN L cN
section
variable {W w w' : World} {col : Nat → Nat} {D : Dks} {A AN : Option Addr} {n c L cN : Nat}
theorem Nms.below (h : Nms w col A L c) (hb : Below w.heap.size w w') (f : Nat → Nat) : Nms w' (fun k => if k < w.heap.size then col k else f k) A L c := by
  obtain ⟨ks, hr, hk⟩ := h.row
  exact ⟨⟨ks, hr.keep fun g e => hb.block g (hr.lt e), hk⟩, fun g e => (if_pos (hr.lt e)).trans (h.rc g e)⟩
theorem Nms.at_ (h : Nms w col A L c) {i : Nat} (hi : i < L) :
    ∃ (g off : Nat) (s : ByteArray), A = some ⟨g, off, none⟩ ∧ s.size ≤ maxLen ∧ w.cell? ⟨g, off + i, none⟩ = some (.string s) ∧ w.frozen? ⟨g, off + i, none⟩ = false ∧ col g = 9 ∧ Nms (w.setCell ⟨g, off + i, none⟩ (.string ⟨#[63]⟩)) col (some ⟨g, off, none⟩) L c := by
  obtain ⟨ks, hr, hk⟩ := h.row
  have hl : ks.length = L := by have := hr.len; simpa using this
  obtain ⟨g, off, rfl⟩ := hr.some_of (by have := hr.le.1; omega)
  have hi' : i < (ks.map Go.Proofs.encStr).length := by simp; omega
  have hc := hr.cell i hi'
  rw [List.getElem_map] at hc
  refine ⟨g, off, ⟨ks[i].toArray⟩, rfl, ?_, hc, hr.frozen _, h.rc g rfl, ⟨⟨ks.set i [63], ?_, fun k hk' => ?_⟩, h.rc⟩⟩
  · have := hk ks[i] (List.getElem_mem _)
    show ks[i].toArray.size ≤ _
    simpa using this
  · have := hr.set1 i hi' (.string ⟨#[63]⟩)
    show Ro.Row _ _ _ _ _ _ _
    rw [List.map_set]
    exact this
  · rcases List.mem_or_eq_of_mem_set hk' with h | rfl
    · exact hk k h
    · decide
theorem Byn.turn (h : Byn w col A n c AN L cN) {k : Nat} (hk : k < n) :
    ∃ (g off : Nat) (b : Byte), A = some ⟨g, off, none⟩ ∧ w.cell? ⟨g, off + k, none⟩ = some (.int .u8 (n8 b)) ∧ w.frozen? ⟨g, off + k, none⟩ = false ∧ col g = 9 ∧ ∀ b' : Byte, Byn (w.setCell ⟨g, off + k, none⟩ (.int .u8 (n8 b'))) col (some ⟨g, off, none⟩) n c AN L cN := by
  obtain ⟨bs, hr⟩ := h.row
  obtain ⟨g, off, b, rfl, h1, h2, h3⟩ := brow_at hr hk
  obtain ⟨ks, hn, hks⟩ := h.nms.row
  exact ⟨g, off, b, rfl, h1, h2, h.rc g rfl, fun b' => ⟨⟨_, h3 b'⟩, h.rc, ⟨⟨ks, hn.keep fun q e => Below.heap_setCell _ _ _ q (fun (e2 : q = g) => Ro.Row.apart hr hn (by decide) g rfl (e2 ▸ e)), hks⟩, h.nms.rc⟩⟩⟩
theorem read9 {o : Option (List Byte)} {e : Ending} (h : ReadSaid w o e w') (hN : Nms w col AN L cN) :
    ∃ A n c E, e = .returned (.tuple #[.slice A n c, .int .i64 E]) ∧ n ≤ maxLen ∧ Below w.heap.size w w' ∧ Byn w' (fun k => if k < w.heap.size then col k else 9) A n c AN L cN := by
  obtain ⟨hb, h⟩ := h
  cases o with
  | none => exact ⟨none, 0, 0, 4, h, by decide, hb, ⟨[], Ro.Row.nil⟩, fun g e => (by cases e), hN.below hb _⟩
  | some bs =>
    obtain ⟨A, c, rfl, hr, hf⟩ := h
    exact ⟨A, bs.length, c, 0, rfl, Nat.le_trans hr.le.1 hr.le.2, hb, ⟨bs, hr⟩, fun g e => if_neg (by have := hf g e; omega), hN.below hb _⟩
theorem names9 {s : Ds} {N : Nat} {e : Ending} (h : NamesSaid w ((look s).map (·.1)) e w') (hs : Fits N s) :
    ∃ A c, e = .returned (.slice A (look s).length c) ∧ Below w.heap.size w w' ∧ Nms w' (fun k => if k < w.heap.size then col k else 9) A (look s).length c := by
  obtain ⟨A, c, rfl, hr, hb, hf⟩ := h
  rw [List.length_map] at hr ⊢
  refine ⟨A, c, rfl, hb, ⟨⟨_, hr, fun k hk => ?_⟩, fun g e => if_neg (by have := hf g e; omega)⟩⟩
  obtain ⟨p, hp, rfl⟩ := List.mem_map.1 hk
  exact (hs.look).fk p hp
end
end Dk
end Go.Proofs.Ytnaidihoijociaa
