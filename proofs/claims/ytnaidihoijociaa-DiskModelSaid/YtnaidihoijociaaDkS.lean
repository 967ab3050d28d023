/- The document's layer 10: put. -/
import Derived.Test.YtnaidihoijociaaDkR
namespace Go.Proofs.Ytnaidihoijociaa
open Go.RowKit Go.Maps
namespace Dk
open Bs
open Crc (Byte)
theorem less_before : ∀ a b : List UInt8, Op.bytesLess a b = bytesBefore a b
  | [], [] => rfl
  | _ :: _, [] => rfl
  | [], _ :: _ => rfl
  | a :: x, b :: y => by unfold Op.bytesLess bytesBefore; rw [less_before x y]
/-- how far names are less -/
def ltF (s : ByteArray) (p : FlV) : Bool := Op.bytesLess p.name.toList s.toList
section
variable {P : Program} {Y X : World} {t e ty : TypeId} {z : Value} {k bytes n c : Nat} {A : Option Addr} {xs : List Value}
theorem Bld.app (E : Mem.El P t e z k bytes) (h : Bld Y X e k A n c xs) {B m c2 : Nat} {A2 : Option Addr} {news : List Value} (hs : Mem.Sl X B k A2 m news) (h1 : ∀ u ∈ news, u.oneCell' = true) (hn : n ≤ 100000) (hm : m ≤ 100000) (hb : bytes ≤ 1000) :
    ∃ A' c' X', (Builtin.append_ #[t, t] ty #[.slice A n c, .slice A2 m c2]).run P X = .ok (.slice A' (n + m) c') X' ∧ Bld Y X' e k A' (n + m) c' (xs ++ news) ∧ Ro.Only (fun b => Ro.blk A = some b) X X' := by
  have hbb : (n + m) * bytes ≤ 140737488355328 := by
    have : (n + m) * bytes ≤ 200000 * 1000 := Nat.mul_le_mul (by omega) hb
    omega
  obtain ⟨A', c', w', hr, hR, hO, hA⟩ := Ro.app (P := P) (ty := ty) (c2 := c2) E h.row hs h1 (by unfold maxLen; omega) hbb
  refine ⟨A', c', w', hr, ⟨h.below.trans (hO.below h.below.size (fun b hb e => by have := h.fresh b e; omega)), hR, fun b hb => ?_⟩, hO⟩
  rcases hA with e | e
  · rw [e] at hb; exact h.fresh b hb
  · rw [e] at hb
    have : X.heap.size = b := by simpa using hb
    have := h.below.size
    omega
theorem Bld.empty (hb : Below Y.heap.size Y X) : Bld Y (X.alloc (.cells #[] e)) e k (some ⟨X.heap.size, 0, none⟩) 0 0 [] := by
  refine ⟨hb.alloc hb.size _, ?_, fun b h => ?_⟩
  · have := Ro.Row.new (w := X) (cs := #[]) (e := e) (k := k) (n := 0) (by simp) (by decide)
    simpa using this
  · have : X.heap.size = b := by simpa [Ro.blk] using h
    have := hb.size
    omega
end
/-- the three appends of put, when both literals lie already -/
theorem put_runs {Y X : World} {fb eb m a c1 c3 : Nat} {A1 A3 : Option Addr} {x1 x3 : List Value} {f : FlV} (hB : Bld Y X 88 2 (some ⟨eb, 0, none⟩) 0 0 []) (hf : Mem.Blk X fb 88 f.arr) (hne : ¬ eb = fb) (hfY : Y.heap.size ≤ fb)
    (h1 : Mem.Sl Y Y.heap.size 2 A1 a x1) (h3 : Mem.Sl Y Y.heap.size 2 A3 m x3) (o1 : ∀ u ∈ x1, u.oneCell' = true) (o3 : ∀ u ∈ x3, u.oneCell' = true) (ha : a ≤ 10000) (hm : m ≤ 10000) :
    ∃ B1 d1 X1 B2 d2 X2 B3 d3 X3, (Builtin.append_ #[44, 44] 44 #[.slice (some ⟨eb, 0, none⟩) 0 0, .slice A1 a c1]).run Try.prog X = .ok (.slice B1 a d1) X1 ∧ Below Y.heap.size Y X1 ∧
      (Builtin.append_ #[44, 44] 44 #[.slice B1 a d1, .slice (some ⟨fb, 0, none⟩) 1 1]).run Try.prog X1 = .ok (.slice B2 (a + 1) d2) X2 ∧ Below Y.heap.size Y X2 ∧
      (Builtin.append_ #[44, 44] 44 #[.slice B2 (a + 1) d2, .slice A3 m c3]).run Try.prog X2 = .ok (.slice B3 (a + 1 + m) d3) X3 ∧ Bld Y X3 88 2 B3 (a + 1 + m) d3 (x1 ++ f.cells ++ x3) := by
  obtain ⟨B1, d1, X1, r1, b1, q1⟩ := hB.app (ty := 44) (c2 := c1) elF (h1.below hB.below) o1 (by omega) (by omega) (by decide)
  rw [Nat.zero_add] at r1 b1
  rw [List.nil_append] at b1
  have hf1 : Mem.Blk X1 fb 88 f.arr := (q1.block fb hf.lt (fun e => hne (by simpa [Ro.blk] using e))).trans hf
  have hs : Mem.Sl X1 (fb + 1) 2 (some ⟨fb, 0, none⟩) 1 f.cells := ⟨rfl, fun _ => ⟨_, rfl, by simp, fun j hj => by
    rw [Addr.add_lit, Nat.zero_add, hf1.cell j, ← Array.getElem?_toList, FlV.arr_cells]
    exact List.getElem?_eq_getElem hj⟩⟩
  obtain ⟨B2, d2, X2, r2, b2, q2⟩ := b1.app (ty := 44) (c2 := 1) elF hs (by intro u hu; simp [FlV.cells] at hu; rcases hu with rfl | rfl <;> rfl) (by omega) (by omega) (by decide)
  obtain ⟨B3, d3, X3, r3, b3, q3⟩ := b2.app (ty := 44) (c2 := c3) elF (h3.below b2.below) o3 (by omega) (by omega) (by decide)
  exact ⟨B1, d1, X1, B2, d2, X2, B3, d3, X3, r1, b1.below, r2, b2.below, r3, b3⟩
/-- the same, when the file is laid behind the first append -/
theorem put_runs2 {Y X : World} {eb m a c1 c3 : Nat} {A1 A3 : Option Addr} {x1 x3 : List Value} {f : FlV} (hB : Bld Y X 88 2 (some ⟨eb, 0, none⟩) 0 0 [])
    (h1 : Mem.Sl Y Y.heap.size 2 A1 a x1) (h3 : Mem.Sl Y Y.heap.size 2 A3 m x3) (o1 : ∀ u ∈ x1, u.oneCell' = true) (o3 : ∀ u ∈ x3, u.oneCell' = true) (ha : a ≤ 10000) (hm : m ≤ 10000) :
    ∃ B1 d1 X1 B2 d2 X2 B3 d3 X3, (Builtin.append_ #[44, 44] 44 #[.slice (some ⟨eb, 0, none⟩) 0 0, .slice A1 a c1]).run Try.prog X = .ok (.slice B1 a d1) X1 ∧ Below Y.heap.size Y X1 ∧
      (Builtin.append_ #[44, 44] 44 #[.slice B1 a d1, .slice (some ⟨X1.heap.size, 0, none⟩) 1 1]).run Try.prog (X1.alloc (.cells f.arr 88)) = .ok (.slice B2 (a + 1) d2) X2 ∧ Below Y.heap.size Y X2 ∧
      (Builtin.append_ #[44, 44] 44 #[.slice B2 (a + 1) d2, .slice A3 m c3]).run Try.prog X2 = .ok (.slice B3 (a + 1 + m) d3) X3 ∧ Bld Y X3 88 2 B3 (a + 1 + m) d3 (x1 ++ f.cells ++ x3) := by
  obtain ⟨B1, d1, X1, r1, b1, q1⟩ := hB.app (ty := 44) (c2 := c1) elF (h1.below hB.below) o1 (by omega) (by omega) (by decide)
  rw [Nat.zero_add] at r1 b1
  rw [List.nil_append] at b1
  obtain ⟨B2, d2, X2, r2, b2⟩ := b1.push elF f.arr rfl (by intro u hu; rw [FlV.arr_cells] at hu; simp [FlV.cells] at hu; rcases hu with rfl | rfl <;> rfl) (by omega) (by decide) rfl
  obtain ⟨B3, d3, X3, r3, b3, q3⟩ := b2.app (ty := 44) (c2 := c3) elF (h3.below b2.below) o3 (by omega) (by omega) (by decide)
  exact ⟨B1, d1, X1, B2, d2, X2, B3, d3, X3, r1, b1.below, r2, b2.below, r3, b3⟩
end Dk
end Go.Proofs.Ytnaidihoijociaa
