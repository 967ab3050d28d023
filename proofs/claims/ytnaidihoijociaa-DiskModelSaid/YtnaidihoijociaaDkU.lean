/- The document's layer 10: files in a row are the files of a map: put, without, Find. -/
import Derived.Test.YtnaidihoijociaaDkT
namespace Go.Proofs.Ytnaidihoijociaa
open Go.RowKit Go.Maps
namespace Dk
open Bs
open Crc (Byte)
theorem before_total : ∀ {a b : List UInt8}, a ≠ b → bytesBefore b a = !bytesBefore a b
  | [], [], h => absurd rfl h
  | [], _ :: _, _ => rfl
  | _ :: _, [], _ => rfl
  | a :: x, b :: y, h => by
    unfold bytesBefore
    by_cases h1 : a < b
    · have h2 : ¬ b < a := by rw [UInt8.lt_iff_toNat_lt] at h1 ⊢; omega
      have h3 : (b == a) = false := by rw [beq_eq_false_iff_ne]; rintro rfl; exact h2 h1
      simp [h1, h2, h3]
    · by_cases h2 : b < a
      · have h3 : (a == b) = false := by rw [beq_eq_false_iff_ne]; rintro rfl; exact h1 h2
        simp [h1, h2, h3]
      · have h3 : a = b := by
          rw [UInt8.lt_iff_toNat_lt] at h1 h2
          exact UInt8.toNat_inj.1 (by omega)
        subst h3
        have := before_total (a := x) (b := y) (fun e => h (by rw [e]))
        simp [h1, this]
def fls2 (l : List FlV) : Files := l.map flF
theorem fls2_del (l : List FlV) (s : ByteArray) : fls2 (l.filter (neF s)) = fdel (fls2 l) (key s) := by
  unfold fls2 fdel
  rw [List.filter_map]
  congr 1
  refine List.filter_congr fun p _ => ?_
  unfold neF
  rw [isF_key]
  rfl
theorem ltF_key (s : ByteArray) (p : FlV) : ltF s p = bytesBefore (flF p).1 (key s) := by
  unfold ltF flF key
  rw [less_before, ByteArray.toList_eq, ByteArray.toList_eq]
theorem ins_at (s : ByteArray) (x : List Byte) : ∀ (r : List FlV), (∀ p ∈ r, neF s p = true) → ins (key s) x (fls2 r) = fls2 (r.take (atF s r)) ++ (key s, x) :: fls2 (r.drop (atF s r))
  | [], _ => rfl
  | p :: r, h => by
    have hp := h p (by simp)
    have hne : (flF p).1 ≠ key s := by
      unfold neF at hp
      rw [isF_key] at hp
      simpa using hp
    show ins (key s) x (flF p :: fls2 r) = _
    unfold ins atF
    rw [before_total hne, ← ltF_key, List.takeWhile_cons]
    cases hl : ltF s p with
    | true =>
      have := ins_at s x r (fun q hq => h q (by simp [hq]))
      unfold atF at this
      unfold fls2 at this ⊢
      simp [this]
    | false => simp [fls2]
theorem fls2_put (l : List FlV) (f : FlV) : fls2 (putV l f) = fput (fls2 l) (key f.name) f.bytes := by
  unfold fput putV
  rw [← fls2_del, ins_at f.name f.bytes _ (fun p hp => (List.mem_filter.1 hp).2)]
  simp [fls2, flF]
theorem fls2_none {l : List FlV} {s : ByteArray} (h : ∀ p ∈ l, isF s p = false) : fget (fls2 l) (key s) = none := by
  unfold fget fls2
  rw [List.find?_map, Option.map_map, List.find?_eq_none.2]
  · rfl
  · intro p hp c
    have := h p hp
    rw [isF_key] at this
    have c' : ((flF p).1 == key s) = true := c
    rw [this] at c'
    cases c'
theorem fls2_get {l : List FlV} {s : ByteArray} (hr : Rise (fls2 l)) {k : Nat} (hk : k < l.length) (h : isF s l[k] = true) : fget (fls2 l) (key s) = some l[k].bytes := by
  have hk' : k < (fls2 l).length := by unfold fls2; simpa using hk
  have he : (fls2 l)[k] = flF l[k] := List.getElem_map ..
  have := get_at hr hk'
  rw [he] at this
  rw [isF_key] at h
  rw [← (by simpa using h : (flF l[k]).1 = key s)]
  exact this
end Dk
end Go.Proofs.Ytnaidihoijociaa
