/- The walks of layer 8 (sum): what the laws ask ahead of all. -/
import Derived.Test.YtnaidihoijociaaSumR
import Derived.Test.YtnaidihoijociaaFrame
import Derived.Lib.SlBytesConst
namespace Go.Proofs.Ytnaidihoijociaa
open Go.RowKit Bs
namespace Crc
/-- a slice of bytes that came in -/
theorem arg_bs {P : Program} {W : World} {t e : TypeId} {v : Value} (h : Frame.Arg P W t v) (ht : P.underlying t = some (.slice e)) (he : P.underlying e = some (.int .u8)) (hc : P.cellsOf e = 1) :
    ∃ (A : Option Addr) (n c : Nat) (bs : List Byte), v = .slice A n c ∧ n ≤ c ∧ c ≤ maxLen ∧ Bs W W.heap.size A n bs := by
  obtain ⟨A, n, c, zs, hv, h1, h2, h3, h4⟩ := h.ints ht he hc
  refine ⟨A, n, c, zs.map (BitVec.ofInt 8), hv, h1, h2, ?_⟩
  have := of_ints zs (fun z hz => Frame.bd_u8 (h4 z hz))
  unfold Bs.Bs
  rw [← this]
  exact h3
theorem Bs.front {w : World} {B m k : Nat} {A : Option Addr} {bs : List Byte} (h : Bs w B A (m + k) bs) : Bs w B A m (bs.take m) := by
  have := h.cut (l := 0) (k := m) (by omega) (by omega)
  simp only [Nat.sub_zero, List.drop_zero] at this
  have e : (A.map fun a => a.add 0) = A := by cases A <;> simp [Addr.add]
  rw [e] at this; exact this
theorem cutOK_short {bs : List Byte} (h : bs.length < 4) : cutOK bs = false := by unfold cutOK; simp; omega
theorem cutOK_long {bs : List Byte} {m : Nat} (h : bs.length = m + 4) : cutOK bs = decide (put (bs.take m) = bs) := by unfold cutOK; rw [h]; simp
theorem cut_yes (A : Option Addr) (n c : Nat) (bs : List Byte) (w : World) (h : Bs w w.heap.size A n bs) (hn : n ≤ 140737488355328) (hnc : n ≤ c) (hc : c ≤ maxLen) (hok : cutOK bs = true) :
    Calls Try.prog 61 #[.slice A n c] w fun e w' => ∃ A' c', e = .returned (.tuple #[.slice A' (n - 4) c', .bool true]) ∧ Own w' w.heap.size A' (n - 4) c' (bs.take (n - 4)) ∧ Below w.heap.size w w' := by
  refine (cut_c A n c bs w h hn hnc hc).mono ?_
  rintro e w' ⟨A', n', c', h1, h2, h3, h4⟩
  rw [hok] at h1 h2 h3
  simp only [if_true] at h2 h3
  subst h2
  exact ⟨A', c', h1, h3, h4⟩
theorem cut_no (A : Option Addr) (n c : Nat) (bs : List Byte) (w : World) (h : Bs w w.heap.size A n bs) (hn : n ≤ 140737488355328) (hnc : n ≤ c) (hc : c ≤ maxLen) (hok : cutOK bs = false) :
    Calls Try.prog 61 #[.slice A n c] w fun e w' => ∃ A' c', e = .returned (.tuple #[.slice A' 0 c', .bool false]) ∧ Own w' w.heap.size A' 0 c' [] ∧ Below w.heap.size w w' := by
  refine (cut_c A n c bs w h hn hnc hc).mono ?_
  rintro e w' ⟨A', n', c', h1, h2, h3, h4⟩
  rw [hok] at h1 h2 h3
  simp only [Bool.false_eq_true, if_false] at h2 h3
  subst h2
  exact ⟨A', c', h1, h3, h4⟩
theorem lit_bs {w : World} {cs : Array Value} {t : TypeId} {fz : Nat × Nat} {n : Nat} {bs : List Byte} (hn : cs.size = n) (h : cs.toList = bs.map bv) : Bs (w.alloc (.cells cs t fz)) (w.alloc (.cells cs t fz)).heap.size (some ⟨w.heap.size, 0, none⟩) n bs :=
  (Mem.new_sl (n := n) (xs := bs.map bv) rfl (by omega) h).more (by simp)
theorem lit_at {w : World} {cs : Array Value} {t : TypeId} {fz : Nat × Nat} {n g : Nat} {bs : List Byte} (hg : w.heap.size = g) (hn : cs.size = n) (h : cs.toList = bs.map bv) : Bs (w.alloc (.cells cs t fz)) (g + 1) (some ⟨g, 0, none⟩) n bs :=
  Mem.new_sl (n := n) (xs := bs.map bv) hg (by omega) h
theorem conv2 {P : Program} {t e : TypeId} (ht : P.underlying t = some (.slice e)) (he : P.underlying e = some (.int .u8)) (w : World) (o : Obj) (C : Array Value) (n c : Nat) :
    (convert t t (.slice (some ⟨w.heap.size + 1, 0, none⟩) n c)).run P ((w.alloc o).alloc (.cells C e)) = .ok (.slice (some ⟨w.heap.size + 1, 0, none⟩) n c) ((w.alloc o).alloc (.cells C e (C.size, C.size + 1))) := by
  have := Lib.run_convert_bytes_const (P := P) (w.alloc o) t e C n c ht he
  have e1 : (w.alloc o).heap.size = w.heap.size + 1 := by simp
  rw [e1] at this; exact this
theorem Own.le {w : World} {B : Nat} {A : Option Addr} {n c : Nat} {bs : List Byte} (h : Own w B A n c bs) : n ≤ c ∧ c ≤ maxLen := by
  obtain ⟨A', c', e, _, _, h1, h2⟩ := Mem.own_form h
  obtain ⟨rfl, _, rfl⟩ : A = A' ∧ n = n ∧ c = c' := by simpa using e
  exact ⟨h1, h2⟩
def nums : List Byte := [49#8, 50#8, 51#8, 52#8, 53#8, 54#8, 55#8, 56#8, 57#8]
theorem of_nums : of nums = 3421780262#32 := by decide +kernel
theorem cut_ab : cutOK (put [97#8, 98#8]) = true := by decide +kernel
theorem cut_12345 : cutOK [1#8, 2#8, 3#8, 4#8, 5#8] = false := by decide +kernel
theorem take_ab : (put [97#8, 98#8]).take 2 = [97#8, 98#8] := by decide +kernel
end Crc
end Go.Proofs.Ytnaidihoijociaa
