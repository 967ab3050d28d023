/- Words for bytes: a slice of bytes as a list; numbers of 32 bits as words; a string of bytes. -/
import Derived.Test.YtnaidihoijociaaMem
import Derived.Test.YtnaidihoijociaaSumL
import Derived.Laws.BytesArg
import Derived.Deep.Slices
namespace Go.Proofs.Ytnaidihoijociaa
open Go.RowKit
namespace Bs
open Crc (Byte W)
/-- a byte as a value -/
def bv (b : Byte) : Value := .int .u8 (b.toNat : Int)
/-- a byte, a word, as numbers: names that no simp opens -/
def n8 (b : Byte) : Int := b.toNat
def n32 (x : W) : Int := x.toNat
theorem n8_bd (b : Byte) : 0 ≤ n8 b ∧ n8 b ≤ 255 := by have := b.isLt; unfold n8; omega
theorem n32_bd (x : W) : 0 ≤ n32 x ∧ n32 x ≤ 4294967295 := by have := x.isLt; unfold n32; omega
theorem n8_inj {a b : Byte} (h : n8 a = n8 b) : a = b := by unfold n8 at h; exact BitVec.eq_of_toNat_eq (by omega)
theorem n32_inj {a b : W} (h : n32 a = n32 b) : a = b := by unfold n32 at h; exact BitVec.eq_of_toNat_eq (by omega)
theorem n32_eq (a b : W) : (n32 a == n32 b) = decide (a = b) := by
  by_cases h : a = b
  · simp [h]
  · simp only [h, decide_false, beq_eq_false_iff_ne, ne_eq]
    exact fun e => h (n32_inj e)
theorem bv_n8 (b : Byte) : bv b = .int .u8 (n8 b) := rfl
/-- a slice of bytes -/
def Bs (w : World) (B : Nat) (A : Option Addr) (n : Nat) (bs : List Byte) : Prop := Mem.Sl w B 1 A n (bs.map bv)
section
variable {w w' : World} {B B' n : Nat} {A : Option Addr} {bs : List Byte}
theorem Bs.len (h : Bs w B A n bs) : bs.length = n := by have := h.1; simpa using this
theorem Bs.at_ {k : Nat} (h : Bs w B A n bs) (hk : k < n) : ∃ (ad : Addr) (b : Byte) (hl : k < bs.length), A = some ad ∧ ad.block < B ∧ bs[k] = b ∧ w.cell? (ad.add k) = some (.int .u8 (n8 b)) := by
  obtain ⟨ad, hl, e, hb, hc⟩ := Mem.Sl.at_ h hk
  exact ⟨ad, _, by simpa using hl, e, hb, rfl, by simpa [bv, n8] using hc⟩
theorem Bs.keep (h : Bs w B A n bs) (hk : ∀ p : Addr, p.block < B → w'.cell? p = w.cell? p) : Bs w' B A n bs := Mem.Sl.keep h hk
theorem Bs.more (h : Bs w B A n bs) (hB : B ≤ B') : Bs w B' A n bs := Mem.Sl.more h hB
theorem Bs.below (h : Bs w B A n bs) (hb : Below B w w') : Bs w' B A n bs := Mem.Sl.below h hb
theorem Bs.drew (h : Bs w B A n bs) : Bs w.drew B A n bs := h
theorem Bs.drewN (h : Bs w B A n bs) (k : Nat) : Bs (w.drewN k) B A n bs := h
theorem Bs.alloc (h : Bs w B A n bs) (hB : B ≤ w.heap.size) (o : Obj) : Bs (w.alloc o) B A n bs := Mem.Sl.alloc h hB o
theorem Bs.setCell (h : Bs w B A n bs) {p : Addr} (hB : B ≤ p.block) (u : Value) : Bs (w.setCell p u) B A n bs := Mem.Sl.setCell h hB u
theorem Bs.nil : Bs w B A 0 [] := Mem.Sl.nil
/-- kept with the whole heap that was there -/
theorem Bs.on (h : Bs w B A n bs) (hb : Below w.heap.size w w') (hB : B ≤ w.heap.size) : Bs w' B A n bs := h.below (hb.mono hB)
/-- a slice from a place on, up to one -/
theorem Bs.cut (h : Bs w B A n bs) {l k : Nat} (hl : l ≤ k) (hk : k ≤ n) : Bs w B (A.map fun a => a.add l) (k - l) ((bs.take k).drop l) := by
  have e := h.len
  refine ⟨by simp; omega, fun h0 => ?_⟩
  obtain ⟨ad, ea, hb, hc⟩ := h.2 (by omega)
  subst ea
  refine ⟨ad.add l, rfl, by rw [Mem.add_block]; exact hb, fun j hj => ?_⟩
  have hj' : j < k - l := by simp at hj; omega
  rw [Mem.add_add, hc (l + j) (by simp; omega)]
  simp [bv]
end
theorem one_bs (bs : List Byte) : ∀ u ∈ bs.map bv, u.oneCell' = true := by
  intro u hu
  obtain ⟨b, _, rfl⟩ := List.mem_map.1 hu
  rfl
/-- numbers that are bytes -/
theorem of_ints (zs : List Int) (h : ∀ z ∈ zs, 0 ≤ z ∧ z ≤ 255) : zs.map (Value.int .u8) = (zs.map fun z => BitVec.ofInt 8 z).map bv := by
  rw [List.map_map]
  apply List.map_congr_left
  intro z hz
  obtain ⟨h0, h1⟩ := h z hz
  simp only [Function.comp, bv]
  congr 1
  rw [BitVec.toNat_ofInt]
  omega
/-! ### words -/
theorem xor32 (x y : W) : bits .xor .u32 (n32 x) (n32 y) = n32 (x ^^^ y) := by
  unfold n32
  have hx := (x ^^^ y).isLt
  have e : BitVec.ofInt 32 (x.toNat : Int) = x := by simp
  have e' : BitVec.ofInt 32 (y.toNat : Int) = y := by simp
  show IntKind.u32.wrap ((BitVec.ofInt 32 (x.toNat : Int) ^^^ BitVec.ofInt 32 (y.toNat : Int)).toNat : Int) = _
  rw [e, e']
  simp only [IntKind.wrap, IntKind.bits, IntKind.signed]
  simp only [Bool.false_eq_true, if_false, Bool.false_and]
  omega
theorem and32 (x y : W) : bits .and .u32 (n32 x) (n32 y) = n32 (x &&& y) := by
  unfold n32
  have hx := (x &&& y).isLt
  have e : BitVec.ofInt 32 (x.toNat : Int) = x := by simp
  have e' : BitVec.ofInt 32 (y.toNat : Int) = y := by simp
  show IntKind.u32.wrap ((BitVec.ofInt 32 (x.toNat : Int) &&& BitVec.ofInt 32 (y.toNat : Int)).toNat : Int) = _
  rw [e, e']
  simp only [IntKind.wrap, IntKind.bits, IntKind.signed]
  simp only [Bool.false_eq_true, if_false, Bool.false_and]
  omega
theorem xor8 (x y : Byte) : bits .xor .u8 (n8 x) (n8 y) = n8 (x ^^^ y) := by
  unfold n8
  have hx := (x ^^^ y).isLt
  have e : BitVec.ofInt 8 (x.toNat : Int) = x := by simp
  have e' : BitVec.ofInt 8 (y.toNat : Int) = y := by simp
  show IntKind.u8.wrap ((BitVec.ofInt 8 (x.toNat : Int) ^^^ BitVec.ofInt 8 (y.toNat : Int)).toNat : Int) = _
  rw [e, e']
  simp only [IntKind.wrap, IntKind.bits, IntKind.signed]
  simp only [Bool.false_eq_true, if_false, Bool.false_and]
  omega
theorem shr32 (x : W) (k : Nat) : n32 x / (2 ^ k : Nat) = n32 (x >>> k) := by
  unfold n32
  rw [BitVec.toNat_ushiftRight, Nat.shiftRight_eq_div_pow]; rfl
theorem set32 (b : Byte) : n32 (b.setWidth 32) = n8 b := by
  unfold n32 n8
  rw [BitVec.toNat_setWidth, Nat.mod_eq_of_lt (by have := b.isLt; omega)]
/-! ### strings -/
def strOf (bs : List Byte) : ByteArray := ⟨(bs.map fun b => (UInt8.ofBitVec b)).toArray⟩
theorem strOf_inj {a b : List Byte} (h : strOf a = strOf b) : a = b := by
  have h1 : (a.map fun b => (UInt8.ofBitVec b)) = b.map fun b => (UInt8.ofBitVec b) := by
    have := congrArg (fun s : ByteArray => s.data.toList) h
    simpa [strOf] using this
  have h2 := congrArg (List.map UInt8.toBitVec) h1
  simpa [Function.comp_def] using h2
theorem run_str {P : Program} {w : World} {B n c : Nat} {A : Option Addr} {bs : List Byte} (h : Bs w B A n bs) {src e dst : TypeId} (hs : P.underlying src = some (.slice e)) (he : P.underlying e = some (.int .u8)) (hd : P.underlying dst = some .string) :
    (convert src dst (.slice A n c)).run P w = .ok (.string (strOf bs)) w := by
  rcases Nat.eq_zero_or_pos n with h0 | h0
  · have hb : bs = [] := List.eq_nil_of_length_eq_zero (by have := h.len; omega)
    subst hb; subst h0
    rw [run_convert_bytes_string w src dst e A 0 c hs he hd]
    cases A with
    | none => simp [Conv.bytesToString, strOf]; rfl
    | some a => 
      have := run_bytesToString (P := P) w a 0 c [] (by simp [loadCells, loadCellsFrom])
      rw [this]; rfl
  · obtain ⟨ad, rfl, _, hc⟩ := h.2 h0
    rw [run_convert_bytes_string w src dst e _ n c hs he hd]
    have hl : (loadCells ad n).run P w = .ok ((bs.map fun b => (b.toNat : Int)).map (Value.int .u8)).toArray w := by
      have := run_loadCells_list (P := P) w ad (bs.map bv) (fun j v hj => by
        obtain ⟨hj', e⟩ := List.getElem?_eq_some_iff.1 hj
        rw [← e]; exact hc j hj')
      have e1 : (bs.map bv).length = n := by have := h.len; simpa using this
      rw [e1] at this
      rw [this, List.map_map]; rfl
    rw [run_bytesToString (P := P) w ad n c _ hl, foldl_push_bytes]
    have e2 : (bs.map fun b => (b.toNat : Int)).map (fun n => UInt8.ofNat n.toNat) = bs.map fun b => UInt8.ofBitVec b := by
      rw [List.map_map]
      apply List.map_congr_left
      intro b _
      simp only [Function.comp, Int.toNat_natCast]
      apply UInt8.toBitVec_inj.1
      simp
    rw [e2]
    simp [strOf]
end Bs
end Go.Proofs.Ytnaidihoijociaa
