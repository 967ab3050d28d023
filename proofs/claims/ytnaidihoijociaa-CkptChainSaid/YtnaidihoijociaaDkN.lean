/- Layer 10 (disk): an argument of bytes. -/
import Derived.Test.YtnaidihoijociaaDkM
namespace Go.Proofs.Ytnaidihoijociaa
open Go.RowKit Go.Maps
namespace Dk
open Bs
open Crc (Byte)
theorem dat_hold {W : World} {cs : List Value} (h : Frame.Dat Try.prog W 27 cs) : ∃ (A : Option Addr) (n c : Nat) (bs : List Byte), cs = [.slice A n c] ∧ Hold W (fun k => k < W.heap.size) A n c bs := by
  obtain ⟨A, n, c, xss, hcs, h1, h2, h3, h4, h5, h6⟩ := h.slice Try.underlying27 (by kernel_rfl : Try.prog.cellsOf 5 = 1) (by omega)
  have key : ∀ xss : List (List Value), (∀ xs ∈ xss, xs.length = 1 ∧ Frame.Dat Try.prog W 5 xs) → ∃ bs : List Byte, xss.flatten = bs.map bv := by
    intro xss
    induction xss with
    | nil => intro _; exact ⟨[], rfl⟩
    | cons xs xss ih =>
      intro hx
      obtain ⟨bs, hb⟩ := ih (fun y hy => hx y (by simp [hy]))
      obtain ⟨z, rfl, hz⟩ := (hx xs (by simp)).2.int Try.underlying5
      have hzb := Frame.bd_u8 hz
      have e := of_ints [z] (by intro z' h'; rw [List.mem_singleton] at h'; subst h'; exact hzb)
      refine ⟨BitVec.ofInt 8 z :: bs, ?_⟩
      rw [List.flatten_cons, hb, List.map_cons]
      simpa using e
  obtain ⟨bs, hb⟩ := key xss h4
  rw [hb] at h5
  refine ⟨A, n, c, bs, hcs, h5, ⟨h1, h2⟩, h6, fun ad e hn => ?_⟩
  obtain ⟨ad', e', hlt, _⟩ := h5.2 hn
  rw [e] at e'
  cases e'
  exact hlt
theorem arg_hold {W : World} {v : Value} (h : Frame.Arg Try.prog W 27 v) : ∃ (A : Option Addr) (n c : Nat) (bs : List Byte), v = .slice A n c ∧ Hold W (fun k => k < W.heap.size) A n c bs := by
  obtain ⟨A, n, c, rfl⟩ := h.one Try.underlying27
  obtain ⟨A', n', c', bs, hcs, h1⟩ := dat_hold h.dat
  simp [Value.cells] at hcs
  obtain ⟨rfl, rfl, rfl⟩ := hcs
  exact ⟨A, n, c, bs, rfl, h1⟩
theorem conv_hold {w : World} {C : Nat → Prop} {A : Option Addr} {n c : Nat} {bs : List Byte} (h : Hold w C A n c bs) : (convert 27 9 (.slice A n c)).run Try.prog w = .ok (.string (Bs.strOf bs)) w :=
  run_str (show Bs w w.heap.size A n bs from h.sl) Try.underlying27 Try.underlying5 Try.underlying9
theorem After.to {W w w' : World} {col : Nat → Nat} {D : Dks} {i g : Nat} {s s' : Ds} (h : After W w col D i g s w') (e : s = s') : After W w col D i g s' w' := e ▸ h
/-- a row of bytes that nobody changes -/
structure RowK (w : World) (col : Nat → Nat) (A : Option Addr) (n c : Nat) (bs : List Byte) : Prop where
  row : BRow w A n c bs
  col : ∀ k, Ro.blk A = some k → col k = 0
theorem RowK.after {w w' : World} {col col' : Nat → Nat} {A : Option Addr} {n c i : Nat} {bs : List Byte} (h : RowK w col A n c bs) (hi : i ≠ 0) (ha : ∀ k, k < w.heap.size → col' k = col k) (ho : Ro.Only (fun k => col k = i) w w') : RowK w' col' A n c bs :=
  ⟨h.row.only ho fun k hk e => hi (by rw [← show col k = i from e]; exact h.col k hk), fun k hk => (ha k (h.row.lt hk)).trans (h.col k hk)⟩
theorem RowK.below {w w' : World} {col : Nat → Nat} {A : Option Addr} {n c : Nat} {bs : List Byte} (h : RowK w col A n c bs) (hb : Below w.heap.size w w') (f : Nat → Nat) : RowK w' (fun k => if k < w.heap.size then col k else f k) A n c bs :=
  ⟨h.row.keep fun k hk => hb.block k (h.row.lt hk), fun k hk => (if_pos (h.row.lt hk)).trans (h.col k hk)⟩
theorem RowK.new {w w' : World} {col : Nat → Nat} {A : Option Addr} {n c : Nat} {bs : List Byte} (h : BRow w' A n c bs) (hf : ∀ k, Ro.blk A = some k → w.heap.size ≤ k) : RowK w' (fun k => if k < w.heap.size then col k else 0) A n c bs :=
  ⟨h, fun k hk => if_neg (by have := hf k hk; omega)⟩
theorem RowK.conv {w : World} {col : Nat → Nat} {A : Option Addr} {n c : Nat} {bs : List Byte} (h : RowK w col A n c bs) : (convert 27 9 (.slice A n c)).run Try.prog w = .ok (.string (Bs.strOf bs)) w := conv_row h.row (Below.refl _ _)
end Dk
end Go.Proofs.Ytnaidihoijociaa
