/- Layer 10 (disk): disks in a table; acts one behind the other; what a crash keeps; a row of numbers that a law makes. -/
import Derived.Test.YtnaidihoijociaaDkP
namespace Go.Proofs.Ytnaidihoijociaa
open Go.RowKit Go.Maps
namespace Dk
open Bs
open Crc (Byte)
/-- disks 1, 2 .. -/
def tab (l : List (Nat × Ds)) : Dks := fun k => if k = 0 then none else l[k - 1]?
theorem tab_nil : (fun _ => none : Dks) = tab [] := by
  funext k
  unfold tab
  split <;> simp
theorem tab_set {l : List (Nat × Ds)} {i : Nat} {x : Nat × Ds} (h : i < l.length) : upd (tab l) (i + 1) x = tab (l.set i x) := by
  funext k
  unfold tab upd
  by_cases h1 : k = i + 1
  · subst h1
    simp [h]
  · rw [if_neg h1]
    dsimp only
    by_cases h0 : k = 0
    · rw [if_pos h0, if_pos h0]
    · rw [if_neg h0, if_neg h0, List.getElem?_set_ne (by omega)]
theorem tab_new {l : List (Nat × Ds)} {x : Nat × Ds} : upd (tab l) (l.length + 1) x = tab (l ++ [x]) := by
  funext k
  unfold tab upd
  by_cases h1 : k = l.length + 1
  · subst h1
    simp
  · rw [if_neg h1]
    dsimp only
    by_cases h0 : k = 0
    · rw [if_pos h0, if_pos h0]
    · rw [if_neg h0, if_neg h0]
      by_cases h2 : k - 1 < l.length
      · rw [List.getElem?_append_left h2]
      · rw [List.getElem?_eq_none (by omega), List.getElem?_eq_none (by simp; omega)]
theorem tab_put (i : Nat) {l : List (Nat × Ds)} {x : Nat × Ds} (h0 : 0 < i) (h : i ≤ l.length) : upd (tab l) i x = tab (l.set (i - 1) x) := by
  obtain ⟨j, rfl⟩ : ∃ j, i = j + 1 := ⟨i - 1, by omega⟩
  exact tab_set (by omega)
theorem tab_more (i : Nat) {l : List (Nat × Ds)} {x : Nat × Ds} (h : i = l.length + 1) : upd (tab l) i x = tab (l ++ [x]) := by
  subst h
  exact tab_new
/-- some acts are done -/
def sF (s : Ds) (ps : List OpV) (k : Nat) : Ds := (ps.take k).foldl (fun s p => doS s (opOf p)) s
theorem sF_next (s : Ds) (ps : List OpV) {k : Nat} (h : k < ps.length) : sF s ps (k + 1) = doS (sF s ps k) (opOf ps[k]) := by
  unfold sF
  rw [Mem.take_snoc _ _ h, List.foldl_append]
  rfl
theorem sF_fits {s : Ds} {N : Nat} (hs : Fits N s) {ps : List OpV} (h : ∀ p ∈ ps, p.ok ∧ Small p) (k : Nat) (hk : k ≤ ps.length) : Fits (N + k) (sF s ps k) := by
  induction k with
  | zero => exact hs
  | succ k ih =>
    rw [sF_next s ps hk]
    obtain ⟨h1, h2⟩ := h ps[k] (List.getElem_mem hk)
    refine (ih (by omega)).doS ⟨h1.name, h1.nto, ?_⟩
    have := h1.bytes.2.2.1
    have := h2.2.2
    show ps[k].bytes.length ≤ _
    omega
theorem sF_open {l : Files} {ps : List OpV} (h : ∀ p ∈ ps, p.ok ∧ Small p) (k : Nat) (hk : k ≤ ps.length) : ∃ os : List OpA, sF ⟨l, []⟩ ps k = ⟨l, os⟩ ∧ os.length ≤ k ∧ ∀ o ∈ os, o.bytes.length ≤ 200 := by
  induction k with
  | zero => exact ⟨[], rfl, Nat.le_refl _, fun _ h => (by cases h)⟩
  | succ k ih =>
    obtain ⟨os, h1, h2, h3⟩ := ih (by omega)
    obtain ⟨p1, p2⟩ := h ps[k] (List.getElem_mem hk)
    rw [sF_next _ ps hk, h1]
    unfold doS
    split
    · refine ⟨os ++ [opOf ps[k]], rfl, by simp; omega, fun o ho => ?_⟩
      rcases List.mem_append.1 ho with ho | ho
      · exact h3 o ho
      · rw [List.mem_singleton] at ho
        subst ho
        have := p1.bytes.2.2.1
        have := p2.2.2
        show ps[k].bytes.length ≤ _
        omega
    · exact ⟨os, rfl, by omega, h3⟩
/-- a crash that keeps all -/
theorem crash_all (os : List OpA) (n : Nat) (hn : os.length ≤ n) (hb : ∀ o ∈ os, o.bytes.length ≤ 200) (l : Files) : crashF l os (List.replicate n 1000) = look ⟨l, os⟩ := by
  show (os.zip (List.replicate n 1000)).foldl (fun l p => crash1 l p.1 p.2) l = os.foldl app1 l
  induction os generalizing l n with
  | nil => rfl
  | cons o os ih =>
    obtain ⟨n, rfl⟩ : ∃ m, n = m + 1 := ⟨n - 1, by simp at hn; omega⟩
    rw [List.replicate_succ, List.zip_cons_cons, List.foldl_cons, List.foldl_cons]
    have h0 : crash1 l o 1000 = app1 l o := by
      have := hb o (by simp)
      unfold crash1 cutOp
      rw [if_neg (by decide), if_neg (by omega)]
    rw [h0]
    exact ih n (by simpa using hn) (fun x hx => hb x (by simp [hx])) _
theorem crash_none (os : List OpA) (l : Files) : crashF l os [] = l := by
  show (os.zip []).foldl (fun l p => crash1 l p.1 p.2) l = l
  rw [List.zip_nil_right]
  rfl
theorem elI : Mem.El Try.prog 40 3 (.int .i64 0) 1 8 := ⟨Try.underlying40, by kernel_rfl, rfl, by decide⟩
/-- numbers of the law's own: all 1000 -/
structure Ths (w : World) (col : Nat → Nat) (A : Option Addr) (n c : Nat) : Prop where
  row : Ro.Row w 3 1 A n c (List.replicate n (.int .i64 1000))
  rc : ∀ g, Ro.blk A = some g → col g = 9
theorem Ths.ints {w : World} {col : Nat → Nat} {A : Option Addr} {n c : Nat} (h : Ths w col A n c) : Mem.Ints w w.heap.size .i64 A n (List.replicate n 1000) := by
  have := h.row.sl
  show Mem.Sl _ _ _ _ _ _
  rw [List.map_replicate]
  exact this
/-- one more number -/
theorem Ths.push {W wr : World} {col : Nat → Nat} {D : Dks} {A : Option Addr} {n c : Nat} {ty : TypeId} (h : Ths wr col A n c) (hF : Fm W wr col D) (hD : D 9 = none) (hn : n ≤ 100) :
    ∃ A' c' w2, (Builtin.append_ #[40, 40] ty #[.slice A n c, .slice (some ⟨wr.heap.size, 0, none⟩) 1 1]).run Try.prog (wr.alloc (.cells #[.int .i64 1000] 3)) = .ok (.slice A' (n + 1) c') w2 ∧
      ∃ col', Fm W w2 col' D ∧ Ths w2 col' A' (n + 1) c' := by
  have hb : Below wr.heap.size wr (wr.alloc (.cells #[.int .i64 1000] 3)) := (Below.refl _ _).alloc (Nat.le_refl _) _
  have hr : Ro.Row (wr.alloc (.cells #[.int .i64 1000] 3)) 3 1 A n c (List.replicate n (.int .i64 1000)) := h.row.keep fun g e => hb.block g (h.row.lt e)
  have hs : Mem.Sl (wr.alloc (.cells #[.int .i64 1000] 3)) (wr.heap.size + 1) 1 (some ⟨wr.heap.size, 0, none⟩) 1 [.int .i64 1000] := by
    have := (Ro.Row.new (w := wr) (cs := #[.int .i64 1000]) (e := 3) (k := 1) (n := 1) rfl (by decide)).sl
    simpa using this
  obtain ⟨A', c', w2, hrun, hrow, ho, hbk⟩ := Ro.app (P := Try.prog) (ty := ty) (c2 := 1) elI hr hs (fun u hu => by rw [List.mem_singleton] at hu; subst hu; rfl) (by unfold maxLen; omega) (by omega)
  refine ⟨A', c', w2, hrun, _, (hF.below hb (fun _ => 9)).put ho (j := 9) (fun k hk => ?_) hD (by decide), ?_, fun g e => ?_⟩
  · show (if k < wr.heap.size then col k else 9) = 9
    rw [if_pos (h.row.lt hk)]
    exact h.rc k hk
  · rw [← List.replicate_append_replicate]
    exact hrow
  · show (if g < wr.heap.size then col g else 9) = 9
    rcases hbk with e2 | e2
    · rw [e2] at e
      rw [if_pos (h.row.lt e)]
      exact h.rc g e
    · rw [e2] at e
      have : wr.heap.size + 1 = g := by simpa using e
      rw [if_neg (by omega)]
end Dk
end Go.Proofs.Ytnaidihoijociaa
