/- Layer 10 (disk): the plain law: what stays right of files; two disks alike. -/
import Derived.Test.YtnaidihoijociaaDkI
namespace Go.Proofs.Ytnaidihoijociaa
open Go.RowKit Go.Maps
namespace Dk
open Bs
open Crc (Byte)
section
variable {α : Type} {l : List (Key × α)} {k : Key} {x : α}
theorem mem_ins {p : Key × α} (h : p ∈ ins k x l) : p = (k, x) ∨ p ∈ l := by
  induction l with
  | nil => simp [ins] at h; exact .inl h
  | cons y r ih =>
    unfold ins at h
    split at h
    · rcases List.mem_cons.1 h with h | h
      · exact .inl h
      · exact .inr h
    · rcases List.mem_cons.1 h with h | h
      · exact .inr (by simp [h])
      · exact (ih h).imp id fun h => by simp [h]
theorem rise_del (h : Rise l) (k : Key) : Rise (fdel l k) := List.Pairwise.filter _ h
theorem not_del {p : Key × α} (hp : p ∈ fdel l k) : p.1 ≠ k := by
  have := (List.mem_filter.1 hp).2
  simpa using this
theorem rise_ins (h : Rise l) (hn : ∀ p ∈ l, p.1 ≠ k) : Rise (ins k x l) := by
  induction l with
  | nil => exact List.pairwise_singleton _ _
  | cons y r ih =>
    obtain ⟨h1, h2⟩ := List.pairwise_cons.1 h
    unfold ins
    split
    · rename_i c
      refine List.pairwise_cons.2 ⟨fun p hp => ?_, h⟩
      rcases List.mem_cons.1 hp with rfl | hp
      · exact c
      · exact Go.WideShapes.bytes_trans _ _ _ c (h1 p hp)
    · rename_i c
      have hy : bytesBefore y.1 k = true := by
        rcases Go.WideAt.bytes_total y.1 k (hn y (by simp)) with e | e
        · exact e
        · exact absurd e c
      refine List.pairwise_cons.2 ⟨fun p hp => ?_, ih h2 (fun p hp => hn p (by simp [hp]))⟩
      rcases mem_ins hp with rfl | hp
      · exact hy
      · exact h1 p hp
theorem rise_put (h : Rise l) (k : Key) (x : α) : Rise (fput l k x) := rise_ins (rise_del h k) fun _ hp => not_del hp
theorem get_at (h : Rise l) {i : Nat} (hi : i < l.length) : fget l l[i].1 = some l[i].2 := by
  induction l generalizing i with
  | nil => cases hi
  | cons y r ih =>
    obtain ⟨h1, h2⟩ := List.pairwise_cons.1 h
    cases i with
    | zero =>
      unfold fget
      rw [List.find?_cons_of_pos (by simp)]
      rfl
    | succ i =>
      have hi' : i < r.length := by simpa using hi
      have hne : ¬ (y.1 == r[i].1) = true := by
        intro e
        have := h1 r[i] (List.getElem_mem hi')
        rw [beq_iff_eq] at e
        rw [e, Go.WideAt.bytes_irrefl] at this
        cases this
      have e : fget (y :: r) (y :: r)[i + 1].1 = fget r r[i].1 := by
        unfold fget
        rw [List.getElem_cons_succ, List.find?_cons_of_neg (p := fun p : Key × α => p.1 == r[i].1) hne]
      rw [e, ih h2 hi']
      rfl
end
theorem rise_app {l : Files} (h : Rise l) (o : OpA) : Rise (app1 l o) := by
  unfold app1
  split
  · exact rise_put h _ _
  split
  · exact rise_del h _
  split
  · split
    · exact rise_put (rise_del h _) _ _
    · exact h
  · exact h
theorem rise_fold (os : List OpA) : ∀ {l : Files}, Rise l → Rise (os.foldl app1 l) := by
  induction os with
  | nil => exact fun h => h
  | cons o os ih => exact fun h => ih (rise_app h o)
theorem fk_app {l : Files} {o : OpA} (h : ∀ p ∈ l, p.1.length ≤ maxLen) (h1 : o.name.size ≤ maxLen) (h2 : o.nto.size ≤ maxLen) : ∀ p ∈ app1 l o, p.1.length ≤ maxLen := by
  have hdel : ∀ k, ∀ p ∈ fdel l k, p.1.length ≤ maxLen := fun k p hp => h p (List.mem_filter.1 hp).1
  have key_len : ∀ s : ByteArray, (key s).length = s.size := fun s => by simp [key]
  unfold app1
  split
  · intro p hp
    rcases mem_ins hp with rfl | hp
    · show (key o.name).length ≤ maxLen
      rw [key_len]; exact h1
    · exact hdel _ p hp
  split
  · exact hdel _
  split
  · split
    · intro p hp
      rcases mem_ins hp with rfl | hp
      · show (key o.nto).length ≤ maxLen
        rw [key_len]; exact h2
      · exact hdel _ p (List.mem_filter.1 hp).1
    · exact h
  · exact h
/-- what may be done -/
def OkOp (o : OpA) : Prop := o.name.size ≤ maxLen ∧ o.nto.size ≤ maxLen ∧ o.bytes.length ≤ 100000
/-- a disk that is in order, and not too great -/
structure Fits (N : Nat) (s : Ds) : Prop where
  len : s.fs.length + s.op.length ≤ N
  ok : ∀ o ∈ s.op, OkOp o
  fb : ∀ p ∈ s.fs, p.2.length ≤ 100000
  fk : ∀ p ∈ s.fs, p.1.length ≤ maxLen
  rise : Rise s.fs
section
variable {N : Nat} {s : Ds} {o : OpA}
theorem Fits.good (h : Fits N s) (hN : N ≤ 1000) : Good s := ⟨by have := h.len; omega, by have := h.len; omega, h.ok, h.fb, h.fk⟩
theorem Fits.nil : Fits 0 ⟨[], []⟩ := ⟨Nat.le_refl _, fun _ h => (by cases h), fun _ h => (by cases h), fun _ h => (by cases h), List.Pairwise.nil⟩
theorem Fits.mono (h : Fits N s) {N' : Nat} (hN : N ≤ N') : Fits N' s := ⟨Nat.le_trans h.len hN, h.ok, h.fb, h.fk, h.rise⟩
theorem Fits.does (h : Fits N s) (ho : OkOp o) : Fits (N + 1) ⟨s.fs, s.op ++ [o]⟩ := by
  refine ⟨by have := h.len; simp; omega, fun o' h' => ?_, h.fb, h.fk, h.rise⟩
  rcases List.mem_append.1 h' with h' | h'
  · exact h.ok o' h'
  · rw [List.mem_singleton] at h'; subst h'; exact ho
theorem fk_fold (os : List OpA) : ∀ {l : Files}, (∀ p ∈ l, p.1.length ≤ maxLen) → (∀ o ∈ os, OkOp o) → ∀ p ∈ os.foldl app1 l, p.1.length ≤ maxLen := by
  induction os with
  | nil => exact fun h _ => h
  | cons o os ih => exact fun h ho => ih (fk_app h (ho o (by simp)).1 (ho o (by simp)).2.1) (fun o' h' => ho o' (by simp [h']))
theorem Fits.look (h : Fits N s) : Fits N ⟨look s, []⟩ :=
  ⟨by have := len_fold s.fs s.op; have := h.len; show (s.op.foldl app1 s.fs).length + 0 ≤ N; omega, fun _ h => (by cases h), fb_fold s.op h.fb (fun o ho => (h.ok o ho).2.2), fk_fold s.op h.fk h.ok, rise_fold s.op h.rise⟩
theorem ok_cut (ho : OkOp o) (z : Int) : OkOp (cutOp o z) := by
  unfold cutOp
  split
  · exact ⟨ho.1, ho.2.1, by show (o.bytes.take _).length ≤ _; have := ho.2.2; simp; omega⟩
  · exact ho
theorem Fits.crash (h : Fits N s) (keep : List Int) : Fits N ⟨crashF s.fs s.op keep, []⟩ := by
  have key : ∀ (ps : List (OpA × Int)) (l : Files), (∀ p ∈ ps, OkOp p.1) → ((∀ p ∈ l, p.2.length ≤ 100000) ∧ (∀ p ∈ l, p.1.length ≤ maxLen) ∧ Rise l) → ((∀ p ∈ ps.foldl (fun l p => crash1 l p.1 p.2) l, p.2.length ≤ 100000) ∧ (∀ p ∈ ps.foldl (fun l p => crash1 l p.1 p.2) l, p.1.length ≤ maxLen) ∧ Rise (ps.foldl (fun l p => crash1 l p.1 p.2) l)) := by
    intro ps
    induction ps with
    | nil => exact fun _ _ h => h
    | cons p ps ih =>
      intro l hp hl
      rw [List.foldl_cons]
      refine ih _ (fun p' h' => hp p' (by simp [h'])) ?_
      unfold crash1
      split
      · exact hl
      · have ho := ok_cut (hp p (by simp)) p.2
        exact ⟨fb_app hl.1 ho.2.2, fk_app hl.2.1 ho.1 ho.2.1, rise_app hl.2.2 _⟩
  obtain ⟨k1, k2, k3⟩ := key (s.op.zip keep) s.fs (fun p hp => h.ok p.1 (List.of_mem_zip hp).1) ⟨h.fb, h.fk, h.rise⟩
  refine ⟨?_, fun _ h => (by cases h), k1, k2, k3⟩
  have := len_crash (s.op.zip keep) s.fs
  have h2 := h.len
  show (crashF s.fs s.op keep).length + 0 ≤ N
  unfold crashF
  simp only [List.length_zip] at this
  omega
end
end Dk
end Go.Proofs.Ytnaidihoijociaa
