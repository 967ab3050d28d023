/- Layer 11 (ckpt): the plain law: the files of a checkpoint; what a save's steps, a crash and an opening make of them. -/
import Derived.Test.YtnaidihoijociaaDkQ
namespace Go.Proofs.Ytnaidihoijociaa
open Go.RowKit Go.Maps
namespace Ck
open Dk Bs
open Crc (Byte)
abbrev tM : ByteArray := ⟨#[109, 97, 105, 110]⟩
abbrev tT : ByteArray := ⟨#[116, 101, 109, 112]⟩
def kM : Key := [109, 97, 105, 110]
def kT : Key := [116, 101, 109, 112]
/-- the files "main" and "temp" -/
def fsOf (m t : Option (List Byte)) : Files := (match m with | some b => [(kM, b)] | none => []) ++ (match t with | some b => [(kT, b)] | none => [])
section
variable (m t : Option (List Byte)) (x : List Byte)
theorem get_main : fget (fsOf m t) (key tM) = m := by cases m <;> cases t <;> kernel_rfl
theorem get_temp : fget (fsOf m t) (key tT) = t := by cases m <;> cases t <;> kernel_rfl
theorem wr_temp : app1 (fsOf m t) ⟨1, tT, t0, x⟩ = fsOf m (some x) := by cases m <;> cases t <;> kernel_rfl
theorem wr_main : app1 (fsOf m t) ⟨1, tM, t0, x⟩ = fsOf (some x) t := by cases m <;> cases t <;> kernel_rfl
theorem rm_temp : app1 (fsOf m t) ⟨3, tT, t0, []⟩ = fsOf m none := by cases m <;> cases t <;> kernel_rfl
theorem ren_temp : app1 (fsOf m (some x)) ⟨2, tT, tM, []⟩ = fsOf (some x) none := by cases m <;> kernel_rfl
theorem len_of : (fsOf m t).length ≤ 2 := by cases m <;> cases t <;> simp [fsOf]
theorem rise_of : Rise (fsOf m t) := by
  cases m <;> cases t
  · exact List.Pairwise.nil
  · exact List.pairwise_singleton _ _
  · exact List.pairwise_singleton _ _
  · refine List.pairwise_cons.2 ⟨fun p hp => ?_, List.pairwise_singleton _ _⟩
    have hp' := List.mem_singleton.1 hp
    subst hp'
    show bytesBefore kM kT = true
    decide
end
/-- lengths that are told of -/
def Lim (m : Option (List Byte)) : Prop := ∀ b, m = some b → b.length ≤ 100000
theorem Lim.none : Lim none := fun _ h => by cases h
theorem Lim.some {b : List Byte} (h : b.length ≤ 100000) : Lim (some b) := fun _ e => by cases e; exact h
theorem fits_of {m t : Option (List Byte)} (hm : Lim m) (ht : Lim t) : Fits 2 ⟨fsOf m t, []⟩ := by
  refine ⟨by have := len_of m t; simpa using this, fun _ h => (by cases h), fun p hp => ?_, fun p hp => ?_, rise_of m t⟩
  · unfold fsOf at hp
    rcases List.mem_append.1 hp with hp | hp
    · cases m with
      | none => cases hp
      | some b => have hp' := List.mem_singleton.1 hp; subst hp'; exact hm b rfl
    · cases t with
      | none => cases hp
      | some b => have hp' := List.mem_singleton.1 hp; subst hp'; exact ht b rfl
  · unfold fsOf at hp
    rcases List.mem_append.1 hp with hp | hp
    · cases m with
      | none => cases hp
      | some b => have hp' := List.mem_singleton.1 hp; subst hp'; exact (show (4 : Nat) ≤ maxLen by decide)
    · cases t with
      | none => cases hp
      | some b => have hp' := List.mem_singleton.1 hp; subst hp'; exact (show (4 : Nat) ≤ maxLen by decide)
def oW (x : List Byte) : OpA := ⟨1, tT, t0, x⟩
def oR : OpA := ⟨2, tT, tM, []⟩
/-- the disk behind so many steps of a save -/
def stepS (fr : List Byte) (m : Option (List Byte)) : Nat → Ds
  | 0 => ⟨fsOf m none, []⟩
  | 1 => ⟨fsOf m none, [oW fr]⟩
  | 2 => ⟨fsOf m (some fr), []⟩
  | 3 => ⟨fsOf m (some fr), [oR]⟩
  | _ => ⟨fsOf (some fr) none, []⟩
theorem step0 (fr : List Byte) (m : Option (List Byte)) : doS (stepS fr m 0) ⟨1, tT, t0, fr⟩ = stepS fr m 1 := by
  unfold doS
  rw [if_pos (show right ⟨1, tT, t0, fr⟩ = true by kernel_rfl)]
  rfl
theorem step1 (fr : List Byte) (m : Option (List Byte)) : (⟨Dk.look (stepS fr m 1), []⟩ : Ds) = stepS fr m 2 := by
  show (⟨app1 (fsOf m none) ⟨1, tT, t0, fr⟩, []⟩ : Ds) = _
  rw [wr_temp]
  rfl
theorem step2 (fr : List Byte) (m : Option (List Byte)) : doS (stepS fr m 2) ⟨2, tT, tM, []⟩ = stepS fr m 3 := by
  unfold doS
  rw [if_pos (show right ⟨2, tT, tM, []⟩ = true by kernel_rfl)]
  rfl
theorem step3 (fr : List Byte) (m : Option (List Byte)) : (⟨Dk.look (stepS fr m 3), []⟩ : Ds) = stepS fr m 4 := by
  show (⟨app1 (fsOf m (some fr)) ⟨2, tT, tM, []⟩, []⟩ : Ds) = _
  rw [ren_temp]
  rfl
theorem fits_step {fr : List Byte} {m : Option (List Byte)} (hm : Lim m) (hf : fr.length ≤ 100000) : ∀ k, Fits 4 (stepS fr m k)
  | 0 => (fits_of hm .none).mono (by omega)
  | 1 => by
    refine Fits.mono (Fits.does (o := oW fr) (fits_of hm .none) ⟨show (4 : Nat) ≤ maxLen by decide, show (0 : Nat) ≤ maxLen by decide, hf⟩) (by omega)
  | 2 => (fits_of hm (.some hf)).mono (by omega)
  | 3 => by
    refine Fits.mono (Fits.does (o := oR) (fits_of hm (.some hf)) ⟨show (4 : Nat) ≤ maxLen by decide, show (4 : Nat) ≤ maxLen by decide, Nat.zero_le _⟩) (by omega)
  | k + 4 => (fits_of (.some hf) .none).mono (by omega)
/-- keeps a crash the first act? -/
def kept (keep : List Int) : Bool := match keep with | z :: _ => z != 0 | [] => false
/-- what "main" is behind a crash -/
def afterC (fr : List Byte) (m : Option (List Byte)) (k : Nat) (keep : List Int) : Option (List Byte) := if 4 ≤ k ∨ (k = 3 ∧ kept keep = true) then some fr else m
theorem crash_no (l : Files) (keep : List Int) : crashF l [] keep = l := by
  show (([] : List OpA).zip keep).foldl (fun l p => crash1 l p.1 p.2) l = l
  rw [List.zip_nil_left]
  rfl
theorem crash_one (l : Files) (o : OpA) : ∀ keep : List Int, crashF l [o] keep = (match keep with | z :: _ => crash1 l o z | [] => l)
  | [] => rfl
  | z :: r => by
    show (([o] : List OpA).zip (z :: r)).foldl (fun l p => crash1 l p.1 p.2) l = _
    rw [List.zip_cons_cons, List.zip_nil_left]
    rfl
theorem crash_of {fr : List Byte} (m : Option (List Byte)) (hf : fr.length ≤ 100000) (keep : List Int) (k : Nat) : ∃ t, crashF (stepS fr m k).fs (stepS fr m k).op keep = fsOf (afterC fr m k keep) t ∧ Lim t := by
  match k with
  | 0 => exact ⟨none, crash_no _ _, .none⟩
  | 1 =>
    show ∃ t, crashF (fsOf m none) [oW fr] keep = _ ∧ _
    rw [crash_one]
    match keep with
    | [] => exact ⟨none, rfl, .none⟩
    | z :: r =>
      dsimp only
      unfold crash1
      split
      · exact ⟨none, rfl, .none⟩
      · unfold cutOp
        split
        · exact ⟨_, wr_temp m none _, .some (by show (fr.take _).length ≤ _; simp; omega)⟩
        · exact ⟨_, wr_temp m none _, .some hf⟩
  | 2 => exact ⟨some fr, crash_no _ _, .some hf⟩
  | 3 =>
    show ∃ t, crashF (fsOf m (some fr)) [oR] keep = _ ∧ _
    rw [crash_one]
    match keep with
    | [] => exact ⟨some fr, rfl, .some hf⟩
    | z :: r =>
      dsimp only
      unfold crash1 afterC kept
      by_cases hz : z = 0
      · subst hz
        exact ⟨some fr, rfl, .some hf⟩
      · rw [if_neg hz, if_pos (.inr ⟨rfl, by simpa using hz⟩)]
        refine ⟨none, ?_, .none⟩
        unfold cutOp
        rw [if_neg (by rintro ⟨h, _⟩; cases h)]
        exact ren_temp m fr
  | k + 4 =>
    refine ⟨none, ?_, .none⟩
    unfold afterC
    rw [if_pos (.inl (by omega))]
    exact crash_no _ _
end Ck
end Go.Proofs.Ytnaidihoijociaa
