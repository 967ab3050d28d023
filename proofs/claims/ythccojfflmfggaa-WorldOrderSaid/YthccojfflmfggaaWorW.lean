/- Words of layer 16 (world): a runtime in memory; the outcomes that wait. -/
import Derived.Test.YthccojfflmfggaaRows
import Derived.WalkKit
import Derived.BigQuiet
import Derived.Deep.QuietTactic
import Derived.WalkLawsBesides
import Derived.WalkSpells
import Derived.OwnWalk
import Derived.Lib.Hide
import Derived.Test.YthccojfflmfggaaDelC
import Derived.Test.YthccojfflmfggaaDelI
namespace Go.Proofs.Ythccojfflmfggaa
open Go.RowKit
namespace Wo
theorem elb : Mem.El Try.prog 22 4 (.bool false) 1 1 := ⟨Try.underlying22, by kernel_rfl, rfl, by decide⟩
abbrev QRow (w : World) (A : Option Addr) (n c : Nat) (bs : List Bool) : Prop := Ro.Row w 4 1 A n c (bs.map Value.bool)
/-- a runtime: its retries, the outcomes that wait, its containers, its images -/
structure St where
  rt : Int
  outs : List Bool
  bx : List ConV
  im : List ImgV
/-- where its parts lie -/
structure AtL (w : World) (g : Nat) (s : St) (S : Nat → Prop) (AQ : Option Addr) (nq cq : Nat) (AB : Option Addr) (nb cb : Nat) (AI : Option Addr) (ni ci : Nat) : Prop where
  blk : Mem.Blk w g 33 #[.slice AQ nq cq, .int .i64 s.rt, .slice AB nb cb, .slice AI ni ci]
  q : QRow w AQ nq cq s.outs
  b : CRow w AB nb cb s.bx
  i : IRow w AI ni ci s.im
  sg : S g
  sq : ∀ k, Ro.blk AQ = some k → S k
  sb : ∀ k, Ro.blk AB = some k → S k
  si : ∀ k, Ro.blk AI = some k → S k
def At (w : World) (g : Nat) (s : St) (S : Nat → Prop) : Prop := ∃ AQ nq cq AB nb cb AI ni ci, AtL w g s S AQ nq cq AB nb cb AI ni ci
/-- what is the runtime's then: what was, and what was made -/
def ext (S : Nat → Prop) (w w' : World) (k : Nat) : Prop := S k ∨ (w.heap.size ≤ k ∧ k < w'.heap.size)
structure Post (S : Nat → Prop) (w w' : World) (g : Nat) (s : St) : Prop where
  at_ : At w' g s (ext S w w')
  only : Ro.Only S w w'
section
variable {w w' w1 : World} {g : Nat} {s : St} {S T : Nat → Prop} {AQ AB AI : Option Addr} {nq cq nb cb ni ci : Nat}
theorem AtL.mono (h : AtL w g s S AQ nq cq AB nb cb AI ni ci) (hS : ∀ k, k < w.heap.size → S k → T k) : AtL w g s T AQ nq cq AB nb cb AI ni ci :=
  ⟨h.blk, h.q, h.b, h.i, hS _ h.blk.lt h.sg, fun k hk => hS k (h.q.lt hk) (h.sq k hk), fun k hk => hS k (h.b.lt hk) (h.sb k hk), fun k hk => hS k (h.i.lt hk) (h.si k hk)⟩
theorem AtL.keep (h : AtL w g s S AQ nq cq AB nb cb AI ni ci) (hk : ∀ k, k < w.heap.size → S k → w'.heap[k]? = w.heap[k]?) : AtL w' g s S AQ nq cq AB nb cb AI ni ci :=
  ⟨(hk g h.blk.lt h.sg).trans h.blk, h.q.keep fun k e => hk k (h.q.lt e) (h.sq k e), h.b.keep fun k e => hk k (h.b.lt e) (h.sb k e), h.i.keep fun k e => hk k (h.i.lt e) (h.si k e), h.sg, h.sq, h.sb, h.si⟩
theorem At.keep (h : At w g s S) (hk : ∀ k, k < w.heap.size → S k → w'.heap[k]? = w.heap[k]?) : At w' g s S := by
  obtain ⟨_, _, _, _, _, _, _, _, _, h⟩ := h
  exact ⟨_, _, _, _, _, _, _, _, _, h.keep hk⟩
theorem At.mono (h : At w g s S) (hS : ∀ k, k < w.heap.size → S k → T k) : At w g s T := by
  obtain ⟨_, _, _, _, _, _, _, _, _, h⟩ := h
  exact ⟨_, _, _, _, _, _, _, _, _, h.mono hS⟩
theorem At.below (h : At w g s S) (hb : Below w.heap.size w w') : At w' g s S := h.keep fun k hk _ => hb.block k hk
theorem At.lt (h : At w g s S) : g < w.heap.size := by
  obtain ⟨_, _, _, _, _, _, _, _, _, h⟩ := h
  exact h.blk.lt
theorem Post.of_below (h : At w g s S) (hb : Below w.heap.size w w') : Post S w w' g s := ⟨(h.below hb).mono fun _ _ c => .inl c, .of_below hb⟩
theorem ext_trans {k : Nat} (h1 : w.heap.size ≤ w1.heap.size) (h2 : w1.heap.size ≤ w'.heap.size) (h : ext (ext S w w1) w1 w' k) : ext S w w' k := by
  rcases h with (h | h) | h
  · exact .inl h
  · exact .inr ⟨h.1, by omega⟩
  · exact .inr ⟨by omega, h.2⟩
theorem Post.trans {s1 : St} (h : Post S w w1 g s1) (h2 : Post (ext S w w1) w1 w' g s) : Post S w w' g s :=
  ⟨h2.at_.mono fun _ _ c => ext_trans h.only.size h2.only.size c, h.only.trans h2.only fun k hk c => by
    rcases c with c | c
    · exact c
    · omega⟩
theorem Post.mono_S (h : Post S w w' g s) (hS : ∀ k, S k → T k) : Post T w w' g s :=
  ⟨h.at_.mono fun k _ c => c.imp (hS k) id, h.only.mono fun k _ c => hS k c⟩
theorem Post.of_only {s1 : St} (h : At w' g s1 (ext S w w')) (ho : Ro.Only S w w') : Post S w w' g s1 := ⟨h, ho⟩
/-- a field is stored -/
theorem AtL.setQ (h : AtL w g s S AQ nq cq AB nb cb AI ni ci) {A : Option Addr} {n c : Nat} {outs : List Bool} (hR : QRow w A n c outs) (hS : ∀ k, Ro.blk A = some k → S k) :
    AtL (w.setCell ⟨g, 0, none⟩ (.slice A n c)) g { s with outs := outs } S A n c AB nb cb AI ni ci :=
  ⟨h.blk.set_ 0 _, hR.only (Ro.Only.setCell _ _ _) (hR.apartB h.blk (by decide)), h.b.only (Ro.Only.setCell _ _ _) (h.b.apartB h.blk (by decide)), h.i.only (Ro.Only.setCell _ _ _) (h.i.apartB h.blk (by decide)), h.sg, hS, h.sb, h.si⟩
theorem AtL.setB (h : AtL w g s S AQ nq cq AB nb cb AI ni ci) {A : Option Addr} {n c : Nat} {bx : List ConV} (hR : CRow w A n c bx) (hS : ∀ k, Ro.blk A = some k → S k) :
    AtL (w.setCell ⟨g, 2, none⟩ (.slice A n c)) g { s with bx := bx } S AQ nq cq A n c AI ni ci :=
  ⟨h.blk.set_ 2 _, h.q.only (Ro.Only.setCell _ _ _) (h.q.apartB h.blk (by decide)), hR.only (Ro.Only.setCell _ _ _) (hR.apartB h.blk (by decide)), h.i.only (Ro.Only.setCell _ _ _) (h.i.apartB h.blk (by decide)), h.sg, h.sq, hS, h.si⟩
theorem AtL.setI (h : AtL w g s S AQ nq cq AB nb cb AI ni ci) {A : Option Addr} {n c : Nat} {im : List ImgV} (hR : IRow w A n c im) (hS : ∀ k, Ro.blk A = some k → S k) :
    AtL (w.setCell ⟨g, 3, none⟩ (.slice A n c)) g { s with im := im } S AQ nq cq AB nb cb A n c :=
  ⟨h.blk.set_ 3 _, h.q.only (Ro.Only.setCell _ _ _) (h.q.apartB h.blk (by decide)), h.b.only (Ro.Only.setCell _ _ _) (h.b.apartB h.blk (by decide)), hR.only (Ro.Only.setCell _ _ _) (hR.apartB h.blk (by decide)), h.sg, h.sq, h.sb, hS⟩
/-- the queue's block is turned, or a new one is made: the rest stays -/
theorem AtL.onlyQ (h : AtL w g s S AQ nq cq AB nb cb AI ni ci) (ho : Ro.Only (fun k => Ro.blk AQ = some k) w w') :
    Mem.Blk w' g 33 #[.slice AQ nq cq, .int .i64 s.rt, .slice AB nb cb, .slice AI ni ci] ∧ CRow w' AB nb cb s.bx ∧ IRow w' AI ni ci s.im :=
  ⟨(ho.block g h.blk.lt (fun e => h.q.apartB h.blk (by decide) g e rfl)).trans h.blk, h.b.only ho (h.b.apart h.q (by decide)), h.i.only ho (h.i.apart h.q (by decide))⟩
theorem AtL.onlyB (h : AtL w g s S AQ nq cq AB nb cb AI ni ci) (ho : Ro.Only (fun k => Ro.blk AB = some k) w w') :
    Mem.Blk w' g 33 #[.slice AQ nq cq, .int .i64 s.rt, .slice AB nb cb, .slice AI ni ci] ∧ QRow w' AQ nq cq s.outs ∧ IRow w' AI ni ci s.im :=
  ⟨(ho.block g h.blk.lt (fun e => h.b.apartB h.blk (by decide) g e rfl)).trans h.blk, h.q.only ho (h.q.apart h.b (by decide)), h.i.only ho (h.i.apart h.b (by decide))⟩
theorem AtL.lens (h : AtL w g s S AQ nq cq AB nb cb AI ni ci) : s.outs.length = nq ∧ s.bx.length = nb ∧ s.im.length = ni := by
  have h1 := h.q.1
  have h2 := h.b.1
  have h3 := h.i.1
  rw [ConV.flat_len] at h2
  rw [ImgV.flat_len] at h3
  simp at h1
  omega
end
/-- the first outcome -/
def tk : List Bool → Bool
  | [] => true
  | x :: _ => x
set_option maxRecDepth 100000 in
set_option maxHeartbeats 4000000 in
theorem take_c (g : Nat) (s : St) (S : Nat → Prop) (w : World) (h : At w g s S) :
    Calls Try.prog 32 #[.pointer (some ⟨g, 0, none⟩)] w fun e w' => e = .returned (.bool (tk s.outs)) ∧ Post S w w' g { s with outs := s.outs.tail } := by
  obtain ⟨AQ, nq, cq, AB, nb, cb, AI, ni, ci, h⟩ := h
  obtain ⟨l1, _, _⟩ := h.lens
  have m0 : w.cell? ⟨g, 0, none⟩ = some (.slice AQ nq cq) := h.blk.cell 0
  have f0 := h.blk.frozen 0
  have hle := h.q.le
  have hcm := hle.2
  unfold maxLen at hcm
  obtain ⟨rt, outs, bx, im⟩ := s
  dsimp only at *
  cases outs with
  | nil =>
    obtain rfl : nq = 0 := by simpa using l1.symm
    have hp : Hid (Post S w w g ⟨rt, [], bx, im⟩) := Post.of_below ⟨_, _, _, _, _, _, _, _, _, h⟩ (Below.refl _ _)
    clear h
    go_enter Try.func32, Try.ntmps32
    go_wp2_with fail
    go_ret
    exact ⟨rfl, hp.out⟩
  | cons x outs =>
    have hn : 0 < nq := by simp at l1; omega
    obtain ⟨g', off, rfl⟩ := h.q.some_of (by omega)
    have hc0 : w.cell? ⟨g', off, none⟩ = some (.bool x) := h.q.cell 0 (by simp)
    have hfrom := h.q.from_ 1 (by omega)
    have hsl : Hid (∀ A, A = (if cq = 1 then some (⟨g', off, none⟩ : Addr) else some ⟨g', off + 1, none⟩) → Post S w (w.setCell ⟨g, 0, none⟩ (.slice A (nq - 1) (cq - 1))) g ⟨rt, outs, bx, im⟩) := by
      rintro A rfl
      have hR : QRow w (if cq = 1 then some (⟨g', off, none⟩ : Addr) else some ⟨g', off + 1, none⟩) (nq - 1) (cq - 1) outs := by
        have e : ((x :: outs).map Value.bool).drop (1 * 1) = outs.map Value.bool := by simp
        rw [Nat.one_mul] at hfrom e
        rw [e] at hfrom
        exact hfrom
      have hS := h.sq
      have h2 := h.setQ hR (fun k hk => hS k (by split at hk <;> exact hk))
      refine ⟨(show At _ g ⟨rt, outs, bx, im⟩ S from ⟨_, _, _, _, _, _, _, _, _, h2⟩).mono fun _ _ c => .inl c, (Ro.Only.setCell _ _ _).mono fun k _ e => by rw [e]; exact h.sg⟩
    have d : ((nq : Int) == 0) = false := beq_eq_false_iff_ne.2 (by omega)
    clear hfrom h
    by_cases hc1 : cq = 1
    · subst hc1
      have hp := Lib.hid (hsl.out _ rfl)
      obtain rfl : nq = 1 := by omega
      simp only [if_true, Nat.sub_self] at hp
      clear hsl
      go_enter Try.func32, Try.ntmps32
      go_wp2_with fail
      go_ret
      exact ⟨rfl, hp.out⟩
    · have hp := Lib.hid (hsl.out _ rfl)
      rw [if_neg hc1] at hp
      clear hsl
      go_enter Try.func32, Try.ntmps32
      go_wp2_with fail
      go_ret
      exact ⟨rfl, hp.out⟩
set_option maxRecDepth 100000 in
set_option maxHeartbeats 4000000 in
theorem feed_c (g : Nat) (s : St) (S : Nat → Prop) (A : Option Addr) (n c : Nat) (bs : List Bool) (w : World) (h : At w g s S) (hw : Mem.Sl w w.heap.size 1 A n (bs.map Value.bool)) (hn : n ≤ 1000000) (ho : s.outs.length ≤ 4096) :
    Calls Try.prog 13 #[.pointer (some ⟨g, 0, none⟩), .slice A n c] w fun e w' => (4096 < s.outs.length + n → e = .returned (.int .i64 6) ∧ Post S w w' g s) ∧ (s.outs.length + n ≤ 4096 → e = .returned (.int .i64 0) ∧ Post S w w' g { s with outs := s.outs ++ bs }) := by
  obtain ⟨AQ, nq, cq, AB, nb, cb, AI, ni, ci, h⟩ := h
  obtain ⟨l1, _, _⟩ := h.lens
  have m0 : w.cell? ⟨g, 0, none⟩ = some (.slice AQ nq cq) := h.blk.cell 0
  have hle := h.q.le
  by_cases hf : 4096 < s.outs.length + n
  · have d : decide ((nq : Int) + (n : Int) > 4096) = true := decide_eq_true (by omega)
    have hp : Hid (Post S w w g s) := Post.of_below ⟨_, _, _, _, _, _, _, _, _, h⟩ (Below.refl _ _)
    have HF := Lib.hid hf
    clear h hw hf
    go_enter Try.func13, Try.ntmps13
    go_wp2_with fail
    go_ret
    exact ⟨fun _ => ⟨rfl, hp.out⟩, fun c => by have := HF.out; omega⟩
  · have d : decide ((nq : Int) + (n : Int) > 4096) = false := decide_eq_false (by omega)
    obtain ⟨A', c', w1, hr, hR, hO, hb⟩ := Ro.app (P := Try.prog) (ty := 22) (c2 := c) elb h.q hw (by intro u hu; obtain ⟨b, _, rfl⟩ := List.mem_map.1 hu; rfl) (by unfold maxLen; omega) (by omega)
    obtain ⟨hB, hb2, hi2⟩ := h.onlyQ hO
    have m1 : w1.cell? ⟨g, 0, none⟩ = some (.slice AQ nq cq) := hB.cell 0
    have f1 := hB.frozen 0
    have hlt : ∀ k, Ro.blk A' = some k → k < w1.heap.size := fun k hk => hR.lt hk
    have hsz := hO.size
    have hp : Hid (Post S w (w1.setCell ⟨g, 0, none⟩ (.slice A' (nq + n) c')) g { s with outs := s.outs ++ bs }) := by
      have h2 : AtL w1 g s (ext S w w1) AQ nq cq AB nb cb AI ni ci ∨ True := .inr trivial
      have hnew : ∀ k, Ro.blk A' = some k → ext S w w1 k := by
        intro k hk
        rcases hb with hb | hb
        · exact .inl (h.sq k (by rw [← hb]; exact hk))
        · rw [hb] at hk
          have : w.heap.size = k := by simpa using hk
          exact .inr ⟨by omega, hlt k (by rw [hb]; exact hk)⟩
      have hR' : QRow w1 A' (nq + n) c' (s.outs ++ bs) := by unfold QRow; rw [List.map_append]; exact hR
      have hat : AtL (w1.setCell ⟨g, 0, none⟩ (.slice A' (nq + n) c')) g { s with outs := s.outs ++ bs } (ext S w w1) A' (nq + n) c' AB nb cb AI ni ci :=
        ⟨hB.set_ 0 _, hR'.only (Ro.Only.setCell _ _ _) (hR'.apartB hB (by decide)), hb2.only (Ro.Only.setCell _ _ _) (hb2.apartB hB (by decide)), hi2.only (Ro.Only.setCell _ _ _) (hi2.apartB hB (by decide)), .inl h.sg, hnew, fun k hk => .inl (h.sb k hk), fun k hk => .inl (h.si k hk)⟩
      refine ⟨(show At _ g _ (ext S w w1) from ⟨_, _, _, _, _, _, _, _, _, hat⟩).mono fun k _ c => ?_, (hO.mono (fun k _ e => h.sq k e)).trans (Ro.Only.setCell _ _ _) fun k _ e => by rw [e]; exact h.sg⟩
      rcases c with c | c
      · exact .inl c
      · exact .inr ⟨c.1, by simpa using c.2⟩
    have HF := Lib.hid hf
    clear h hw hf hR hO hb hB hb2 hi2 hlt
    go_enter Try.func13, Try.ntmps13
    go_wp2_with (at_builtin; refine Ro.wpList_app rfl _ _ _ _ rfl _ _ rfl rfl hr ?_)
    go_ret
    exact ⟨fun c => absurd c HF.out, fun _ => ⟨rfl, hp.out⟩⟩
end Wo
end Go.Proofs.Ythccojfflmfggaa
