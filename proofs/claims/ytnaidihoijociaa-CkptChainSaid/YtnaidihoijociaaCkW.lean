/- Layer 11 (ckpt): a disk and, beside it, blocks and rows of bytes that are kept. -/
import Derived.Test.YtnaidihoijociaaCkL
import Derived.Test.YtnaidihoijociaaFrameG
namespace Go.Proofs.Ytnaidihoijociaa
open Go.RowKit Go.Maps
namespace Ck
open Dk Bs
open Crc (Byte)
def one (g : Nat) (s : Ds) : Dks := upd (fun _ => none) 1 (g, s)
theorem one_1 (g : Nat) (s : Ds) : one g s 1 = some (g, s) := upd_same _ _ _
theorem one_9 (g : Nat) (s : Ds) : one g s 9 = none := rfl
theorem one_up (g : Nat) (s s' : Ds) : upd (one g s) 1 (g, s') = one g s' := upd_upd _ _ _ _
/-- bytes in a row of the law's own -/
structure Rw (w : World) (col : Nat → Nat) (A : Option Addr) (n : Nat) (bs : List Byte) : Prop where
  bs : Bs w w.heap.size A n bs
  own : 0 < n → ∃ g off cur, A = some ⟨g, off, none⟩ ∧ Mem.Blk w g 5 cur ∧ col g = 9
abbrev KL := List (Nat × TypeId × Array Value)
abbrev RL := List (Option Addr × Nat × List Byte)
structure Ckl (W w : World) (col : Nat → Nat) (g : Nat) (s : Ds) (K : KL) (R : RL) : Prop where
  fm : Fm W w col (one g s)
  kb : ∀ x ∈ K, Mem.Blk w x.1 x.2.1 x.2.2 ∧ col x.1 = 9
  rw_ : ∀ x ∈ R, Rw w col x.1 x.2.1 x.2.2
def CK (W w : World) (g : Nat) (s : Ds) (K : KL) (R : RL) : Prop := ∃ col, Ckl W w col g s K R
section
variable {W w w' : World} {col col' : Nat → Nat} {g n c b N : Nat} {s s' : Ds} {K K' : KL} {R R' : RL} {A : Option Addr} {bs : List Byte} {t : TypeId} {cs : Array Value}
theorem Rw.keep (h : Rw w col A n bs) (hz : w.heap.size ≤ w'.heap.size) (hk : ∀ k, k < w.heap.size → col k = 9 → w'.heap[k]? = w.heap[k]?) (hc : ∀ k, k < w.heap.size → col k = 9 → col' k = 9) : Rw w' col' A n bs := by
  refine ⟨⟨h.bs.1, fun hn => ?_⟩, fun hn => ?_⟩
  · obtain ⟨ad, e, hb, hcs⟩ := h.bs.2 hn
    obtain ⟨g, off, cur, e2, hB, h9⟩ := h.own hn
    rw [e] at e2
    cases e2
    refine ⟨_, e, by omega, hcs.keep fun p hp => ?_⟩
    have := hk g hB.lt h9
    unfold World.cell?
    rw [hp, this]
  · obtain ⟨g, off, cur, e2, hB, h9⟩ := h.own hn
    exact ⟨g, off, cur, e2, (hk g hB.lt h9).trans hB, hc g hB.lt h9⟩
theorem Rw.of_row (h : BRow w A n c bs) (hc : ∀ k, Ro.blk A = some k → col k = 9) : Rw w col A n bs := by
  refine ⟨h.sl, fun hn => ?_⟩
  obtain ⟨g, off, rfl⟩ := h.some_of (by have := h.le.1; omega)
  obtain ⟨cur, hB⟩ := h.type (g := g) rfl
  exact ⟨g, off, cur, rfl, hB, hc g rfl⟩
theorem CK.base (h : CK W w g s K R) : Below W.heap.size W w := by obtain ⟨col, h⟩ := h; exact h.fm.base
theorem Ckl.below (h : Ckl W w col g s K R) (hb : Below w.heap.size w w') : Ckl W w' (fun k => if k < w.heap.size then col k else 9) g s K R :=
  ⟨h.fm.below hb (fun _ => 9), fun x hx => ⟨(h.kb x hx).1.belowS hb, (if_pos (h.kb x hx).1.lt).trans (h.kb x hx).2⟩, fun x hx => (h.rw_ x hx).keep hb.size (fun k hk _ => hb.block k hk) (fun k hk e => (if_pos hk).trans e)⟩
theorem CK.below (h : CK W w g s K R) (hb : Below w.heap.size w w') : CK W w' g s K R := by
  obtain ⟨col, h⟩ := h
  exact ⟨_, h.below hb⟩
/-- a new block is kept -/
theorem CK.addK (h : CK W w g s K R) (hb : Below w.heap.size w w') (hB : Mem.Blk w' b t cs) (hn : w.heap.size ≤ b) : CK W w' g s ((b, t, cs) :: K) R := by
  obtain ⟨col, h⟩ := h
  have h' := h.below hb
  refine ⟨_, h'.fm, fun x hx => ?_, h'.rw_⟩
  rcases List.mem_cons.1 hx with rfl | hx
  · exact ⟨hB, if_neg (by show ¬ b < _; omega)⟩
  · exact h'.kb x hx
/-- new bytes are kept -/
theorem CK.addR (h : CK W w g s K R) (hb : Below w.heap.size w w') (hB : Bs w' w'.heap.size A n bs) (hn : 0 < n → ∃ g off cur, A = some ⟨g, off, none⟩ ∧ Mem.Blk w' g 5 cur ∧ w.heap.size ≤ g) : CK W w' g s K ((A, n, bs) :: R) := by
  obtain ⟨col, h⟩ := h
  have h' := h.below hb
  refine ⟨_, h'.fm, h'.kb, fun x hx => ?_⟩
  rcases List.mem_cons.1 hx with rfl | hx
  · refine ⟨hB, fun h0 => ?_⟩
    obtain ⟨q, off, cur, e, e2, e3⟩ := hn h0
    exact ⟨q, off, cur, e, e2, if_neg (by omega)⟩
  · exact h'.rw_ x hx
theorem CK.addRow (h : CK W w g s K R) (hb : Below w.heap.size w w') (hB : BRow w' A n c bs) (hn : ∀ k, Ro.blk A = some k → w.heap.size ≤ k) : CK W w' g s K ((A, n, bs) :: R) :=
  h.addR hb hB.sl fun h0 => by
    obtain ⟨q, off, rfl⟩ := hB.some_of (by have := hB.le.1; omega)
    obtain ⟨cur, hq⟩ := hB.type (g := q) rfl
    exact ⟨q, off, cur, rfl, hq, hn q rfl⟩
theorem CK.sub (h : CK W w g s K R) (hK : ∀ x ∈ K', x ∈ K) (hR : ∀ x ∈ R', x ∈ R) : CK W w g s K' R' := by
  obtain ⟨col, h⟩ := h
  exact ⟨col, h.fm, fun x hx => h.kb x (hK x hx), fun x hx => h.rw_ x (hR x hx)⟩
theorem CK.blk (h : CK W w g s K R) (hx : (b, t, cs) ∈ K) : Mem.Blk w b t cs := by
  obtain ⟨col, h⟩ := h
  exact (h.kb _ hx).1
theorem CK.row (h : CK W w g s K R) (hx : (A, n, bs) ∈ R) : Bs w w.heap.size A n bs := by
  obtain ⟨col, h⟩ := h
  exact (h.rw_ _ hx).bs
/-- a kept block is changed -/
theorem CK.set (h : CK W w g s K R) (i : Nat) (u : Value) (hx : (b, t, cs) ∈ K) (hK : ∀ x ∈ K', x ∈ K ∧ x.1 ≠ b) (ht : t ≠ 5) : CK W (w.setCell ⟨b, i, none⟩ u) g s ((b, t, cs.setIfInBounds i u) :: K') R := by
  obtain ⟨col, h⟩ := h
  have hb := h.kb _ hx
  have h9 : col b = 9 := hb.2
  have ho := Ro.Only.setCell w ⟨b, i, none⟩ u
  refine ⟨col, h.fm.put ho (j := 9) (fun k hk => ?_) (one_9 _ _) (by decide), fun x hx' => ?_, fun x hx' => ?_⟩
  · have hk' : k = b := hk
    rw [hk']; exact h9
  · rcases List.mem_cons.1 hx' with rfl | hx'
    · exact ⟨hb.1.set_ i u, h9⟩
    · obtain ⟨h1, h2⟩ := hK x hx'
      exact ⟨(h.kb x h1).1.far h2, (h.kb x h1).2⟩
  · have hr := h.rw_ x hx'
    refine ⟨⟨hr.bs.1, fun hn => ?_⟩, fun hn => ?_⟩
    · obtain ⟨ad, e, hlt, hcs⟩ := hr.bs.2 hn
      obtain ⟨q, off, cur, e2, hB, h9⟩ := hr.own hn
      rw [e] at e2
      cases e2
      have hne : q ≠ b := by
        rintro rfl
        have h1 := hb.1
        unfold Mem.Blk at h1 hB
        rw [h1] at hB
        cases hB
        exact ht rfl
      refine ⟨_, e, by simpa using hlt, hcs.keep fun p hp => ?_⟩
      have := Below.heap_setCell w ⟨b, i, none⟩ u q hne
      unfold World.cell?
      rw [hp, this]
    · obtain ⟨q, off, cur, e2, hB, h9⟩ := hr.own hn
      have hne : q ≠ b := by
        rintro rfl
        have h1 := hb.1
        unfold Mem.Blk at h1 hB
        rw [h1] at hB
        cases hB
        exact ht rfl
      exact ⟨q, off, cur, e2, hB.far hne, h9⟩
theorem CK.start (h : Fm W w col (one g s)) : CK W w g s [] [] := ⟨col, h, fun _ h => (by cases h), fun _ h => (by cases h)⟩
theorem Ckl.after (h : Ckl W w col g s K R) (ha : After W w col (one g s) 1 g s' w') : CK W w' g s' K R := by
  obtain ⟨col', hc, hF, ho⟩ := ha
  rw [one_up] at hF
  have hne : ∀ k, col k = 9 → ¬ (fun k => col k = 1) k := fun k e z => by
    have z' : col k = 1 := z
    rw [e] at z'
    cases z'
  exact ⟨col', hF, fun x hx => ⟨(ho.block x.1 (h.kb x hx).1.lt (hne _ (h.kb x hx).2)).trans (h.kb x hx).1, (hc _ (h.kb x hx).1.lt).trans (h.kb x hx).2⟩,
    fun x hx => (h.rw_ x hx).keep ho.size (fun k hk e => ho.block k hk (hne k e)) (fun k hk e => (hc k hk).trans e)⟩
theorem CK.does {kind : Int} {name nto : ByteArray} {bA : Option Addr} {bn bc : Nat} {bs : List Byte} {C0 : Nat → Prop} (h : CK W w g s K R) (hs : Fits N s) (hN : N ≤ 1000) (ho : Hold w C0 bA bn bc bs) (h1 : name.size ≤ maxLen) (h2 : nto.size ≤ maxLen) (hn : bn ≤ 100000) :
    Calls Try.prog 16 #[.pointer (some ⟨g, 0, none⟩), .agg #[.int .i64 kind, .string name, .string nto, .slice bA bn bc]] w fun e w' => e = .returned (.int .i64 (doE ⟨kind, name, nto, bs⟩)) ∧ CK W w' g (doS s ⟨kind, name, nto, bs⟩) K R := by
  obtain ⟨col, h⟩ := h
  refine (h.fm.does (one_1 g s) hs hN ho h1 h2 hn).mono ?_
  rintro e w' ⟨rfl, ha⟩
  exact ⟨rfl, h.after ha⟩
theorem CK.sync (h : CK W w g s K R) (hs : Fits N s) (hN : N ≤ 1000) :
    Calls Try.prog 21 #[.pointer (some ⟨g, 0, none⟩)] w fun e w' => e = .returned (.tuple #[]) ∧ CK W w' g ⟨Dk.look s, []⟩ K R := by
  obtain ⟨col, h⟩ := h
  refine (h.fm.sync (one_1 g s) hs hN).mono ?_
  rintro e w' ⟨rfl, ha⟩
  exact ⟨rfl, h.after ha⟩
theorem CK.crash {KA : Option Addr} {kn kc : Nat} {keep : List Int} (h : CK W w g s K R) (hs : Fits N s) (hN : N ≤ 1000) (hk : Mem.Ints W W.heap.size .i64 KA kn keep) (hkz : ∀ z ∈ keep, z ≤ 9223372036854775807) (hkn : kn ≤ 100000) :
    Calls Try.prog 22 #[.pointer (some ⟨g, 0, none⟩), .slice KA kn kc] w fun e w' => e = .returned (.tuple #[]) ∧ CK W w' g ⟨crashF s.fs s.op keep, []⟩ K R := by
  obtain ⟨col, h⟩ := h
  refine (h.fm.crash (one_1 g s) hs hN ((hk.below h.fm.base).more h.fm.base.size) (fun ad e hn c => ?_) hkz hkn).mono ?_
  · obtain ⟨ad', e', hb, _⟩ := hk.2 hn
    rw [e] at e'
    cases e'
    rw [h.fm.old _ hb] at c
    cases c
  · rintro e w' ⟨rfl, ha⟩
    exact ⟨rfl, h.after ha⟩
theorem CK.read {name : ByteArray} (h : CK W w g s K R) (hs : Fits N s) (hN : N ≤ 1000) (hn : name.size ≤ maxLen) :
    Calls Try.prog 18 #[.pointer (some ⟨g, 0, none⟩), .string name] w (ReadSaid w (fget (Dk.look s) (key name))) := by
  obtain ⟨col, h⟩ := h
  exact h.fm.read (one_1 g s) hs hN hn
theorem CK.names (h : CK W w g s K R) (hs : Fits N s) (hN : N ≤ 1000) :
    Calls Try.prog 17 #[.pointer (some ⟨g, 0, none⟩)] w (NamesSaid w ((Dk.look s).map (·.1))) := by
  obtain ⟨col, h⟩ := h
  exact h.fm.names (one_1 g s) hs hN
theorem CK.opens (h : CK W w g s K R) : Calls Try.prog 20 #[.pointer (some ⟨g, 0, none⟩)] w fun e w' => e = .returned (.int .i64 s.op.length) ∧ w' = w := by
  obtain ⟨col, h⟩ := h
  exact h.fm.opens (one_1 g s)
end
end Ck
end Go.Proofs.Ytnaidihoijociaa
