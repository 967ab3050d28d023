/- Layer 10 (disk): acts that come in; rows of bytes that a law turns; two disks side by side. -/
import Derived.Test.YtnaidihoijociaaDkN
namespace Go.Proofs.Ytnaidihoijociaa
open Go.RowKit Go.Maps
namespace Dk
open Bs
open Crc (Byte)
theorem dat_op {W : World} {cs : List Value} (h : Frame.Dat Try.prog W 29 cs) : ∃ p : OpV, cs = p.cells ∧ p.ok ∧ Hold W (fun k => k < W.heap.size) p.bytesA p.bytesn p.bytesc p.bytes := by
  obtain ⟨p, rfl, hp, hl⟩ := OpV.of_dat h
  obtain ⟨_, hf⟩ := h.struct Try.underlying29
  have c_0 : (Try.prog).cellsOf 27 = 1 := by kernel_rfl
  have f3 : Frame.Dat Try.prog W 27 [.slice p.bytesA p.bytesn p.bytesc] := by simpa [c_0, OpV.cells] using hf 3 _ rfl
  obtain ⟨A', n', c', bs', e, hh⟩ := dat_hold f3
  simp only [List.cons.injEq, Value.slice.injEq, and_true] at e
  obtain ⟨rfl, rfl, rfl⟩ := e
  exact ⟨p, rfl, hp, hl.bytes, ⟨hp.bytes.1, hp.bytes.2.1⟩, hh.nil, hh.inC⟩
/-- acts that came in -/
structure Ops (W : World) (A : Option Addr) (n c : Nat) (ps : List OpV) : Prop where
  le : n ≤ c ∧ c ≤ maxLen
  len : ps.length = n
  ok : ∀ p ∈ ps, p.ok
  hold : ∀ p ∈ ps, Hold W (fun k => k < W.heap.size) p.bytesA p.bytesn p.bytesc p.bytes
  sl : Mem.Sl W W.heap.size 4 A n (OpV.flat ps)
theorem dat_ops {W : World} {cs : List Value} (h : Frame.Dat Try.prog W 22 cs) : ∃ (A : Option Addr) (n c : Nat) (ps : List OpV), cs = [.slice A n c] ∧ Ops W A n c ps := by
  obtain ⟨A, n, c, xss, hcs, h1, h2, h3, h4, h5, _⟩ := h.slice (size := 4) Try.underlying22 (by kernel_rfl) (by omega)
  have key : ∀ xss : List (List Value), (∀ xs ∈ xss, xs.length = 4 ∧ Frame.Dat Try.prog W 29 xs) → ∃ ps : List OpV, ps.length = xss.length ∧ (∀ p ∈ ps, p.ok ∧ Hold W (fun k => k < W.heap.size) p.bytesA p.bytesn p.bytesc p.bytes) ∧ xss = ps.map OpV.cells := by
    intro xss
    induction xss with
    | nil => intro _; exact ⟨[], rfl, by simp, rfl⟩
    | cons xs xss ih =>
      intro hx
      obtain ⟨ps, hb1, hb2, hb3⟩ := ih (fun y hy => hx y (by simp [hy]))
      obtain ⟨p, rfl, hp⟩ := dat_op (hx xs (by simp)).2
      exact ⟨p :: ps, by simp [hb1], by simpa using ⟨hp, hb2⟩, by simp [hb3]⟩
  obtain ⟨ps, hb1, hb2, hb3⟩ := key xss h4
  exact ⟨A, n, c, ps, hcs, ⟨h1, h2⟩, by omega, fun p hp => (hb2 p hp).1, fun p hp => (hb2 p hp).2, by unfold OpV.flat; rw [← hb3]; exact h5⟩
theorem arg_ops {W : World} {v : Value} (h : Frame.Arg Try.prog W 22 v) : ∃ (A : Option Addr) (n c : Nat) (ps : List OpV), v = .slice A n c ∧ Ops W A n c ps := by
  obtain ⟨A, n, c, rfl⟩ := h.one Try.underlying22
  obtain ⟨A', n', c', ps, hcs, h1⟩ := dat_ops h.dat
  simp [Value.cells] at hcs
  obtain ⟨rfl, rfl, rfl⟩ := hcs
  exact ⟨A, n, c, ps, rfl, h1⟩
theorem x255 (b : Byte) : bits .xor .u8 (n8 b) 255 = n8 (b ^^^ 255#8) := xor8 b 255#8
theorem brow_at {w : World} {A : Option Addr} {n c k : Nat} {bs : List Byte} (h : BRow w A n c bs) (hk : k < n) :
    ∃ (g off : Nat) (b : Byte), A = some ⟨g, off, none⟩ ∧ w.cell? ⟨g, off + k, none⟩ = some (.int .u8 (n8 b)) ∧ w.frozen? ⟨g, off + k, none⟩ = false ∧ ∀ b' : Byte, BRow (w.setCell ⟨g, off + k, none⟩ (.int .u8 (n8 b'))) (some ⟨g, off, none⟩) n c (bs.set k b') := by
  have hl : bs.length = n := by have := h.len; simpa using this
  obtain ⟨g, off, rfl⟩ := h.some_of (by have := h.le.1; omega)
  have hk' : k < (bs.map bv).length := by simp; omega
  refine ⟨g, off, bs[k], rfl, ?_, h.frozen _, fun b' => ?_⟩
  · rw [h.cell k hk', List.getElem_map, bv_n8]
  · have := h.set1 k hk' (.int .u8 (n8 b'))
    rw [← bv_n8, ← List.map_set] at this
    exact this
/-- a row of bytes and a block of the law's own, of colour 9 -/
structure Law9 (w : World) (col : Nat → Nat) (A : Option Addr) (n c o : Nat) (t : TypeId) (v : Array Value) : Prop where
  row : ∃ bs, BRow w A n c bs
  rc : ∀ k, Ro.blk A = some k → col k = 9
  blk : Mem.Blk w o t v
  oc : col o = 9
  ne : ∀ k, Ro.blk A = some k → k ≠ o
section
variable {W w w' : World} {col col' : Nat → Nat} {D : Dks} {A : Option Addr} {n c o i : Nat} {t : TypeId} {v : Array Value}
theorem Law9.after (h : Law9 w col A n c o t v) (hi : i ≠ 9) (ha : ∀ k, k < w.heap.size → col' k = col k) (ho : Ro.Only (fun k => col k = i) w w') : Law9 w' col' A n c o t v := by
  obtain ⟨bs, hr⟩ := h.row
  exact ⟨⟨bs, hr.only ho fun k hk e => hi (by rw [← h.rc k hk, ← show col k = i from e])⟩, fun k hk => (ha k (hr.lt hk)).trans (h.rc k hk),
    (ho.block o h.blk.lt fun e => hi (by rw [← h.oc, ← show col o = i from e])).trans h.blk, (ha o h.blk.lt).trans h.oc, h.ne⟩
theorem Law9.turn (h : Law9 w col A n c o t v) {k : Nat} (hk : k < n) :
    ∃ (g off : Nat) (b : Byte), A = some ⟨g, off, none⟩ ∧ w.cell? ⟨g, off + k, none⟩ = some (.int .u8 (n8 b)) ∧ w.frozen? ⟨g, off + k, none⟩ = false ∧ ¬ o = g ∧ col g = 9 ∧ ∀ b' : Byte, Law9 (w.setCell ⟨g, off + k, none⟩ (.int .u8 (n8 b'))) col (some ⟨g, off, none⟩) n c o t v ∧ Law9 (w.drew.setCell ⟨g, off + k, none⟩ (.int .u8 (n8 b'))) col (some ⟨g, off, none⟩) n c o t v := by
  obtain ⟨bs, hr⟩ := h.row
  obtain ⟨g, off, b, rfl, h1, h2, h3⟩ := brow_at hr hk
  have hne : ¬ o = g := fun e => h.ne g rfl e.symm
  exact ⟨g, off, b, rfl, h1, h2, hne, h.rc g rfl, fun b' => ⟨⟨⟨_, h3 b'⟩, h.rc, h.blk.far hne, h.oc, h.ne⟩, ⟨⟨_, h3 b'⟩, h.rc, h.blk.far hne, h.oc, h.ne⟩⟩⟩
theorem Fm.turnD (h : Fm W w col D) {g off : Nat} {u : Value} (hg : col g = 9) (hD : D 9 = none) : Fm W (w.drew.setCell ⟨g, off, none⟩ u) col D :=
  h.put ((Ro.Only.refl _ _).drew.trans (Ro.Only.setCell _ _ _) (fun _ _ e => e)) (fun k hk => by have hk' : k = g := hk; rw [hk']; exact hg) hD (by decide)
theorem Fm.turn (h : Fm W w col D) {g off : Nat} {u : Value} (hg : col g = 9) (hD : D 9 = none) : Fm W (w.setCell ⟨g, off, none⟩ u) col D :=
  h.put (Ro.Only.setCell _ _ _) (fun k hk => by have hk' : k = g := hk; rw [hk']; exact hg) hD (by decide)
end
/-- a copy of bytes is appended, and put into a block made ahead of it -/
theorem keep_app {wr : World} {bA : Option Addr} {bn bc : Nat} {bs : List Byte} {v : Array Value} {t ty : TypeId} (h : Mem.Sl wr wr.heap.size 1 bA bn (bs.map bv)) (hn : bn ≤ 100000) :
    ∃ A' c' w2, (Builtin.append_ #[27, 27] ty #[.slice (some ⟨wr.heap.size + 1, 0, none⟩) 0 0, .slice bA bn bc]).run Try.prog ((wr.alloc (.cells v t)).alloc (.cells #[] 5)) = .ok (.slice A' bn c') w2 ∧
      Mem.Blk w2 wr.heap.size t v ∧ ∀ (j : Nat) (u : Value) (f : Nat → Nat), Below wr.heap.size wr (w2.setCell ⟨wr.heap.size, j, none⟩ u) ∧ BRow (w2.setCell ⟨wr.heap.size, j, none⟩ u) A' bn c' bs ∧ Law9 (w2.setCell ⟨wr.heap.size, j, none⟩ u) (fun k => if k < wr.heap.size then f k else 9) A' bn c' wr.heap.size t (v.setIfInBounds j u) := by
  have hr0 : BRow ((wr.alloc (.cells v t)).alloc (.cells #[] 5)) (some ⟨wr.heap.size + 1, 0, none⟩) 0 0 [] := by
    have := Ro.Row.new (w := wr.alloc (.cells v t)) (cs := #[]) (e := 5) (k := 1) (n := 0) rfl (by decide)
    show Ro.Row _ _ _ _ _ _ []
    simpa using this
  have hb1 : Below wr.heap.size wr ((wr.alloc (.cells v t)).alloc (.cells #[] 5)) := ((Below.refl _ _).alloc (Nat.le_refl _) _).alloc (by simp) _
  obtain ⟨A', c', w2, hrun, hrow, ho, hbk⟩ := Ro.app (P := Try.prog) (ty := ty) (c2 := bc) elb hr0 (h.below hb1) (one_bs _) (by unfold maxLen; omega) (by omega)
  rw [Nat.zero_add] at hrun hrow
  have hrow' : BRow w2 A' bn c' bs := by simpa using hrow
  have hk : ∀ k, Ro.blk A' = some k → wr.heap.size < k := fun k hk => by
    rcases hbk with e | e
    · rw [e] at hk
      have : wr.heap.size + 1 = k := by simpa [Ro.blk] using hk
      omega
    · rw [e] at hk
      have : wr.heap.size + 1 + 1 = k := by simpa using hk
      omega
  have hB : Mem.Blk w2 wr.heap.size t v := (ho.block _ (by simp; omega) (fun e => by simp [Ro.blk] at e)).trans (Mem.Blk.new.alloc)
  refine ⟨A', c', w2, hrun, hB, fun j u f => ?_⟩
  have hR3 : BRow (w2.setCell ⟨wr.heap.size, j, none⟩ u) A' bn c' bs := hrow'.keep fun k e => Below.heap_setCell _ _ _ k (by have := hk k e; simp; omega)
  refine ⟨?_, hR3, ⟨bs, hR3⟩, fun k e => ?_, hB.set_ j u, ?_, fun k e => ?_⟩
  · exact (hb1.trans (ho.below (by simp; omega) fun k hk e => by
      have : wr.heap.size + 1 = k := by simpa [Ro.blk] using e
      omega)).setCell (Nat.le_refl _) _
  · have := hk k e
    exact if_neg (by omega)
  · exact if_neg (by omega)
  · have := hk k e
    omega
/-- two disks -/
def two (g1 g2 : Nat) (s1 s2 : Ds) : Dks := upd (upd (fun _ => none) 1 (g1, s1)) 2 (g2, s2)
section
variable (g1 g2 : Nat) (s1 s2 x : Ds)
theorem two_1 : two g1 g2 s1 s2 1 = some (g1, s1) := rfl
theorem two_2 : two g1 g2 s1 s2 2 = some (g2, s2) := rfl
theorem two_9 : two g1 g2 s1 s2 9 = none := rfl
theorem up_1 : upd (two g1 g2 s1 s2) 1 (g1, x) = two g1 g2 x s2 := by
  funext k
  unfold two upd
  by_cases h1 : k = 1
  · subst h1; rfl
  · simp [h1]
theorem up_2 : upd (two g1 g2 s1 s2) 2 (g2, x) = two g1 g2 s1 x := by
  funext k
  unfold two upd
  by_cases h1 : k = 2
  · subst h1; rfl
  · simp [h1]
end
/-- some acts are done, from nothing -/
def sK (ps : List OpV) (k : Nat) : Ds := (ps.take k).foldl (fun s p => doS s (opOf p)) ⟨[], []⟩
theorem sK_next (ps : List OpV) {k : Nat} (h : k < ps.length) : sK ps (k + 1) = doS (sK ps k) (opOf ps[k]) := by
  unfold sK
  rw [Mem.take_snoc _ _ h, List.foldl_append]
  rfl
theorem sK_fits {ps : List OpV} (h : ∀ p ∈ ps, p.ok ∧ Small p) (k : Nat) (hk : k ≤ ps.length) : Fits k (sK ps k) := by
  induction k with
  | zero => exact Fits.nil
  | succ k ih =>
    rw [sK_next ps hk]
    obtain ⟨h1, h2⟩ := h ps[k] (List.getElem_mem hk)
    refine (ih (by omega)).doS ⟨h1.name, h1.nto, ?_⟩
    have := h1.bytes.2.2.1
    have := h2.2.2
    show ps[k].bytes.length ≤ _
    omega
end Dk
end Go.Proofs.Ytnaidihoijociaa
