/- Layer 10 (disk): the model law's state: a disk among others, the document's files and its open acts. -/
import Derived.Test.YtnaidihoijociaaDkCs
import Derived.Test.YtnaidihoijociaaDkDa
namespace Go.Proofs.Ytnaidihoijociaa
open Go.RowKit Go.Maps
namespace Dk
open Bs
open Crc (Byte)
/-- a disk among others; files in a row that nobody changes; open acts in a row of the law's own -/
structure Mo (w wr : World) (B g : Nat) (s : Ds) (col : Nat → Nat) (D : Dks) (i : Nat) (A : Option Addr) (n c : Nat) (l : List FlV) (AO : Option Addr) (m cO : Nat) (qs : List OpV) (K : List (Nat × Array Value)) : Prop where
  fm : Fm w wr col D
  di : D i = some (g, s)
  i9 : i ≠ 9
  d9 : D 9 = none
  db : ∀ j, B ≤ j → D j = none
  b10 : 10 ≤ B
  fr : Fr wr (fun k => col k = 0) A n c l
  row : Ro.Row wr 29 4 AO m cO (OpV.flat qs)
  rc : ∀ b, Ro.blk AO = some b → col b = 9
  qr : ∀ q ∈ qs, ROp w q
  kb : ∀ x ∈ K, Mem.Blk wr x.1 46 x.2 ∧ col x.1 = 0
section
variable {w wr w' : World} {B B' g g2 n c m cO i : Nat} {s s' s2 : Ds} {col : Nat → Nat} {D : Dks} {A AO : Option Addr} {l : List FlV} {qs : List OpV} {F : Files} {O : List OpA} {N : Nat} {K : List (Nat × Array Value)}
theorem Fr.fresh {C C' : Nat → Prop} (h : Fr wr C A n c l) (hC : ∀ k, k < wr.heap.size → C k → C' k) (hb : Below wr.heap.size wr w') : Fr w' C' A n c l := (h.mono hC).below hb
theorem Fr.only {C C' Z : Nat → Prop} (h : Fr wr C A n c l) (ho : Ro.Only Z wr w') (hZ : ∀ k, C k → ¬ Z k) (hC : ∀ k, k < wr.heap.size → C k → C' k) : Fr w' C' A n c l :=
  ⟨h.row.only ho fun k hk => hZ k (h.rc k hk), h.len, fun p hp => (((h.hold p hp).mono (C' := fun k => C k ∧ C' k) (fun k hk c => ⟨c, hC k hk c⟩)).keep ho.size (fun k hk hc => ho.block k hk (hZ k hc.1))).mono (fun k _ c => c.2), h.name, fun b hb => hC b (h.row.lt hb) (h.rc b hb)⟩
theorem Mo.below (h : Mo w wr B g s col D i A n c l AO m cO qs K) (hb : Below wr.heap.size wr w') : Mo w w' B g s (fun k => if k < wr.heap.size then col k else 0) D i A n c l AO m cO qs K :=
  ⟨h.fm.below hb (fun _ => 0), h.di, h.i9, h.d9, h.db, h.b10, h.fr.fresh (fun k hk e => (if_pos hk).trans e) hb, h.row.keep fun k hk => hb.block k (h.row.lt hk), fun b e => (if_pos (h.row.lt e)).trans (h.rc b e), h.qr, fun x hx => ⟨(h.kb x hx).1.belowS hb, (if_pos (h.kb x hx).1.lt).trans (h.kb x hx).2⟩⟩
theorem Mo.lt (h : Mo w wr B g s col D i A n c l AO m cO qs K) : i < B := by
  apply Nat.lt_of_not_le
  intro c
  have := h.db i c
  rw [h.di] at this
  cases this
theorem Mo.after (h : Mo w wr B g s col D i A n c l AO m cO qs K) (ha : After w wr col D i g s' w') : ∃ col', Mo w w' B g s' col' (upd D i (g, s')) i A n c l AO m cO qs K := by
  obtain ⟨col', hc, hF, ho⟩ := ha
  have hi := h.fm.ne h.di
  have hlt := h.lt
  refine ⟨col', hF, upd_same _ _ _, h.i9, ?_, fun j hj => ?_, h.b10, h.fr.only ho (fun k e z => hi ?_) (fun k hk e => (hc k hk).trans e), h.row.only ho (fun k hk z => h.i9 ?_), fun b e => (hc b (h.row.lt e)).trans (h.rc b e), h.qr, fun x hx => ⟨(ho.block x.1 (h.kb x hx).1.lt (fun z => hi ?_)).trans (h.kb x hx).1, (hc x.1 (h.kb x hx).1.lt).trans (h.kb x hx).2⟩⟩
  · rw [upd_other D (g, s') (Ne.symm h.i9)]; exact h.d9
  · rw [upd_other D (g, s') (by omega)]; exact h.db j hj
  · have z' : col k = i := z
    have e' : col k = 0 := e
    rw [← z', e']
  · have z' : col k = i := z
    rw [← z', h.rc k hk]
  · have z' : col x.1 = i := z
    rw [← z', (h.kb x hx).2]
def MS (w wr : World) (B g : Nat) (s : Ds) (F : Files) (O : List OpA) (A : Option Addr) (n c : Nat) (AO : Option Addr) (m cO : Nat) (K : List (Nat × Array Value)) : Prop :=
  ∃ col D i l qs, Mo w wr B g s col D i A n c l AO m cO qs K ∧ fls2 l = F ∧ qs.map opOf = O ∧ Rise F
/-- a second disk beside it -/
def MT (w wr : World) (B g g2 : Nat) (s s2 : Ds) (F : Files) (O : List OpA) (A : Option Addr) (n c : Nat) (AO : Option Addr) (m cO : Nat) (K : List (Nat × Array Value)) : Prop :=
  ∃ col D i l qs j, Mo w wr B g s col D i A n c l AO m cO qs K ∧ fls2 l = F ∧ qs.map opOf = O ∧ Rise F ∧ D j = some (g2, s2) ∧ j ≠ i ∧ j ≠ 9
theorem MS.len (h : MS w wr B g s F O A n c AO m cO K) : n = F.length ∧ m = O.length := by
  obtain ⟨col, D, i, l, qs, h, rfl, rfl, _⟩ := h
  have h1 := h.fr.len
  have h2 := h.row.len
  rw [OpV.flat_len] at h2
  rw [fls2_len, List.length_map]
  omega
theorem MS.below (h : MS w wr B g s F O A n c AO m cO K) (hb : Below wr.heap.size wr w') : MS w w' B g s F O A n c AO m cO K := by
  obtain ⟨col, D, i, l, qs, h, h1⟩ := h
  exact ⟨_, D, i, l, qs, h.below hb, h1⟩
theorem MS.base (h : MS w wr B g s F O A n c AO m cO K) : Below w.heap.size w wr := by
  obtain ⟨col, D, i, l, qs, h, h1⟩ := h
  exact h.fm.base
theorem MS.more (h : MS w wr B g s F O A n c AO m cO K) (hB : B ≤ B') : MS w wr B' g s F O A n c AO m cO K := by
  obtain ⟨col, D, i, l, qs, h, h1⟩ := h
  exact ⟨col, D, i, l, qs, ⟨h.fm, h.di, h.i9, h.d9, fun j hj => h.db j (Nat.le_trans hB hj), Nat.le_trans h.b10 hB, h.fr, h.row, h.rc, h.qr, h.kb⟩, h1⟩
theorem MS.nil (h : MS w wr B g s F O A n c AO m cO K) : MS w wr B g s F [] A n c none 0 0 K := by
  obtain ⟨col, D, i, l, qs, h, h1, _, h3⟩ := h
  exact ⟨col, D, i, l, [], ⟨h.fm, h.di, h.i9, h.d9, h.db, h.b10, h.fr, Ro.Row.nil, fun b e => (by cases e), fun q hq => (by cases hq), h.kb⟩, h1, rfl, h3⟩
theorem MS.start {col : Nat → Nat} (h : Fm w wr col (upd (fun _ => none) 1 (g, s))) : MS w wr 10 g s [] [] none 0 0 none 0 0 [] :=
  ⟨col, _, 1, [], [], ⟨h, upd_same _ _ _, by decide, rfl, fun j hj => upd_other _ _ (by omega), Nat.le_refl _, ⟨Ro.Row.nil, rfl, fun p hp => (by cases hp), fun p hp => (by cases hp), fun b e => (by cases e)⟩, Ro.Row.nil, fun b e => (by cases e), fun q hq => (by cases hq), fun x hx => (by cases hx)⟩, rfl, rfl, List.Pairwise.nil⟩
theorem MS.does {kind : Int} {name nto : ByteArray} {bA : Option Addr} {bn bc : Nat} {bs : List Byte} {C0 : Nat → Prop} (h : MS w wr B g s F O A n c AO m cO K) (hs : Fits N s) (hN : N ≤ 1000) (ho : Hold wr C0 bA bn bc bs) (h1 : name.size ≤ maxLen) (h2 : nto.size ≤ maxLen) (hn : bn ≤ 100000) :
    Calls Try.prog 16 #[.pointer (some ⟨g, 0, none⟩), .agg #[.int .i64 kind, .string name, .string nto, .slice bA bn bc]] wr fun e w' => e = .returned (.int .i64 (doE ⟨kind, name, nto, bs⟩)) ∧ MS w w' B g (doS s ⟨kind, name, nto, bs⟩) F O A n c AO m cO K := by
  obtain ⟨col, D, i, l, qs, h, h9⟩ := h
  refine (h.fm.does h.di hs hN ho h1 h2 hn).mono ?_
  rintro e w' ⟨rfl, ha⟩
  obtain ⟨col', h'⟩ := h.after ha
  exact ⟨rfl, col', _, i, l, qs, h', h9⟩
theorem MS.sync (h : MS w wr B g s F O A n c AO m cO K) (hs : Fits N s) (hN : N ≤ 1000) :
    Calls Try.prog 21 #[.pointer (some ⟨g, 0, none⟩)] wr fun e w' => e = .returned (.tuple #[]) ∧ MS w w' B g ⟨look s, []⟩ F O A n c AO m cO K := by
  obtain ⟨col, D, i, l, qs, h, h9⟩ := h
  refine (h.fm.sync h.di hs hN).mono ?_
  rintro e w' ⟨rfl, ha⟩
  obtain ⟨col', h'⟩ := h.after ha
  exact ⟨rfl, col', _, i, l, qs, h', h9⟩
theorem MS.crash {KA : Option Addr} {kn kc : Nat} {keep : List Int} (h : MS w wr B g s F O A n c AO m cO K) (hs : Fits N s) (hN : N ≤ 1000) (hk : Mem.Ints w w.heap.size .i64 KA kn keep) (hkz : ∀ z ∈ keep, z ≤ 9223372036854775807) (hkn : kn ≤ 100000) :
    Calls Try.prog 22 #[.pointer (some ⟨g, 0, none⟩), .slice KA kn kc] wr fun e w' => e = .returned (.tuple #[]) ∧ MS w w' B g ⟨crashF s.fs s.op keep, []⟩ F O A n c AO m cO K := by
  obtain ⟨col, D, i, l, qs, h, h9⟩ := h
  refine (h.fm.crash h.di hs hN ((hk.below h.fm.base).more h.fm.base.size) (fun ad e hn c => ?_) hkz hkn).mono ?_
  · obtain ⟨ad', e', hb, _⟩ := hk.2 hn
    rw [e] at e'
    cases e'
    rw [h.fm.old _ hb] at c
    exact h.fm.ne h.di c.symm
  · rintro e w' ⟨rfl, ha⟩
    obtain ⟨col', h'⟩ := h.after ha
    exact ⟨rfl, col', _, i, l, qs, h', h9⟩
theorem MS.opens (h : MS w wr B g s F O A n c AO m cO K) : Calls Try.prog 20 #[.pointer (some ⟨g, 0, none⟩)] wr fun e w' => e = .returned (.int .i64 s.op.length) ∧ w' = wr := by
  obtain ⟨col, D, i, l, qs, h, h9⟩ := h
  exact h.fm.opens h.di
/-- behind a call that makes files anew -/
def Mnew (w : World) (B g : Nat) (s : Ds) (F : Files) (O : List OpA) (A : Option Addr) (n c : Nat) (AO : Option Addr) (m cO : Nat) (K : List (Nat × Array Value)) (F' : Files) (e : Ending) (w' : World) : Prop :=
  ∃ A' n' c', e = .returned (.slice A' n' c') ∧ MS w w' B g s F O A n c AO m cO K ∧ MS w w' B g s F' O A' n' c' AO m cO K
theorem MS.made {x : Files} {M : Nat} {e : Ending} (h : Mo w wr B g s col D i A n c l AO m cO qs K) (h1 : fls2 l = F) (h2 : qs.map opOf = O) (h3 : Rise F) (hx : Rise x) (hd : DoSaid wr (fun k => col k = 0) x M e w') : Mnew w B g s F O A n c AO m cO K x e w' := by
  obtain ⟨A', c', l', rfl, hb, hF, he, _⟩ := hd
  have hm := h.below hb
  refine ⟨A', l'.length, c', rfl, ⟨_, D, i, l, qs, hm, h1, h2, h3⟩, _, D, i, l', qs, ⟨hm.fm, hm.di, hm.i9, hm.d9, hm.db, hm.b10, hF.mono fun k hk q => ?_, hm.row, hm.rc, hm.qr, hm.kb⟩, he, h2, hx⟩
  show (if k < wr.heap.size then col k else 0) = 0
  by_cases hk2 : k < wr.heap.size
  · rw [if_pos hk2]; exact q hk2
  · rw [if_neg hk2]
theorem MS.look (h : MS w wr B g s F O A n c AO m cO K) (hF : F.length ≤ 1000) (hO : O.length ≤ 1000) :
    Calls Try.prog 25 #[.slice A n c, .slice AO m cO] wr (Mnew w B g s F O A n c AO m cO K (O.foldl app1 F)) := by
  obtain ⟨h1, h2⟩ := h.len
  obtain ⟨col, D, i, l, qs, h, rfl, rfl, hr⟩ := h
  refine (rlook_c h.fr hr (by omega) h.row.sl (fun q hq => ?_) (by omega)).mono fun e w' hd => MS.made h rfl rfl hr (rise_fold _ hr) hd
  have := h.qr q hq
  exact ⟨this.kind, ⟨_, this.hold.choose_spec.below h.fm.base⟩, this.n, this.name, this.nto⟩
theorem rise_crash {l : Files} (h : Rise l) (ops : List OpA) (keep : List Int) : Rise (crashF l ops keep) := by
  have := rise_crashTo h ops keep (ops.length)
  rwa [crashTo_full (.inl (Nat.le_refl _))] at this
theorem MS.rcrash {KA : Option Addr} {kn kc : Nat} {keep : List Int} (h : MS w wr B g s F O A n c AO m cO K) (hF : F.length ≤ 1000) (hO : O.length ≤ 1000) (hk : Mem.Ints w w.heap.size .i64 KA kn keep) (hkz : ∀ z ∈ keep, z ≤ 9223372036854775807) (hkn : kn ≤ 100000) :
    Calls Try.prog 26 #[.slice A n c, .slice AO m cO, .slice KA kn kc] wr (Mnew w B g s F O A n c AO m cO K (crashF F O keep)) := by
  obtain ⟨h1, h2⟩ := h.len
  obtain ⟨col, D, i, l, qs, h, rfl, rfl, hr⟩ := h
  refine (rcrash_c h.fr hr (by omega) h.row.sl (fun q hq => ?_) (by omega) ((hk.below h.fm.base).more h.fm.base.size) hkn hkz).mono fun e w' hd => MS.made h rfl rfl hr (rise_crash hr _ _) hd
  have := h.qr q hq
  exact ⟨this.kind, ⟨_, this.hold.choose_spec.below h.fm.base⟩, this.n, this.name, this.nto⟩
theorem MS.same (h : MS w wr B g s F O A n c AO m cO K) (hs : Fits N s) (hN : N ≤ 1000) (he : F = Dk.look s) :
    Calls Try.prog 28 #[.pointer (some ⟨g, 0, none⟩), .slice A n c] wr fun e w' => e = .returned (.bool true) ∧ Below wr.heap.size wr w' := by
  obtain ⟨col, D, i, l, qs, h, rfl, rfl, hr⟩ := h
  exact same_c (h.fm.at_ i g s h.di) hs hN h.fr he
theorem MS.push {q : OpV} {ty : TypeId} (h : MS w wr B g s F O A n c AO m cO K) (hq : ROp w q) (hm : m ≤ 1000) :
    ∃ A' c' w2, (Builtin.append_ #[22, 22] ty #[.slice AO m cO, .slice (some ⟨wr.heap.size, 0, none⟩) 1 1]).run Try.prog (wr.alloc (.cells q.arr 29)) = .ok (.slice A' (m + 1) c') w2 ∧ MS w w2 B g s F (O ++ [opOf q]) A n c A' (m + 1) c' K := by
  obtain ⟨col, D, i, l, qs, h, rfl, rfl, hr⟩ := h
  have hb : Below wr.heap.size wr (wr.alloc (.cells q.arr 29)) := (Below.refl _ _).alloc (Nat.le_refl _) _
  obtain ⟨A', c', w2, hrun, hrow, ho, hA⟩ := Ro.app (P := Try.prog) (ty := ty) (c2 := 1) elo (h.row.keep fun k hk => hb.block k (h.row.lt hk)) (Mem.new_sl (w := wr) (n := 1) (cs := q.arr) (e := 29) (size := 4) rfl rfl rfl) (by intro u hu; rw [OpV.arr_cells] at hu; exact OpV.flat_one [q] u (by simpa [OpV.flat] using hu)) (by unfold maxLen; omega) (by omega)
  refine ⟨A', c', w2, hrun, fun k => if k < wr.heap.size then col k else 9, D, i, l, qs ++ [q], ⟨(h.fm.below hb (fun _ => 9)).put ho (j := 9) (fun k hk => ?_) h.d9 (by decide), h.di, h.i9, h.d9, h.db, h.b10, (h.fr.fresh (C' := fun k => (if k < wr.heap.size then col k else 9) = 0) (fun k hk e => (if_pos hk).trans e) hb).only ho (fun k e z => ?_) (fun k _ e => e), ?_, fun b e => ?_, fun q' hq' => ?_, fun x hx => ⟨(ho.block x.1 ((h.kb x hx).1.belowS hb).lt (fun z => ?_)).trans ((h.kb x hx).1.belowS hb), (if_pos (h.kb x hx).1.lt).trans (h.kb x hx).2⟩⟩, rfl, by simp, hr⟩
  · show (if k < wr.heap.size then col k else 9) = 9
    rw [if_pos (h.row.lt hk)]
    exact h.rc k hk
  · have z' : Ro.blk AO = some k := z
    have e' : (if k < wr.heap.size then col k else 9) = 0 := e
    rw [if_pos (h.row.lt z'), h.rc k z'] at e'
    cases e'
  · rw [OpV.flat_app]
    have : OpV.flat [q] = q.arr.toList := by simp [OpV.flat, OpV.arr_cells]
    rw [this]
    exact hrow
  · show (if b < wr.heap.size then col b else 9) = 9
    rcases hA with e2 | e2
    · rw [e2] at e
      rw [if_pos (h.row.lt e)]
      exact h.rc b e
    · rw [e2] at e
      have : wr.heap.size + 1 = b := by simpa using e
      rw [if_neg (by omega)]
  · rcases List.mem_append.1 hq' with h' | h'
    · exact h.qr q' h'
    · rw [List.mem_singleton] at h'
      subst h'
      exact hq
  · have := h.rc x.1 z
    rw [(h.kb x hx).2] at this
    cases this
/-- a new block is kept -/
theorem MS.keep {cs : Array Value} (h : MS w wr B g s F O A n c AO m cO K) : MS w (wr.alloc (.cells cs 46)) B g s F O A n c AO m cO [(wr.heap.size, cs)] := by
  obtain ⟨col, D, i, l, qs, h, h1⟩ := h
  have h' := h.below ((Below.refl _ _).alloc (Nat.le_refl _) (.cells cs 46))
  exact ⟨_, D, i, l, qs, ⟨h'.fm, h'.di, h'.i9, h'.d9, h'.db, h'.b10, h'.fr, h'.row, h'.rc, h'.qr, fun x hx => by
    rw [List.mem_singleton] at hx
    subst hx
    exact ⟨Mem.Blk.new, if_neg (Nat.lt_irrefl _)⟩⟩, h1⟩
theorem MS.kept {b : Nat} {cs : Array Value} (h : MS w wr B g s F O A n c AO m cO [(b, cs)]) : Mem.Blk wr b 46 cs := by
  obtain ⟨col, D, i, l, qs, h, h1⟩ := h
  exact (h.kb (b, cs) (by simp)).1
theorem MS.lose (h : MS w wr B g s F O A n c AO m cO K) : MS w wr B g s F O A n c AO m cO [] := by
  obtain ⟨col, D, i, l, qs, h, h1⟩ := h
  exact ⟨col, D, i, l, qs, ⟨h.fm, h.di, h.i9, h.d9, h.db, h.b10, h.fr, h.row, h.rc, h.qr, fun x hx => (by cases hx)⟩, h1⟩
theorem MS.copy (h : MS w wr B g s F O A n c AO m cO K) (hs : Fits N s) (hN : N ≤ 1000) :
    Calls Try.prog 27 #[.pointer (some ⟨g, 0, none⟩)] wr fun e w' => ∃ g2, e = .returned (.pointer (some ⟨g2, 0, none⟩)) ∧ MT w w' (B + 1) g g2 s s F O A n c AO m cO K := by
  obtain ⟨col, D, i, l, qs, h, h9⟩ := h
  have hlt := h.lt
  have hb10 := h.b10
  refine (h.fm.copy (j := B) h.di hs hN (h.db B (Nat.le_refl _)) (by omega)).mono ?_
  rintro e w' ⟨g', col', rfl, hc, hF, hb⟩
  refine ⟨g', rfl, col', _, i, l, qs, B, ⟨hF, ?_, h.i9, ?_, fun j hj => ?_, by omega, h.fr.fresh (fun k hk e => (hc k hk).trans e) hb, h.row.keep fun k hk => hb.block k (h.row.lt hk), fun b e => (hc b (h.row.lt e)).trans (h.rc b e), h.qr, fun x hx => ⟨(h.kb x hx).1.belowS hb, (hc x.1 (h.kb x hx).1.lt).trans (h.kb x hx).2⟩⟩, h9.1, h9.2.1, h9.2.2, upd_same _ _ _, by omega, by omega⟩
  · rw [upd_other _ _ (by omega)]; exact h.di
  · rw [upd_other _ _ (by omega)]; exact h.d9
  · rw [upd_other _ _ (by omega)]; exact h.db j (by omega)
theorem MT.below (h : MT w wr B g g2 s s2 F O A n c AO m cO K) (hb : Below wr.heap.size wr w') : MT w w' B g g2 s s2 F O A n c AO m cO K := by
  obtain ⟨col, D, i, l, qs, j, h, h1⟩ := h
  exact ⟨_, D, i, l, qs, j, h.below hb, h1⟩
theorem MT.drop (h : MT w wr B g g2 s s2 F O A n c AO m cO K) : MS w wr B g2 s2 F O A n c AO m cO K := by
  obtain ⟨col, D, i, l, qs, j, h, h1, h2, h3, h4, h5, h6⟩ := h
  exact ⟨col, D, j, l, qs, ⟨h.fm, h4, h6, h.d9, h.db, h.b10, h.fr, h.row, h.rc, h.qr, h.kb⟩, h1, h2, h3⟩
theorem MT.does {kind : Int} {name nto : ByteArray} {bA : Option Addr} {bn bc : Nat} {bs : List Byte} {C0 : Nat → Prop} (h : MT w wr B g g2 s s2 F O A n c AO m cO K) (hs : Fits N s) (hN : N ≤ 1000) (ho : Hold wr C0 bA bn bc bs) (h1 : name.size ≤ maxLen) (h2 : nto.size ≤ maxLen) (hn : bn ≤ 100000) :
    Calls Try.prog 16 #[.pointer (some ⟨g, 0, none⟩), .agg #[.int .i64 kind, .string name, .string nto, .slice bA bn bc]] wr fun e w' => e = .returned (.int .i64 (doE ⟨kind, name, nto, bs⟩)) ∧ MT w w' B g g2 (doS s ⟨kind, name, nto, bs⟩) s2 F O A n c AO m cO K := by
  obtain ⟨col, D, i, l, qs, j, h, h3, h4, h5, h6, h7, h8⟩ := h
  refine (h.fm.does h.di hs hN ho h1 h2 hn).mono ?_
  rintro e w' ⟨rfl, ha⟩
  obtain ⟨col', h'⟩ := h.after ha
  exact ⟨rfl, col', _, i, l, qs, j, h', h3, h4, h5, by rw [upd_other _ _ h7]; exact h6, h7, h8⟩
theorem MT.sync (h : MT w wr B g g2 s s2 F O A n c AO m cO K) (hs : Fits N s) (hN : N ≤ 1000) :
    Calls Try.prog 21 #[.pointer (some ⟨g, 0, none⟩)] wr fun e w' => e = .returned (.tuple #[]) ∧ MT w w' B g g2 ⟨Dk.look s, []⟩ s2 F O A n c AO m cO K := by
  obtain ⟨col, D, i, l, qs, j, h, h3, h4, h5, h6, h7, h8⟩ := h
  refine (h.fm.sync h.di hs hN).mono ?_
  rintro e w' ⟨rfl, ha⟩
  obtain ⟨col', h'⟩ := h.after ha
  exact ⟨rfl, col', _, i, l, qs, j, h', h3, h4, h5, by rw [upd_other _ _ h7]; exact h6, h7, h8⟩
end
theorem dat_act {W : World} {cs : List Value} (h : Frame.Dat Try.prog W 46 cs) : ∃ p : DaV, cs = p.cells ∧ p.ok ∧ Hold W (fun k => k < W.heap.size) p.op.bytesA p.op.bytesn p.op.bytesc p.op.bytes ∧ Mem.Ints W W.heap.size .i64 p.keepA p.keepn p.keep := by
  obtain ⟨p, rfl, hp, hl⟩ := DaV.of_dat h
  obtain ⟨_, hf⟩ := h.struct Try.underlying46
  have c_1 : (Try.prog).cellsOf 3 = 1 := by kernel_rfl
  have c_2 : (Try.prog).cellsOf 29 = 4 := by kernel_rfl
  have f1 : Frame.Dat Try.prog W 29 p.op.cells := by simpa [c_1, c_2, DaV.cells, OpV.cells] using hf 1 _ rfl
  obtain ⟨q, e, _, hh⟩ := dat_op f1
  simp only [OpV.cells, List.cons.injEq, Value.slice.injEq, and_true] at e
  obtain ⟨_, _, _, e1, e2, e3⟩ := e
  have h5 := hh.nil
  have h6 := hh.inC
  rw [← e1, ← e2, ← e3] at h5
  rw [← e1, ← e2] at h6
  exact ⟨p, rfl, hp, ⟨hl.op.bytes, ⟨hp.op.bytes.1, hp.op.bytes.2.1⟩, h5, h6⟩, hl.keep⟩
/-- acts of the model law that came in -/
structure Acts (W : World) (A : Option Addr) (n c : Nat) (ps : List DaV) : Prop where
  le : n ≤ c ∧ c ≤ maxLen
  len : ps.length = n
  ok : ∀ p ∈ ps, p.ok
  hold : ∀ p ∈ ps, Hold W (fun k => k < W.heap.size) p.op.bytesA p.op.bytesn p.op.bytesc p.op.bytes
  keep : ∀ p ∈ ps, Mem.Ints W W.heap.size .i64 p.keepA p.keepn p.keep
  sl : Mem.Sl W W.heap.size 6 A n (DaV.flat ps)
theorem arg_acts {W : World} {v : Value} (h : Frame.Arg Try.prog W 42 v) : ∃ (A : Option Addr) (n c : Nat) (ps : List DaV), v = .slice A n c ∧ Acts W A n c ps := by
  obtain ⟨A, n, c, rfl⟩ := h.one Try.underlying42
  obtain ⟨A', n', c', xss, hcs, h1, h2, h3, h4, h5, _⟩ := h.dat.slice (size := 6) Try.underlying42 (by kernel_rfl) (by omega)
  simp [Value.cells] at hcs
  obtain ⟨rfl, rfl, rfl⟩ := hcs
  have key : ∀ xss : List (List Value), (∀ xs ∈ xss, xs.length = 6 ∧ Frame.Dat Try.prog W 46 xs) → ∃ ps : List DaV, ps.length = xss.length ∧ (∀ p ∈ ps, p.ok ∧ Hold W (fun k => k < W.heap.size) p.op.bytesA p.op.bytesn p.op.bytesc p.op.bytes ∧ Mem.Ints W W.heap.size .i64 p.keepA p.keepn p.keep) ∧ xss = ps.map DaV.cells := by
    intro xss
    induction xss with
    | nil => intro _; exact ⟨[], rfl, by simp, rfl⟩
    | cons xs xss ih =>
      intro hx
      obtain ⟨ps, hb1, hb2, hb3⟩ := ih (fun y hy => hx y (by simp [hy]))
      obtain ⟨p, rfl, hp⟩ := dat_act (hx xs (by simp)).2
      exact ⟨p :: ps, by simp [hb1], by simpa using ⟨hp, hb2⟩, by simp [hb3]⟩
  obtain ⟨ps, hb1, hb2, hb3⟩ := key xss h4
  exact ⟨A, n, c, ps, rfl, ⟨h1, h2⟩, by omega, fun p hp => (hb2 p hp).1, fun p hp => (hb2 p hp).2.1, fun p hp => (hb2 p hp).2.2, by unfold DaV.flat; rw [← hb3]; exact h5⟩
end Dk
end Go.Proofs.Ytnaidihoijociaa
