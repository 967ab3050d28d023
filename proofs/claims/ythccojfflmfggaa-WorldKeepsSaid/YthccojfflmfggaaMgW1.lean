/- The frame of a law: whatever the arguments, if the walk shows that the call returns true and writes nothing that was there, the row holds. -/
import Derived.WalkKit
import Derived.ProofKit
import Derived.OpenShut
import Derived.ShutString
import Derived.ChangeOld
import Derived.Below
import Derived.Carry
import Derived.JoinedOf
import Derived.Test.YthccojfflmfggaaMgW0
import Derived.Deep.Slices
import Derived.ChangeArms
import Derived.DataReads
import Derived.Test.YthccojfflmfggaaRows
import Derived.BigQuiet
import Derived.Deep.QuietTactic
import Derived.WalkLawsBesides
import Derived.WalkSpells
import Derived.OwnWalk
import Derived.Lib.Hide
import Derived.Laws.Externs
namespace Go.Proofs.Ythccojfflmfggaa
open Go.ChangeShapes Go.WideShapes Go.ChangeAt Go.RowKit
namespace Frame
/-- a value that came in, of a type -/
def Arg (P : Program) (W : World) (t : TypeId) (v : Value) : Prop :=
  ∃ (H : Type) (enc : TypeId × Value → H) (base : Nat) (d : DataW H) (p : List MemPlace), Value.okWide P W .any base t v ∧ DataW.Trod enc P W 0 (fun _ => true) true t v d p ∧ ∀ x ∈ p, x.block < W.heap.size
def Args (P : Program) (W : World) : List TypeId → List Value → Prop
  | [], [] => True
  | t :: ts, v :: vs => Arg P W t v ∧ Args P W ts vs
  | _, _ => False
def tame (P : Program) (t : TypeId) : Bool := P.readableRec t && decide (t < P.types.size)
section
variable {H : Type} {enc : TypeId × Value → H} {P : Program} {W W' : World}
theorem args_of {base : Nat} : ∀ {ts : List TypeId} {vs : List Value} {ds : List (DataW H)} {p : List MemPlace}
    (_ : ∀ (j : Nat) t v, ts[j]? = some t → vs[j]? = some v → Value.okWide P W .any base t v) (_ : DataW.TrodAll enc P W 0 (fun _ => true) true ts vs ds p)
    (_ : ∀ x ∈ p, x.block < W.heap.size), Args P W ts vs
  | [], [], [], _, _, _, _ => trivial
  | t :: ts, v :: vs, d :: ds, _, hv, ⟨p, q, hp, hq, e⟩, hlt => by
    subst e
    exact ⟨⟨H, enc, base, d, p, hv 0 t v rfl rfl, hp, fun x hx => hlt x (by simp [hx])⟩, args_of (fun j t v h1 h2 => hv (j + 1) t v h1 h2) hq (fun x hx => hlt x (by simp [hx]))⟩
theorem below_all (hl : laidOutB P = true) (hb : Below W.heap.size W W') : ∀ {ts : List TypeId} {vs : List Value} {ds : List (DataW H)} {p : List MemPlace}
    (_ : ts.all (tame P) = true) (_ : DataW.TrodAll enc P W 0 (fun _ => true) true ts vs ds p) (_ : ∀ x ∈ p, x.block < W.heap.size),
    DataW.TrodAll enc P W' 0 (fun b => decide (b < W.heap.size)) true ts vs ds p
  | [], [], [], _, _, h, _ => h
  | t :: ts, v :: vs, d :: ds, _, ht, ⟨p, q, hp, hq, e⟩, hlt => by
    subst e
    simp only [List.all_cons, Bool.and_eq_true] at ht
    obtain ⟨h1, h2⟩ := ht
    simp only [tame, Bool.and_eq_true, decide_eq_true_eq] at h1
    exact ⟨p, q, Below.trod hl h1.1 h1.2 hp hb (fun x hx => hlt x (by simp [hx])), below_all hl hb h2 hq (fun x hx => hlt x (by simp [hx])), rfl⟩
theorem lt_all : ∀ {ts : List TypeId} {vs : List Value} {ds : List (DataW H)} {p : List MemPlace} {sp : Nat → Bool}
    (_ : DataW.TrodAll enc P W 0 sp true ts vs ds p), ∀ x ∈ p, x.block < W.heap.size
  | [], [], [], _, _, h => by rw [show _ = [] from h]; simp
  | t :: ts, v :: vs, d :: ds, _, _, ⟨p, q, ⟨m, hm⟩, hq, e⟩ => by
    subst e
    intro x hx
    rcases List.mem_append.1 hx with h | h
    · exact DataW.trod_lt m _ _ _ hm x h
    · exact lt_all hq x h
theorem len_all : ∀ {ts : List TypeId} {vs : List Value} {ds : List (DataW H)} {p : List MemPlace} {sp : Nat → Bool}
    (_ : DataW.TrodAll enc P W 0 sp true ts vs ds p), ds.length = ts.length ∧ vs.length = ts.length
  | [], [], [], _, _, _ => ⟨rfl, rfl⟩
  | t :: ts, v :: vs, d :: ds, _, _, ⟨p, q, _, hq, e⟩ => by have := len_all hq; simp [this]
theorem close {C : Checked} {f : FuncId} {fn : Func} {s : ChangeSpec} {base : Nat} {args : Array Value} {ds gs : List (DataW H)} {before : List MemPlace} {tb : TypeId}
    (hvars : s.vars = []) (hl : laidOutB C.prog = true) (ht : fn.params.toList.all (tame C.prog) = true) (hb : fn.resultTypes = #[tb]) (hub : C.prog.underlying tb = some .bool)
    (hs : ∀ (ds : List (DataW H)), ds.length = fn.params.size → (s.fn H ds).results = [.lit (.bool true)] ∧ (s.fn H ds).args = ds ∧ (s.fn H ds).vars = [])
    (hval : ∀ (j : Nat) t v, fn.params[j]? = some t → args[j]? = some v → Value.okWide C.prog W .any base t v)
    (hW : DataW.Whole enc C.prog fn.params.toList s.vars false W args.toList ds gs before)
    (walk : Args C.prog W fn.params.toList args.toList → args.size = fn.params.size → Calls C.prog f args W fun e W' => e = .returned (.bool true) ∧ Below W.heap.size W W') :
    Calls C.prog f args W fun e W' => ∃ v, e = .returned v ∧ s.post enc C.prog fn false true false false W args v W' := by
  have hW' := hW
  obtain ⟨p, q, hA, hV, e, hfz, _⟩ := hW
  rw [hvars] at hV
  obtain ⟨rfl, rfl⟩ := trodVars_none hV
  have hlt := lt_all hA
  obtain ⟨hlen, hlen2⟩ := len_all hA
  have hds : ds.length = fn.params.size := by simpa using hlen
  obtain ⟨hs1, hs2, hs3⟩ := hs ds hds
  refine (walk (args_of (base := base) (by simpa using hval) hA hlt) (by simpa using hlen2)).mono fun e' W' ⟨he, bel⟩ => ?_
  subst he
  refine ⟨_, rfl, ds, [], before, [], p, [], hW', ?_, ?_, ?_, bel.frame _, fun h => by cases h⟩
  · rw [List.append_nil, hs1, hb]
    exact trodAll_mk1 (shut_bool hub _)
  · rw [List.append_nil, hs2]
    exact below_all hl bel ht hA hlt
  · rw [List.append_nil, hs3, hvars]
    rfl
end
/-! ### cells that read as data, whatever the type -/
/-- cells that read as something of a type -/
def Dat (P : Program) (W : World) (t : TypeId) (cs : List Value) : Prop :=
  ∃ (H : Type) (enc : TypeId × Value → H) (n : Nat) (x : DataW H × List MemPlace), DataW.trod enc P W 0 (fun _ => true) true n t cs = some x
theorem flatten_len {α : Type} {size : Nat} : ∀ (xss : List (List α)) (_ : ∀ xs ∈ xss, xs.length = size), xss.flatten.length = xss.length * size
  | [], _ => by simp
  | xs :: xss, h => by
    rw [List.flatten_cons, List.length_append, flatten_len xss (fun y hy => h y (by simp [hy])), h xs (by simp), List.length_cons, Nat.add_mul]; omega
theorem flatten_get {α : Type} {size : Nat} : ∀ (xss : List (List α)) (_ : ∀ xs ∈ xss, xs.length = size) (i j : Nat) (_ : j < size) (xs : List α) (_ : xss[i]? = some xs), xss.flatten[i * size + j]? = xs[j]?
  | [], _, i, j, _, xs, hx => by simp at hx
  | ys :: xss, h, 0, j, hj, xs, hx => by
    simp at hx; subst hx
    have hl : ys.length = size := h ys (by simp)
    rw [List.flatten_cons, Nat.zero_mul, Nat.zero_add, List.getElem?_append_left (by omega)]
  | ys :: xss, h, i + 1, j, hj, xs, hx => by
    have hl : ys.length = size := h ys (by simp)
    rw [List.flatten_cons, List.getElem?_append_right (by rw [hl, Nat.add_mul]; omega), hl]
    have e : (i + 1) * size + j - size = i * size + j := by rw [Nat.add_mul]; omega
    rw [e]
    exact flatten_get xss (fun y hy => h y (by simp [hy])) i j hj xs (by simpa using hx)
section
variable {P : Program} {W : World} {t e : TypeId} {cs : List Value} {k : IntKind}
theorem Dat.bool (h : Dat P W t cs) (ht : P.underlying t = some .bool) : ∃ b : Bool, cs = [.bool b] := by
  obtain ⟨H, enc, n, x, h⟩ := h
  obtain ⟨b, rfl, _⟩ := DataW.trod_bool ht h
  exact ⟨b, rfl⟩
theorem Dat.int (h : Dat P W t cs) (ht : P.underlying t = some (.int k)) : ∃ n : Int, cs = [.int k n] ∧ (Lit.int k n).wf = true := by
  obtain ⟨H, enc, n, x, h⟩ := h
  obtain ⟨b, rfl, _, hw⟩ := DataW.trod_int ht h
  exact ⟨b, rfl, hw⟩
theorem Dat.string (h : Dat P W t cs) (ht : P.underlying t = some .string) : ∃ s : ByteArray, cs = [.string s] ∧ s.size ≤ maxLen := by
  obtain ⟨H, enc, n, x, h⟩ := h
  obtain ⟨b, rfl, _, hw⟩ := DataW.trod_string ht h
  exact ⟨b, rfl, hw⟩
theorem Dat.struct {fs : Array Field} (h : Dat P W t cs) (ht : P.underlying t = some (.struct fs)) :
    cs.length = P.cellsOf t ∧ ∀ (i : Nat) (f : Field), fs[i]? = some f → Dat P W f.type ((cs.drop f.offset).take (P.cellsOf f.type)) := by
  obtain ⟨H, enc, n, x, h⟩ := h
  obtain ⟨xs, m, _, _, hl, hx, hf⟩ := DataW.trod_struct ht h
  refine ⟨hl, fun i f hi => ?_⟩
  have hlt : i < xs.length := by rw [hx]; exact (Array.getElem?_eq_some_iff.1 hi).1
  exact ⟨H, enc, m, xs[i], (hf i f hi).trans (List.getElem?_eq_getElem hlt)⟩
theorem Dat.array {m : Nat} (h : Dat P W t cs) (ht : P.underlying t = some (.array m e)) :
    cs.length = P.cellsOf t ∧ ∀ i, i < m → Dat P W e ((cs.drop (i * P.cellsOf e)).take (P.cellsOf e)) := by
  obtain ⟨H, enc, n, x, h⟩ := h
  obtain ⟨xs, m', _, _, hl, hx, hf⟩ := DataW.trod_array ht h
  refine ⟨hl, fun i hi => ?_⟩
  exact ⟨H, enc, m', xs[i]'(by omega), (hf i hi).trans (List.getElem?_eq_getElem (by omega))⟩
theorem Dat.slice {size : Nat} (h : Dat P W t cs) (ht : P.underlying t = some (.slice e)) (hc : P.cellsOf e = size) (hpos : 0 < size) :
    ∃ (A : Option Addr) (n c : Nat) (xss : List (List Value)), cs = [.slice A n c] ∧ n ≤ c ∧ c ≤ maxLen ∧ xss.length = n ∧ (∀ xs ∈ xss, xs.length = size ∧ Dat P W e xs) ∧
      Mem.Sl W W.heap.size size A n xss.flatten ∧ (A = none → n = 0 ∧ c = 0) := by
  obtain ⟨H, enc, n, x, h⟩ := h
  rcases Go.Deep.open_slice ht h with ⟨rfl, _⟩ | ⟨a, len, cap, m, n', D, Pl, rfl, hb, hl, hm, hmm, _, hx⟩
  · exact ⟨none, 0, 0, [], rfl, by simp, by simp, rfl, by simp, Mem.Sl.nil, fun _ => ⟨rfl, rfl⟩⟩
  · simp only [if_true] at hmm
    subst hmm
    obtain ⟨F, hF⟩ := Go.Deep.choose_lt (α := List Value) (p := fun i xs => W.cells? 0 (a.add (i * P.cellsOf e)) (P.cellsOf e) = some xs ∧ DataW.trod enc P W 0 (fun _ => true) true n' e xs = some (D i, Pl i)) (n := m) (fun i hi => hx i hi)
    have hlen : ∀ xs ∈ (List.range len).map F, xs.length = size := by
      intro xs hxs
      obtain ⟨i, hi, rfl⟩ := List.mem_map.1 hxs
      have := (World.cells?_some (hF i (by have := List.mem_range.1 hi; omega)).1).2.1
      omega
    refine ⟨some a, len, m, (List.range len).map F, rfl, hl, hm, by simp, fun xs hxs => ?_, ⟨by rw [flatten_len _ hlen]; simp, fun hn => ⟨a, rfl, ?_, fun j hj => ?_⟩⟩, by simp⟩
    · refine ⟨hlen xs hxs, ?_⟩
      obtain ⟨i, hi, rfl⟩ := List.mem_map.1 hxs
      exact ⟨H, enc, n', _, (hF i (by have := List.mem_range.1 hi; omega)).2⟩
    · obtain ⟨_, h2, h3⟩ := World.cells?_some (hF 0 (by omega)).1
      have h4 := h3 0 (by omega)
      rw [List.getElem?_eq_getElem (by omega)] at h4
      rcases Nat.lt_or_ge a.block W.heap.size with hb | hb
      · exact hb
      · have hno : W.heap[((a.add (0 * P.cellsOf e)).add 0).block]? = none := by rw [Mem.add_block, Mem.add_block]; exact Array.getElem?_eq_none hb
        unfold World.cell? at h4
        rw [hno] at h4
        cases h4
    · have hfl := flatten_len _ hlen
      rw [hfl] at hj
      simp only [List.length_map, List.length_range] at hj
      have hi : j / size < len := (Nat.div_lt_iff_lt_mul hpos).2 hj
      have hjj : j / size * size + j % size = j := by rw [Nat.mul_comm]; exact Nat.div_add_mod j size
      have hmod : j % size < size := Nat.mod_lt _ hpos
      have hg := flatten_get _ hlen (j / size) (j % size) hmod (F (j / size)) (by simp [hi])
      rw [hjj] at hg
      obtain ⟨_, h2, h3⟩ := World.cells?_some (hF (j / size) (by omega)).1
      have h4 := h3 (j % size) (by omega)
      rw [Mem.add_add, hc, hjj, ← hg] at h4
      rw [h4]
      exact List.getElem?_eq_getElem (by rw [hfl]; simpa using hj)
end
theorem Arg.dat {P : Program} {W : World} {t : TypeId} {v : Value} (h : Arg P W t v) : Dat P W t v.cells.toList := by
  obtain ⟨H, enc, base, d, p, hv, ⟨n, hd⟩, _⟩ := h
  exact ⟨H, enc, n, _, hd⟩
theorem Arg.agg {P : Program} {W : World} {t : TypeId} {v : Value} {fs : Array Field} (h : Arg P W t v) (ht : P.underlying t = some (.struct fs)) : ∃ cs : Array Value, v = .agg cs := by
  obtain ⟨H, enc, base, d, p, hv, hd, _⟩ := h
  obtain ⟨cs, rfl, _⟩ := okWide_struct ht hv
  exact ⟨cs, rfl⟩
theorem Arg.one {P : Program} {W : World} {t e : TypeId} {v : Value} (h : Arg P W t v) (ht : P.underlying t = some (.slice e)) : ∃ A n c, v = .slice A n c := by
  obtain ⟨H, enc, base, d, p, hv, hd, _⟩ := h
  exact okWide_slice ht hv
/-! ### what an argument is, by its type -/
section
variable {P : Program} {W : World} {t e : TypeId} {v : Value} {k : IntKind}
theorem Arg.int (h : Arg P W t v) (ht : P.underlying t = some (.int k)) : ∃ n : Int, v = .int k n ∧ (Lit.int k n).wf = true := by
  obtain ⟨H, enc, base, d, p, hv, hd, _⟩ := h
  obtain ⟨x, rfl, _, _, wx⟩ := open_int ht hv hd
  exact ⟨x, rfl, wx⟩
theorem bd_i64 {n : Int} (h : (Lit.int .i64 n).wf = true) : -9223372036854775808 ≤ n ∧ n ≤ 9223372036854775807 := by
  simpa [Lit.wf, IntKind.min, IntKind.max, IntKind.signed, IntKind.bits] using h
theorem bd_u64 {n : Int} (h : (Lit.int .u64 n).wf = true) : 0 ≤ n ∧ n ≤ 18446744073709551615 := by
  simpa [Lit.wf, IntKind.min, IntKind.max, IntKind.signed, IntKind.bits] using h
theorem bd_i32 {n : Int} (h : (Lit.int .i32 n).wf = true) : -2147483648 ≤ n ∧ n ≤ 2147483647 := by
  simpa [Lit.wf, IntKind.min, IntKind.max, IntKind.signed, IntKind.bits] using h
theorem bd_u32 {n : Int} (h : (Lit.int .u32 n).wf = true) : 0 ≤ n ∧ n ≤ 4294967295 := by
  simpa [Lit.wf, IntKind.min, IntKind.max, IntKind.signed, IntKind.bits] using h
theorem bd_u16 {n : Int} (h : (Lit.int .u16 n).wf = true) : 0 ≤ n ∧ n ≤ 65535 := by
  simpa [Lit.wf, IntKind.min, IntKind.max, IntKind.signed, IntKind.bits] using h
theorem bd_u8 {n : Int} (h : (Lit.int .u8 n).wf = true) : 0 ≤ n ∧ n ≤ 255 := by
  simpa [Lit.wf, IntKind.min, IntKind.max, IntKind.signed, IntKind.bits] using h
theorem Arg.bool (h : Arg P W t v) (ht : P.underlying t = some .bool) : ∃ b : Bool, v = .bool b := by
  obtain ⟨H, enc, base, d, p, hv, hd, _⟩ := h
  obtain ⟨x, rfl, _, _⟩ := open_bool ht hv hd
  exact ⟨x, rfl⟩
theorem Arg.ints (h : Arg P W t v) (ht : P.underlying t = some (.slice e)) (he : P.underlying e = some (.int k)) (hc : P.cellsOf e = 1) :
    ∃ (A : Option Addr) (n c : Nat) (zs : List Int), v = .slice A n c ∧ n ≤ c ∧ c ≤ maxLen ∧ Mem.Ints W W.heap.size k A n zs ∧ ∀ z ∈ zs, (Lit.int k z).wf = true := by
  obtain ⟨H, enc, base, d, p, hv, hd, hlt⟩ := h
  obtain ⟨A, n, c, rfl⟩ := okWide_slice ht hv
  obtain ⟨fuel, hf⟩ := hd
  rcases open_ints ht he hc hf with ⟨hcs, _⟩ | ⟨x, l, c', zs, hcs, _, hl, hm, hz, hx, hcell, hwz⟩
  · simp [Value.cells] at hcs
    obtain ⟨rfl, rfl, rfl⟩ := hcs
    exact ⟨none, 0, 0, [], rfl, by simp, by simp, Mem.Ints.nil, by simp⟩
  · simp [Value.cells] at hcs
    obtain ⟨rfl, rfl, rfl⟩ := hcs
    have hzl : zs.length = c := by simpa using hz
    refine ⟨_, n, c, zs.take n, rfl, hl, hm, ⟨by simp; omega, fun hn => ⟨x, rfl, ?_, fun j hj => ?_⟩⟩, fun z hz => hwz z (List.mem_of_mem_take hz)⟩
    · have h0 := hcell 0 (by omega)
      rcases Nat.lt_or_ge x.block W.heap.size with hb | hb
      · exact hb
      · have : W.heap[(x.add 0).block]? = none := by rw [Mem.add_block]; exact Array.getElem?_eq_none hb
        simp [World.cell?, this] at h0
    · have hj2 : j < min n zs.length := by simpa [List.length_take] using hj
      have hjn : j < n ∧ j < zs.length := by omega
      rw [hcell j hjn.2]
      simp [List.getD_eq_getElem?_getD, List.getElem?_eq_getElem hjn.2]
theorem Arg.bools (h : Arg P W t v) (ht : P.underlying t = some (.slice e)) (he : P.underlying e = some .bool) (hc : P.cellsOf e = 1) :
    ∃ (A : Option Addr) (n c : Nat) (bs : List Bool), v = .slice A n c ∧ n ≤ c ∧ c ≤ maxLen ∧ bs.length = n ∧ Mem.Sl W W.heap.size 1 A n (bs.map Value.bool) := by
  obtain ⟨A, n, c, rfl⟩ := h.one ht
  obtain ⟨A', n', c', xss, hcs, h1, h2, h3, h4, h5, _⟩ := h.dat.slice ht hc (by omega)
  simp [Value.cells] at hcs
  obtain ⟨rfl, rfl, rfl⟩ := hcs
  have key : ∀ xss : List (List Value), (∀ xs ∈ xss, xs.length = 1 ∧ Dat P W e xs) → ∃ bs : List Bool, bs.length = xss.length ∧ xss.flatten = bs.map Value.bool := by
    intro xss
    induction xss with
    | nil => intro _; exact ⟨[], rfl, rfl⟩
    | cons xs xss ih =>
      intro hx
      obtain ⟨bs, hb1, hb2⟩ := ih (fun y hy => hx y (by simp [hy]))
      obtain ⟨b, rfl⟩ := (hx xs (by simp)).2.bool he
      exact ⟨b :: bs, by simp [hb1], by simp [hb2]⟩
  obtain ⟨bs, hb1, hb2⟩ := key xss h4
  exact ⟨A, n, c, bs, rfl, h1, h2, by omega, by rw [← hb2]; exact h5⟩
end
end Frame
end Go.Proofs.Ythccojfflmfggaa
/- Words for bilge/api.Container: its parts; a slice of them; cells in memory. -/
namespace Go.Proofs.Ythccojfflmfggaa
open Go.RowKit
structure ConV where
  id : ByteArray
  st : Int
  tr : Int
  last : Int
namespace ConV
/-- a number that an int holds -/
def I64 (n : Int) : Prop := -9223372036854775808 ≤ n ∧ n ≤ 9223372036854775807
def arr (p : ConV) : Array Value := #[.string p.id, .int .i64 p.st, .int .i64 p.tr, .int .i64 p.last]
def cells (p : ConV) : List Value := [.string p.id, .int .i64 p.st, .int .i64 p.tr, .int .i64 p.last]
theorem arr_cells (p : ConV) : p.arr.toList = p.cells := rfl
/-- its numbers are ints, its texts are texts -/
structure ok (p : ConV) : Prop where
  id : p.id.size ≤ maxLen
  st : I64 p.st
  tr : I64 p.tr
  last : I64 p.last
/-- their cells, one behind the other -/
def flat (ps : List ConV) : List Value := (ps.map cells).flatten
theorem flat_app (ps qs : List ConV) : flat (ps ++ qs) = flat ps ++ flat qs := by simp [flat]
theorem flat_cons (p : ConV) (qs : List ConV) : flat (p :: qs) = p.cells ++ flat qs := by simp [flat]
theorem flat_take (ps : List ConV) (i : Nat) : (flat ps).take (i * 4) = flat (ps.take i) := by
  induction ps generalizing i with
  | nil => simp [flat]
  | cons p ps ih =>
    cases i with
    | zero => simp [flat]
    | succ i =>
      rw [flat_cons, List.take_succ_cons, flat_cons, ← ih i, List.take_append, List.take_of_length_le (show p.cells.length ≤ (i + 1) * 4 by simp [cells]; omega)]
      congr 2
      simp [cells]
      omega
theorem flat_drop (ps : List ConV) (i : Nat) : (flat ps).drop (i * 4) = flat (ps.drop i) := by
  induction ps generalizing i with
  | nil => simp [flat]
  | cons p ps ih =>
    cases i with
    | zero => simp [flat]
    | succ i =>
      rw [flat_cons, List.drop_succ_cons, ← ih i, List.drop_append, List.drop_of_length_le (show p.cells.length ≤ (i + 1) * 4 by simp [cells]; omega)]
      simp only [List.nil_append]
      congr 1
      simp [cells]
      omega
theorem flat_len (ps : List ConV) : (flat ps).length = ps.length * 4 := by
  unfold flat
  rw [Frame.flatten_len (size := 4) _ (by intro xs hx; obtain ⟨p, _, rfl⟩ := List.mem_map.1 hx; rfl)]
  simp
theorem flat_get (ps : List ConV) (i j : Nat) (hi : i < ps.length) (hj : j < 4) : (flat ps)[i * 4 + j]? = (ps[i].cells)[j]? := by
  unfold flat
  exact Frame.flatten_get (size := 4) _ (by intro xs hx; obtain ⟨p, _, rfl⟩ := List.mem_map.1 hx; rfl) i j hj _ (by simp [hi])
theorem flat_one (ps : List ConV) : ∀ u ∈ flat ps, u.oneCell' = true := by
  intro u hu
  unfold flat at hu
  obtain ⟨l, hl, hul⟩ := List.mem_flatten.1 hu
  obtain ⟨p, _, rfl⟩ := List.mem_map.1 hl
  simp only [cells, List.mem_cons, List.not_mem_nil, or_false] at hul
  rcases hul with rfl | rfl | rfl | rfl <;> rfl
/-- at an address lie the cells -/
structure At (w : World) (ad : Addr) (p : ConV) : Prop where
  c0 : w.cell? ad = some (.string p.id)
  c1 : w.cell? { block := ad.block, off := ad.off + 1 } = some (.int .i64 p.st)
  c2 : w.cell? { block := ad.block, off := ad.off + 2 } = some (.int .i64 p.tr)
  c3 : w.cell? { block := ad.block, off := ad.off + 3 } = some (.int .i64 p.last)
theorem add_off (ad : Addr) (j : Nat) (h : j ≠ 0) : ad.add j = { block := ad.block, off := ad.off + j } := by unfold Addr.add; rw [if_neg h]
theorem at_ {w : World} {B n : Nat} {A : Option Addr} {ps : List ConV} (h : Mem.Sl w B 4 A n (flat ps)) {k : Nat} (hk : k < n) :
    ∃ (ad : Addr) (hl : k < ps.length), A = some ad ∧ ad.block < B ∧ (ad.add (k * 4)).block < B ∧ At w (ad.add (k * 4)) ps[k] := by
  obtain ⟨ad, e, hb, hc⟩ := h.2 (by omega)
  have hn : ps.length * 4 = n * 4 := by rw [← flat_len]; exact h.1
  have hl : k < ps.length := by omega
  refine ⟨ad, hl, e, hb, by rw [Mem.add_block]; exact hb, ?_⟩
  have key : ∀ (j : Nat) (hj : j < 4), w.cell? ((ad.add (k * 4)).add j) = (ps[k].cells)[j]? := by
    intro j hj
    have hlt : k * 4 + j < (flat ps).length := by rw [flat_len]; omega
    rw [Mem.add_add, hc (k * 4 + j) hlt, ← flat_get ps k j hl hj]
    exact (List.getElem?_eq_getElem hlt).symm
  have k0 := key 0 (by decide)
  rw [show (ad.add (k * 4)).add 0 = ad.add (k * 4) from by simp [Addr.add]] at k0
  have kj : ∀ (j : Nat) (hj : j < 4) (h0 : j ≠ 0), w.cell? { block := (ad.add (k * 4)).block, off := (ad.add (k * 4)).off + j } = (ps[k].cells)[j]? := fun j hj h0 => by rw [← add_off _ _ h0]; exact key j hj
  exact ⟨k0, kj 1 (by decide) (by decide), kj 2 (by decide) (by decide), kj 3 (by decide) (by decide)⟩
theorem At.below {w w' : World} {B : Nat} {ad : Addr} {p : ConV} (h : At w ad p) (hb : Below B w w') (hg : ad.block < B) : At w' ad p :=
  ⟨(hb.cell (p := ad) hg).trans h.c0, (hb.cell (p := { block := ad.block, off := ad.off + 1 }) hg).trans h.c1, (hb.cell (p := { block := ad.block, off := ad.off + 2 }) hg).trans h.c2, (hb.cell (p := { block := ad.block, off := ad.off + 3 }) hg).trans h.c3⟩
theorem At.drew {w : World} {ad : Addr} {p : ConV} (h : At w ad p) : At w.drew ad p := ⟨h.c0, h.c1, h.c2, h.c3⟩
/-- a block holds them -/
structure AtB (w : World) (g : Nat) (p : ConV) : Prop where
  c0 : w.cell? ⟨g, 0, none⟩ = some (.string p.id)
  c1 : w.cell? ⟨g, 1, none⟩ = some (.int .i64 p.st)
  c2 : w.cell? ⟨g, 2, none⟩ = some (.int .i64 p.tr)
  c3 : w.cell? ⟨g, 3, none⟩ = some (.int .i64 p.last)
theorem of_blk {w : World} {g : Nat} {t : TypeId} {p : ConV} (h : Mem.Blk w g t p.arr) : AtB w g p :=
  ⟨h.cell 0, h.cell 1, h.cell 2, h.cell 3⟩
theorem AtB.below {w w' : World} {g : Nat} {p : ConV} (h : AtB w g p) (hb : Below w.heap.size w w') (hg : g < w.heap.size) : AtB w' g p :=
  ⟨(hb.cell (p := ⟨g, 0, none⟩) hg).trans h.c0, (hb.cell (p := ⟨g, 1, none⟩) hg).trans h.c1, (hb.cell (p := ⟨g, 2, none⟩) hg).trans h.c2, (hb.cell (p := ⟨g, 3, none⟩) hg).trans h.c3⟩
theorem AtB.drew {w : World} {g : Nat} {p : ConV} (h : AtB w g p) : AtB w.drew g p := ⟨h.c0, h.c1, h.c2, h.c3⟩
end ConV
end Go.Proofs.Ythccojfflmfggaa
/- The walks of layer 16 (world): where a container stands: strings.Compare, the closure, the search. -/
namespace Go.Proofs.Ythccojfflmfggaa
open Go.RowKit
namespace Wo
set_option maxRecDepth 100000 in
theorem cmpstr_c (a b : ByteArray) (w : World) : Calls Try.prog 69 #[.string a, .string b] w fun e w' => e = .returned (.int .i64 (Str.cmp a b)) ∧ w = w' := by
  go_enter Try.func69, Try.ntmps69
  go_wp2
  rw [run_callFunc_extern Try.func80 (by kernel_rfl) (by kernel_rfl) (by kernel_rfl) (e := Extern.BytealgCompare.compare) (by kernel_rfl), Lib.run_compareString]
  simp only [Result.andThen]
  rw [Oper.upon_value]
  go_wp2
  go_ret
  exact ⟨rfl, rfl⟩
set_option maxRecDepth 100000 in
theorem compare_c (a b : ByteArray) (w : World) : Calls Try.prog 50 #[.string a, .string b] w fun e w' => e = .returned (.int .i64 (Str.cmp a b)) ∧ w = w' := by
  go_enter Try.func50, Try.ntmps50
  go_wp2_with fail
  refine (cmpstr_c _ _ _).mono ?_
  rintro e w' ⟨rfl, rfl⟩
  go_wp2_with fail
  go_ret
  exact ⟨rfl, rfl⟩
set_option maxRecDepth 100000 in
theorem clos_c (p : ConV) (s : ByteArray) (w : World) : Calls Try.prog 49 #[.agg p.arr, .string s] w fun e w' => e = .returned (.int .i64 (Str.cmp p.id s)) ∧ Below w.heap.size w w' := by
  obtain ⟨id, st, tr, last⟩ := p
  unfold ConV.arr
  dsimp only
  go_enter Try.func49, Try.ntmps49
  go_wp2_with fail
  refine (compare_c _ _ _).mono ?_
  rintro e w' ⟨rfl, rfl⟩
  go_wp2_with fail
  go_ret
  exact ⟨rfl, (Below.refl _ _).alloc (Nat.le_refl _) _⟩
/-- their names -/
def ids (bx : List ConV) : List ByteArray := bx.map fun p => p.id
theorem ids_len (bx : List ConV) : (ids bx).length = bx.length := by simp [ids]
theorem ids_at {bx : List ConV} {k : Nat} (h : k < bx.length) (h2 : k < (ids bx).length) : (ids bx)[k] = bx[k].id := by simp [ids]
set_option maxRecDepth 100000 in
set_option maxHeartbeats 2000000 in
theorem search_c (A : Option Addr) (n c : Nat) (bx : List ConV) (s : ByteArray) (w : World) (h : Mem.Sl w w.heap.size 4 A n (ConV.flat bx)) (hr : Str.Rises (ids bx)) (hlen : bx.length = n) (hn : n ≤ 1000000) :
    Calls Try.prog 48 #[.slice A n c, .string s, .func (.func 49) #[] #[]] w fun e w' => e = .returned (.tuple #[.int .i64 (Str.pos (ids bx) s), .bool (Str.has (ids bx) s)]) ∧ Below w.heap.size w w' := by
  have HR := Lib.hid hr
  clear hr
  obtain ⟨P, hP⟩ : ∃ P, P = Str.pos (ids bx) s := ⟨_, rfl⟩
  obtain ⟨F, hF⟩ : ∃ F, F = Str.has (ids bx) s := ⟨_, rfl⟩
  rw [← hP, ← hF]
  have HP := Lib.hid hP
  have HF := Lib.hid hF
  clear hP hF
  go_enter Try.func48, Try.ntmps48
  go_wp2_with fail
  go_loopw [9, 10] (fun vi vj wr => ∃ i j : Nat, i ≤ j ∧ j ≤ n ∧ vi = .int .i64 i ∧ vj = .int .i64 j ∧ Below w.heap.size w wr ∧ Hid (∀ (t : Nat) (ht : t < (ids bx).length), t < i → Str.cmp (ids bx)[t] s < 0) ∧ Hid (∀ (t : Nat) (ht : t < (ids bx).length), j ≤ t → 0 ≤ Str.cmp (ids bx)[t] s)) (fun i j _ => (intOf j - intOf i).toNat)
  case atStart => exact ⟨0, n, by omega, by omega, rfl, rfl, Below.refl _ _, fun t _ h => absurd h (by omega), fun t ht h => absurd ht (by rw [ids_len]; omega)⟩
  case round =>
    obtain ⟨i, j, hij, hjn, rfl, rfl, hbr, Hl, Hh⟩ := hrel
    by_cases hlt : i < j
    · obtain ⟨m, hm⟩ : ∃ m : Nat, m = (i + j) / 2 := ⟨_, rfl⟩
      have hm1 : i ≤ m := by omega
      have hm2 : m < j := by omega
      have hmi : ((i : Int) + j) / 2 = m := by omega
      have d0 : decide ((i : Int) < j) = true := decide_eq_true (by omega)
      have hsh : ∀ w, (binOp .shr 123 (.int .u64 ((i : Int) + j)) (.int .u64 1)).run Try.prog w = .ok (.int .u64 (m : Int)) w := by
        intro w
        rw [binOp_shr, shift_shr _ _ _ _ (by decide) (by decide), show (2 : Int) ^ (Int.toNat 1) = 2 from rfl, hmi]
        rfl
      obtain ⟨ad, hl, rfl, _, _, hat⟩ := ConV.at_ (h.below hbr) (k := m) (by omega)
      have hx : m < (ids bx).length := by rw [ids_len]; exact hl
      have he : (ids bx)[m] = bx[m].id := ids_at hl hx
      obtain ⟨q, hq⟩ : ∃ q, q = bx[m] := ⟨_, rfl⟩
      rw [← hq] at hat he
      clear hq
      obtain ⟨c0, c1, c2, c3⟩ := hat
      obtain ⟨qi, qs, qt, ql⟩ := q
      dsimp only at c0 c1 c2 c3 he
      have hcl := Lib.hid (fun w => clos_c ⟨qi, qs, qt, ql⟩ s w)
      have He := Lib.hid he
      clear hm he
      go_wp2_with fail
      refine (hcl.out _).mono ?_
      rintro e w1 ⟨rfl, hb1⟩
      have hbr1 : Below w.heap.size w w1 := hbr.trans (hb1.mono hbr.size)
      clear hcl hb1 c0 c1 c2 c3 hsh hmi
      dsimp only
      have he := He.out
      have hc : Str.cmp qi s = Str.cmp (ids bx)[m] s := by rw [he]
      have Hrise := HR.out
      by_cases hneg : Str.cmp qi s < 0
      · have d1 : decide (Str.cmp qi s < 0) = true := decide_eq_true hneg
        have Hl2 : Hid (∀ (t : Nat) (ht : t < (ids bx).length), t < m + 1 → Str.cmp (ids bx)[t] s < 0) := by
          intro t ht htm
          rcases Nat.lt_or_eq_of_le (Nat.le_of_lt_succ htm) with h | rfl
          · exact Str.cmp_trans (List.pairwise_iff_getElem.1 Hrise t m ht hx h) (by rw [← hc]; omega)
          · rw [← hc]; exact hneg
        clear hc he Hrise hneg
        generalize Str.cmp qi s = y at *
        go_wp2_with fail
        go_roundw
        case rel => exact ⟨m + 1, j, by omega, by omega, by go_num, rfl, hbr1, Hl2, Hh⟩
        case measure => simp [intOf]; omega
      · have d1 : decide (Str.cmp qi s < 0) = false := decide_eq_false hneg
        have Hh2 : Hid (∀ (t : Nat) (ht : t < (ids bx).length), m ≤ t → 0 ≤ Str.cmp (ids bx)[t] s) := by
          intro t ht htm
          refine Int.not_lt.1 fun hlt2 => ?_
          rcases Nat.lt_or_eq_of_le htm with h | rfl
          · have h1 := List.pairwise_iff_getElem.1 Hrise m t hx ht h
            have h2 := Str.cmp_trans h1 (show Str.cmp (ids bx)[t] s ≤ 0 by omega)
            rw [← hc] at h2
            exact hneg h2
          · rw [← hc] at hlt2; exact hneg hlt2
        clear hc he Hrise hneg
        generalize Str.cmp qi s = y at *
        go_wp2_with fail
        go_roundw
        case rel => exact ⟨i, m, by omega, by omega, rfl, rfl, hbr1, Hl, Hh2⟩
        case measure => simp [intOf]; omega
    · obtain rfl : i = j := by omega
      have hpos : Str.pos (ids bx) s = i := Str.pos_at HR.out i (by rw [ids_len]; omega) Hl.out (fun t ht h => Int.not_lt.2 (Hh.out t ht h))
      have d0 : decide ((i : Int) < i) = false := decide_eq_false (by omega)
      by_cases hin : i < n
      · have d2 : decide ((i : Int) < n) = true := decide_eq_true (by omega)
        obtain ⟨ad, hl, rfl, _, _, hat⟩ := ConV.at_ (h.below hbr) (k := i) hin
        have hx : i < (ids bx).length := by rw [ids_len]; exact hl
        have he : (ids bx)[i] = bx[i].id := ids_at hl hx
        have hhas : Hid (Str.has (ids bx) s = (Str.cmp bx[i].id s == 0)) := by
          show _ = _
          subst hpos
          rw [Str.has_pos HR.out (by rw [ids_len]; omega), he]
        obtain ⟨q, hq⟩ : ∃ q, q = bx[i] := ⟨_, rfl⟩
        rw [← hq] at hat hhas
        have HPi : Hid (P = i) := HP.out.trans hpos
        have HFi : Hid (F = (Str.cmp q.id s == 0)) := HF.out.trans hhas.out
        clear hq he hpos hhas
        obtain ⟨c0, c1, c2, c3⟩ := hat
        obtain ⟨qi, qs, qt, ql⟩ := q
        dsimp only at c0 c1 c2 c3 HFi
        have hcl := Lib.hid (fun w => clos_c ⟨qi, qs, qt, ql⟩ s w)
        go_wp2_with fail
        refine (hcl.out _).mono ?_
        rintro e w1 ⟨rfl, hb1⟩
        have hbr1 : Below w.heap.size w w1 := hbr.trans (hb1.mono hbr.size)
        clear hcl hb1 c0 c1 c2 c3
        dsimp only
        generalize Str.cmp qi s = y at *
        go_wp2_with fail
        go_ret2
        exact ⟨by rw [HFi.out, HPi.out]; rfl, hbr1⟩
      · have d2 : decide ((i : Int) < n) = false := decide_eq_false (by omega)
        have hhas : Str.has (ids bx) s = false := Str.has_end (by rw [hpos, ids_len]; omega)
        have HPi : Hid (P = i) := HP.out.trans hpos
        have HFi : Hid (F = false) := HF.out.trans hhas
        clear hpos hhas
        go_wp2_with fail
        go_ret2
        exact ⟨by rw [HFi.out, HPi.out]; rfl, hbr⟩
end Wo
end Go.Proofs.Ythccojfflmfggaa
/- The walks of layer 16 (world): slices.Insert at containers. -/
namespace Go.Proofs.Ythccojfflmfggaa
open Go.RowKit
namespace Wo
def zC : Value := .agg #[.string ⟨#[]⟩, .int .i64 0, .int .i64 0, .int .i64 0]
theorem elc : Mem.El Try.prog 30 48 zC 4 40 := ⟨Try.underlying30, by kernel_rfl, rfl, by decide⟩
abbrev CRow (w : World) (A : Option Addr) (n c : Nat) (bx : List ConV) : Prop := Ro.Row w 48 4 A n c (ConV.flat bx)
/-- what an insertion answers -/
def InsSaid (A : Option Addr) (n : Nat) (bx : List ConV) (w : World) (e : Ending) (w' : World) : Prop := ∃ A' c', e = .returned (.slice A' (n + 1) c') ∧ CRow w' A' (n + 1) c' bx ∧ Ro.Only (fun b => Ro.blk A = some b) w w' ∧ (Ro.blk A' = Ro.blk A ∨ ∃ b, Ro.blk A' = some b ∧ w.heap.size ≤ b)
theorem flat_ins (bx : List ConV) (p : ConV) (i : Nat) : (ConV.flat bx).take (i * 4) ++ p.cells ++ (ConV.flat bx).drop (i * 4) = ConV.flat (bx.take i ++ p :: bx.drop i) := by
  rw [ConV.flat_take, ConV.flat_drop, ConV.flat_app, ConV.flat_cons, List.append_assoc]
set_option maxRecDepth 100000 in
set_option maxHeartbeats 4000000 in
theorem insert_c (A : Option Addr) (n c i vb : Nat) (bx : List ConV) (p : ConV) (w : World) (h : CRow w A n c bx) (hi : i ≤ n) (hv : Mem.Blk w vb 48 p.arr) (hvb : ¬ Ro.blk A = some vb) (hn : n ≤ 1000000) :
    Calls Try.prog 28 #[.slice A n c, .int .i64 i, .slice (some ⟨vb, 0, none⟩) 1 1] w (InsSaid A n (bx.take i ++ p :: bx.drop i) w) := by
  have hlen : bx.length = n := by have := h.1; rw [ConV.flat_len] at this; omega
  have hvs : Mem.Sl w w.heap.size 4 (some ⟨vb, 0, none⟩) 1 p.cells := ⟨rfl, fun _ => ⟨_, rfl, hv.lt, Mem.Cells.of_block hv⟩⟩
  have hp1 : ∀ u ∈ p.cells, u.oneCell' = true := by have := ConV.flat_one [p]; simpa [ConV.flat] using this
  have hle := h.le
  have hcm := hle.2
  unfold maxLen at hcm
  rcases Nat.lt_or_eq_of_le hi with hlt | rfl
  · obtain ⟨g, off, rfl⟩ := h.some_of (by omega)
    have hg : ¬ vb = g := fun e => hvb (by rw [e]; rfl)
    have hdl : ((ConV.flat bx).drop (i * 4)).length = (n - i) * 4 := by rw [List.length_drop, h.1]; omega
    have hone : ∀ u ∈ (ConV.flat bx).drop (i * 4), u.oneCell' = true := fun u hu => ConV.flat_one bx u (List.mem_of_mem_drop hu)
    have hfrom := h.from_ i hi
    rw [if_neg (show ¬ c = i by omega)] at hfrom
    have hsrc := hfrom.sl
    by_cases hroom : n + 1 ≤ c
    · -- there is room
      obtain ⟨zs, hzs, hext⟩ : ∃ zs : List Value, zs.length = 4 ∧ Ro.Row w 48 4 (some ⟨g, off, none⟩) (n + 1) c (ConV.flat bx ++ zs) := by
        obtain ⟨ys, hy, ht⟩ := h.full
        have h2 := hy.cut (n + 1) hroom
        have hyl := hy.1
        refine ⟨(ys.drop (n * 4)).take 4, by simp; omega, ?_⟩
        have e : ConV.flat bx ++ (ys.drop (n * 4)).take 4 = ys.take ((n + 1) * 4) := by
          rw [← ht, show (n + 1) * 4 = n * 4 + 4 by omega, List.take_add]
        rw [e]; exact h2
      obtain ⟨w1, hr1, hR1, hO1⟩ := Ro.copy_row (P := Try.prog) (t := 30) (ty := 3) (A2 := some ⟨g, off + i * 4, none⟩) (w := w.drew) elc (show Ro.Row w.drew _ 4 _ _ _ _ from hext) (i + 1) (n + 1 - (i + 1)) (c - (i + 1)) (n - i) (n + 1 - i) (c - i) ((ConV.flat bx).drop (i * 4)) (by simp only [Nat.min_def]; split <;> omega) (by omega) (show Mem.Sl w.drew _ 4 _ _ _ from hsrc) (by omega) hone
      have hv1 : Mem.Blk w1 vb 48 p.arr := (hO1.block vb hv.lt (fun e => hg e)).trans hv
      have hvs1 : Mem.Sl w1 w1.heap.size 4 (some ⟨vb, 0, none⟩) 1 p.cells := ⟨rfl, fun _ => ⟨_, rfl, hv1.lt, Mem.Cells.of_block hv1⟩⟩
      obtain ⟨w2, hr2, hR2, hO2⟩ := Ro.copy_row (P := Try.prog) (t := 30) (ty := 3) (A2 := some ⟨vb, 0, none⟩) (w := w1) elc hR1 i (n + 1 - i) (c - i) 1 1 1 p.cells (by simp only [Nat.min_def]; split <;> omega) (by omega) hvs1 (by omega) hp1
      have hfin : Hid (InsSaid (some ⟨g, off, none⟩) n (bx.take i ++ p :: bx.drop i) w (.returned (.slice (some ⟨g, off, none⟩) (n + 1) c)) w2) := by
        refine ⟨_, _, rfl, ?_, ?_, .inl rfl⟩
        · unfold CRow
          rw [← flat_ins]
          have e := Ro.over_in (xs := ConV.flat bx) (zs := zs) (v := p.cells) (a := i * 4) (k := 4) (by rw [h.1]; omega) rfl hzs
          rw [show i * 4 + 4 = (i + 1) * 4 by omega] at e
          rw [← e]
          exact hR2
        · exact (hO1.undrew.trans hO2 (fun _ _ c => c)).mono (fun b _ hb => by rw [hb]; rfl)
      have hov : ∀ lb cb, (callFunc 51 #[.slice (some ⟨vb, 0, none⟩) 1 1, .slice (some ⟨g, off + (i + 1) * 4, none⟩) lb cb]).run Try.prog w = .ok (.value (.bool false)) w := fun lb cb => by
        obtain ⟨cur, hcur⟩ := h.type (g := g) rfl
        rw [run_callFunc_extern Try.func51 (by kernel_rfl) (by kernel_rfl) (by kernel_rfl) (e := Extern.SlicesOverlaps.overlaps #[30, 30] #[4]) (by kernel_rfl),
          Lib.run_overlaps_apart w 30 4 48 Try.underlying30 4 (fun w => by rw [Try.sizeOf48]) ⟨vb, 0, none⟩ ⟨g, off + (i + 1) * 4, none⟩ 1 1 lb cb hg _ _ _ _ (Ro.shape_of hv) (Ro.shape_of hcur) (by
            have hc0 := h.cell 0 (by rw [h.1]; omega)
            intro hz
            have hz : cur = #[] := Array.eq_empty_of_size_eq_zero hz
            subst hz
            rw [Nat.add_zero, cell_of_row w g off #[] _ (0, 0) hcur] at hc0
            simp at hc0) (hv.frozen 0) (hv.frozen _)]
        rfl
      clear hR1 hO1 hR2 hO2 hvs1 hv1 hext hfrom hsrc hone hdl hvs hp1 hv h hvb
      have HR1 := hr1
      have hci : ¬ (c = i) := by omega
      have hci1 : ¬ (c = i + 1) := by omega
      have hw1 : IntKind.i64.wrap ((i : Int) + 1) = (i : Int) + 1 := by rw [IntKind.wrap_i64]; omega
      have hw2 : IntKind.i64.wrap ((n : Int) + 1) = (n : Int) + 1 := by rw [IntKind.wrap_i64]; omega
      have htn : ((i : Int) + 1).toNat = i + 1 := by omega
      have hb1 : (0 : Int) ≤ (i : Int) + 1 := by omega
      have hb3 : (i : Int) ≤ (n : Int) + 1 := by omega
      have hz2 : ¬ ((i : Int) = (n : Int)) := by omega
      go_enter Try.func28, Try.ntmps28
      go_wp2_with (simp only [hov])
      go_region_law (refine Ro.step_copy rfl _ _ 30 30 rfl (.slice (some ⟨g, off + (i + 1) * 4, none⟩) (n + 1 - (i + 1)) (c - (i + 1))) (.slice (some ⟨g, off + i * 4, none⟩) (n + 1 - i) (c - i)) (by simp [Act.eval, Act.put]) (by simp [Act.eval, Act.put]) hr1 ?_)
      go_wp2_with (at_builtin; refine Ro.wpList_copy rfl _ _ 30 30 rfl _ _ rfl rfl hr2 ?_)
      go_ret
      exact hfin.out
    · -- there is none
      have hcut := h.cut i hi
      have hq : i + (n + 1 - i) = n + 1 := by omega
      obtain ⟨c1, w1, zs, hr1, hzs, hR1, hO1⟩ := Ro.app_zeros (P := Try.prog) (t := 30) (tn := 3) (ty := 30) elc Try.underlying3 hcut (n + 1 - i) (by omega) (by omega) (by unfold maxLen; omega) (by omega)
      rw [hq] at hr1 hR1
      have hle1 := hR1.le
      have hcm1 := hle1.2
      unfold maxLen at hcm1
      obtain ⟨N, hN⟩ : ∃ N, N = w.heap.size := ⟨_, rfl⟩
      rw [← hN] at hr1 hR1
      have hgN : g < N := by rw [hN]; exact h.lt rfl
      have hvN : vb < N := by rw [hN]; exact hv.lt
      have hz0 : zs.length = 4 + ((ConV.flat bx).length - i * 4) := by rw [hzs, h.1]; omega
      have hv1 : Mem.Blk w1 vb 48 p.arr := (hO1.block vb hv.lt (fun c => c)).trans hv
      have hvs1 : Mem.Sl w1 w1.heap.size 4 (some ⟨vb, 0, none⟩) 1 p.cells := ⟨rfl, fun _ => ⟨_, rfl, hv1.lt, Mem.Cells.of_block hv1⟩⟩
      obtain ⟨w2, hr2, hR2, hO2⟩ := Ro.copy_row (P := Try.prog) (t := 30) (ty := 3) (A2 := some ⟨vb, 0, none⟩) (w := w1) elc hR1 i (n + 1 - i) (c1 - i) 1 1 1 p.cells (by simp only [Nat.min_def]; split <;> omega) (by omega) hvs1 (by omega) hp1
      have hs1 : Ro.Row w2 48 4 (some ⟨g, off + i * 4, none⟩) (n - i) (c - i) ((ConV.flat bx).drop (i * 4)) := (hfrom.only hO1 (fun _ _ c => c)).only hO2 (fun b hb e => by
        have : g = b := by simpa [Ro.blk] using hb
        omega)
      obtain ⟨w3, hr3, hR3, hO3⟩ := Ro.copy_row (P := Try.prog) (t := 30) (ty := 3) (A2 := some ⟨g, off + i * 4, none⟩) (w := w2.drew) elc (show Ro.Row w2.drew _ 4 _ _ _ _ from hR2) (i + 1) (n + 1 - (i + 1)) (c1 - (i + 1)) (n - i) (n - i) (c - i) ((ConV.flat bx).drop (i * 4)) (by simp only [Nat.min_def]; split <;> omega) (by omega) (show Mem.Sl w2.drew _ 4 _ _ _ from hs1.sl) (by omega) hone
      simp only [Nat.zero_add] at hr2 hr3
      have hfin : Hid (InsSaid (some ⟨g, off, none⟩) n (bx.take i ++ p :: bx.drop i) w (.returned (.slice (some ⟨N, 0, none⟩) (n + 1) c1)) w3) := by
        refine ⟨_, _, rfl, ?_, ?_, .inr ⟨N, rfl, by omega⟩⟩
        · unfold CRow
          rw [← flat_ins]
          have e := Ro.over_new (xs := ConV.flat bx) (zs := zs) (v := p.cells) (a := i * 4) (k := 4) (by rw [h.1]; omega) rfl hz0
          rw [show i * 4 + 4 = (i + 1) * 4 by omega] at e
          rw [← e]
          exact hR3
        · exact ((hO1.trans hO2 (T := fun b => b = N) (fun b hb e => by omega)).trans hO3.undrew (fun b hb e => by omega)).mono (fun b _ c => c.elim)
      have hci : ¬ (c = i) := by omega
      have hci1 : ¬ (c1 = i) := by omega
      have hci2 : ¬ (c1 = i + 1) := by omega
      have hz2 : ¬ ((i : Int) = (n : Int)) := by omega
      have hkk : (n : Int) + 1 - (i : Int) = ((n + 1 - i : Nat) : Int) := by omega
      rw [← hkk] at hr1
      have hw1 : IntKind.i64.wrap ((i : Int) + 1) = (i : Int) + 1 := by rw [IntKind.wrap_i64]; omega
      have htn : ((i : Int) + 1).toNat = i + 1 := by omega
      have hb1 : (0 : Int) ≤ (i : Int) + 1 := by omega
      have hb3 : (i : Int) ≤ (n : Int) := by omega
      clear hkk hR1 hO1 hR2 hO2 hR3 hO3 hvs1 hv1 hs1 hfrom hsrc hone hdl hvs hp1 hv h hvb hN hcut hz0 hzs hq hle1
      go_enter Try.func28, Try.ntmps28
      go_wp2_with (at_builtin; first
        | refine Ro.wpList_app rfl _ _ _ _ rfl _ _ rfl rfl hr1 ?_
        | refine Ro.wpList_copy rfl _ _ 30 30 rfl _ _ rfl rfl hr2 ?_)
      go_region_law (refine Ro.step_copy rfl _ _ 30 30 rfl (.slice (some ⟨N, (i + 1) * 4, none⟩) (n + 1 - (i + 1)) (c1 - (i + 1))) (.slice (some ⟨g, off + i * 4, none⟩) (n - i) (c - i)) (by simp [Act.eval, Act.put]) (by simp [Act.eval, Act.put]) hr3 ?_)
      go_wp2_with fail
      go_ret
      exact hfin.out
  · obtain ⟨A', c', w', hr, hR, hO, hb⟩ := Ro.app (P := Try.prog) (ty := 30) (c2 := 1) elc h hvs hp1 (by unfold maxLen; omega) (by omega)
    have hfin : Hid (InsSaid A i (bx.take i ++ p :: bx.drop i) w (.returned (.slice A' (i + 1) c')) w') := by
      refine ⟨A', c', rfl, ?_, hO, hb.imp id (fun e => ⟨_, e, Nat.le_refl _⟩)⟩
      rw [List.take_of_length_le (by omega), List.drop_of_length_le (by omega)]
      unfold CRow
      rw [ConV.flat_app, show ConV.flat [p] = p.cells from by simp [ConV.flat]]
      exact hR
    clear h hv hvs hp1 hR hO hb hvb hlen
    rcases A with _ | ⟨g, off, sp⟩
    · go_enter Try.func28, Try.ntmps28
      go_wp2_with (at_builtin; refine Ro.wpList_app rfl _ _ _ _ rfl _ _ rfl rfl hr ?_)
      go_ret
      exact hfin.out
    · go_enter Try.func28, Try.ntmps28
      go_wp2_with (at_builtin; refine Ro.wpList_app rfl _ _ _ _ rfl _ _ rfl rfl hr ?_)
      all_goals
        go_ret
        exact hfin.out
end Wo
end Go.Proofs.Ythccojfflmfggaa
/- The walks of layer 16 (world): slices.Delete, slices.Clone at containers. -/
namespace Go.Proofs.Ythccojfflmfggaa
open Go.RowKit
namespace Wo
theorem zero_c : ∀ v ∈ zC.cells.toList, v.oneCell' = true := by
  intro v hv
  simp [zC, Value.cells] at hv
  rcases hv with rfl | rfl <;> rfl
/-- what a deletion answers -/
def DelSaid (A : Option Addr) (n c : Nat) (bx : List ConV) (w : World) (e : Ending) (w' : World) : Prop := e = .returned (.slice A n c) ∧ CRow w' A n c bx ∧ Ro.Only (fun b => Ro.blk A = some b) w w'
set_option maxRecDepth 100000 in
set_option maxHeartbeats 4000000 in
theorem delete_c (A : Option Addr) (n c i : Nat) (bx : List ConV) (w : World) (h : CRow w A n c bx) (hi : i < n) (hn : n ≤ 1000000) :
    Calls Try.prog 56 #[.slice A n c, .int .i64 i, .int .i64 ((i : Int) + 1)] w (DelSaid A (n - 1) c (bx.take i ++ bx.drop (i + 1)) w) := by
  have hlen : bx.length = n := by have := h.1; rw [ConV.flat_len] at this; omega
  have hle := h.le
  have hcm := hle.2
  unfold maxLen at hcm
  obtain ⟨g, off, rfl⟩ := h.some_of (by omega)
  have hcut : Ro.Row w.drew 48 4 (some ⟨g, off, none⟩) i c ((ConV.flat bx).take (i * 4)) := h.cut i (by omega)
  have hfrom := h.from_ (i + 1) (by omega)
  obtain ⟨w1, hr1, hR1, hO1⟩ := Ro.app_room0 (P := Try.prog) (t := 30) (ty := 30) (c2 := c - (i + 1)) elc hcut (show Mem.Sl w.drew _ 4 _ _ _ from hfrom.sl) (fun u hu => ConV.flat_one bx u (List.mem_of_mem_drop hu)) (by omega)
  rw [show i + (n - (i + 1)) = n - 1 by omega] at hr1 hR1
  obtain ⟨w2, hr2, hR2, hO2⟩ := Ro.clear_row (P := Try.prog) (t := 30) (ty := 0) (m := 1) (cc := c - (n - 1)) elc zero_c hR1 (by omega) (by omega)
  have hfin : Hid (DelSaid (some ⟨g, off, none⟩) (n - 1) c (bx.take i ++ bx.drop (i + 1)) w (.returned (.slice (some ⟨g, off, none⟩) (n - 1) c)) w2) := by
    refine ⟨rfl, ?_, (hO1.undrew.trans hO2 (fun b _ e => by rw [e]; rfl))⟩
    unfold CRow
    rw [ConV.flat_app, ← ConV.flat_take, ← ConV.flat_drop]
    exact hR2
  have hci : ¬ (c = n - 1) := by omega
  have hz2 : ¬ ((i : Int) = (i : Int) + 1) := by omega
  have htn : ((i : Int) + 1).toNat = i + 1 := by omega
  have hb3 : (i : Int) + 1 ≤ (n : Int) := by omega
  have hnn : (n : Int) - ((n - 1 : Nat) : Int) = 1 := by omega
  clear hR1 hO1 hR2 hO2 hfrom hcut h
  by_cases hc1 : c = i + 1
  · obtain rfl : n = i + 1 := by omega
    subst hc1
    simp only [if_true, Nat.sub_self, Nat.add_sub_cancel] at hr1 hr2 hfin hnn hci
    rw [show i + 1 - i = 1 by omega] at hr2
    clear hci
    have f1 : (i : Int) ≤ (i : Int) + 1 := by omega
    have f2 : i ≤ i + 1 := by omega
    have f5 : (0 : Int) ≤ (i : Int) + 1 := by omega
    go_enter Try.func56, Try.ntmps56
    go_wp2_with fail
    go_region_law (refine Ro.step_app rfl _ _ 30 30 rfl (.slice (some ⟨g, off, none⟩) i (i + 1)) (.slice (some ⟨g, off, none⟩) 0 0) (by simp [Act.eval, Act.put]) (by simp [Act.eval, Act.put]) hr1 ?_)
    go_wp2_with fail
    go_ret
    exact hfin.out
  · rw [if_neg hc1] at hr1
    have hr3 : (Builtin.clear_ #[30] 0 #[.slice (some ⟨g, off + (n - 1) * 4, none⟩) (n - (n - 1)) (c - (n - 1))]).run Try.prog w1 = .ok (.tuple #[]) w2 := by
      rw [show n - (n - 1) = 1 by omega]; exact hr2
    clear hr2
    have f1 : (i : Int) ≤ (c : Int) := by omega
    have f2 : i ≤ c := by omega
    have f5 : (0 : Int) ≤ (i : Int) + 1 := by omega
    have f3 : i ≤ n := by omega
    have f4 : i + 1 ≤ n := by omega
    go_enter Try.func56, Try.ntmps56
    go_wp2_with fail
    go_region_law (refine Ro.step_app rfl _ _ 30 30 rfl (.slice (some ⟨g, off, none⟩) i c) (.slice (some ⟨g, off + (i + 1) * 4, none⟩) (n - (i + 1)) (c - (i + 1))) (by simp [Act.eval, Act.put]) (by simp [Act.eval, Act.put]) hr1 ?_)
    go_wp2_with fail
    go_ret
    exact hfin.out
/-- what a clone is -/
def CloneSaid (n : Nat) (bx : List ConV) (w : World) (e : Ending) (w' : World) : Prop := ∃ A' c', e = .returned (.slice A' n c') ∧ CRow w' A' n c' bx ∧ Below w.heap.size w w' ∧ ∀ b, Ro.blk A' = some b → w.heap.size ≤ b
set_option maxRecDepth 100000 in
set_option maxHeartbeats 4000000 in
theorem clone_c (A : Option Addr) (n c : Nat) (bx : List ConV) (w : World) (h : Mem.Sl w w.heap.size 4 A n (ConV.flat bx)) (hn : n ≤ 1000000) (hA : A = none → n = 0 ∧ c = 0) :
    Calls Try.prog 36 #[.slice A n c] w (CloneSaid n bx w) := by
  cases A with
  | none =>
    obtain ⟨rfl, rfl⟩ := hA rfl
    have hb : bx = [] := by
      have := h.1
      rw [ConV.flat_len] at this
      exact List.eq_nil_of_length_eq_zero (by omega)
    subst hb
    have hnil : ∀ w, (binOp .eql 30 (.slice none 0 0) (.slice none 0 0)).run Try.prog w = .ok (.bool true) w := fun w => by kernel_rfl
    go_enter Try.func36, Try.ntmps36
    go_wp2_with fail
    go_ret
    exact ⟨_, _, rfl, Ro.Row.nil, Below.refl _ _, fun b hb => by cases hb⟩
  | some ad =>
    have hnew : Ro.Row (w.alloc (.cells #[] 48)) 48 4 (some ⟨w.heap.size, 0, none⟩) 0 0 [] := Ro.Row.new (cs := #[]) rfl (by decide)
    obtain ⟨A', c', w', hr, hR, hO, hb⟩ := Ro.app (P := Try.prog) (ty := 30) (c2 := c) elc hnew (h.alloc (Nat.le_refl _) _) (ConV.flat_one bx) (by unfold maxLen; omega) (by omega)
    simp only [Nat.zero_add, List.nil_append] at hr hR
    have hfin : Hid (CloneSaid n bx w (.returned (.slice A' n c')) w') := by
      refine ⟨A', c', rfl, hR, ((Ro.Only.refl (fun _ => False) w).alloc _ |>.trans hO (T := fun b => Ro.blk (some ⟨w.heap.size, 0, none⟩) = some b) (fun k hk e => ?_)).below (Nat.le_refl _) (fun _ _ c => c), fun b hb2 => ?_⟩
      · have : w.heap.size = k := by simpa [Ro.blk] using e
        omega
      · rcases hb with hb | hb
        · rw [hb] at hb2
          have : w.heap.size = b := by simpa [Ro.blk] using hb2
          omega
        · rw [hb] at hb2
          have : (w.alloc (.cells #[] 48)).heap.size = b := by simpa using hb2
          simp at this
          omega
    clear h hnew hR hO hb hA
    have hnil : ∀ w, (binOp .eql 30 (.slice (some ad) n c) (.slice none 0 0)).run Try.prog w = .ok (.bool false) w := fun w => by kernel_rfl
    go_enter Try.func36, Try.ntmps36
    go_wp2_with (at_builtin; refine Ro.wpList_app rfl _ _ _ _ rfl _ _ rfl rfl hr ?_)
    go_ret
    exact hfin.out
end Wo
end Go.Proofs.Ythccojfflmfggaa
/- Words for bilge/api.Image: its parts; a slice of them; cells in memory. -/
namespace Go.Proofs.Ythccojfflmfggaa
open Go.RowKit
structure ImgV where
  name : ByteArray
  size : Int
  last : Int
namespace ImgV
/-- a number that an int holds -/
def I64 (n : Int) : Prop := -9223372036854775808 ≤ n ∧ n ≤ 9223372036854775807
def arr (p : ImgV) : Array Value := #[.string p.name, .int .i64 p.size, .int .i64 p.last]
def cells (p : ImgV) : List Value := [.string p.name, .int .i64 p.size, .int .i64 p.last]
theorem arr_cells (p : ImgV) : p.arr.toList = p.cells := rfl
/-- its numbers are ints, its texts are texts -/
structure ok (p : ImgV) : Prop where
  name : p.name.size ≤ maxLen
  size : I64 p.size
  last : I64 p.last
/-- their cells, one behind the other -/
def flat (ps : List ImgV) : List Value := (ps.map cells).flatten
theorem flat_app (ps qs : List ImgV) : flat (ps ++ qs) = flat ps ++ flat qs := by simp [flat]
theorem flat_cons (p : ImgV) (qs : List ImgV) : flat (p :: qs) = p.cells ++ flat qs := by simp [flat]
theorem flat_take (ps : List ImgV) (i : Nat) : (flat ps).take (i * 3) = flat (ps.take i) := by
  induction ps generalizing i with
  | nil => simp [flat]
  | cons p ps ih =>
    cases i with
    | zero => simp [flat]
    | succ i =>
      rw [flat_cons, List.take_succ_cons, flat_cons, ← ih i, List.take_append, List.take_of_length_le (show p.cells.length ≤ (i + 1) * 3 by simp [cells]; omega)]
      congr 2
      simp [cells]
      omega
theorem flat_drop (ps : List ImgV) (i : Nat) : (flat ps).drop (i * 3) = flat (ps.drop i) := by
  induction ps generalizing i with
  | nil => simp [flat]
  | cons p ps ih =>
    cases i with
    | zero => simp [flat]
    | succ i =>
      rw [flat_cons, List.drop_succ_cons, ← ih i, List.drop_append, List.drop_of_length_le (show p.cells.length ≤ (i + 1) * 3 by simp [cells]; omega)]
      simp only [List.nil_append]
      congr 1
      simp [cells]
      omega
theorem flat_len (ps : List ImgV) : (flat ps).length = ps.length * 3 := by
  unfold flat
  rw [Frame.flatten_len (size := 3) _ (by intro xs hx; obtain ⟨p, _, rfl⟩ := List.mem_map.1 hx; rfl)]
  simp
theorem flat_get (ps : List ImgV) (i j : Nat) (hi : i < ps.length) (hj : j < 3) : (flat ps)[i * 3 + j]? = (ps[i].cells)[j]? := by
  unfold flat
  exact Frame.flatten_get (size := 3) _ (by intro xs hx; obtain ⟨p, _, rfl⟩ := List.mem_map.1 hx; rfl) i j hj _ (by simp [hi])
theorem flat_one (ps : List ImgV) : ∀ u ∈ flat ps, u.oneCell' = true := by
  intro u hu
  unfold flat at hu
  obtain ⟨l, hl, hul⟩ := List.mem_flatten.1 hu
  obtain ⟨p, _, rfl⟩ := List.mem_map.1 hl
  simp only [cells, List.mem_cons, List.not_mem_nil, or_false] at hul
  rcases hul with rfl | rfl | rfl <;> rfl
/-- at an address lie the cells -/
structure At (w : World) (ad : Addr) (p : ImgV) : Prop where
  c0 : w.cell? ad = some (.string p.name)
  c1 : w.cell? { block := ad.block, off := ad.off + 1 } = some (.int .i64 p.size)
  c2 : w.cell? { block := ad.block, off := ad.off + 2 } = some (.int .i64 p.last)
theorem add_off (ad : Addr) (j : Nat) (h : j ≠ 0) : ad.add j = { block := ad.block, off := ad.off + j } := by unfold Addr.add; rw [if_neg h]
theorem at_ {w : World} {B n : Nat} {A : Option Addr} {ps : List ImgV} (h : Mem.Sl w B 3 A n (flat ps)) {k : Nat} (hk : k < n) :
    ∃ (ad : Addr) (hl : k < ps.length), A = some ad ∧ ad.block < B ∧ (ad.add (k * 3)).block < B ∧ At w (ad.add (k * 3)) ps[k] := by
  obtain ⟨ad, e, hb, hc⟩ := h.2 (by omega)
  have hn : ps.length * 3 = n * 3 := by rw [← flat_len]; exact h.1
  have hl : k < ps.length := by omega
  refine ⟨ad, hl, e, hb, by rw [Mem.add_block]; exact hb, ?_⟩
  have key : ∀ (j : Nat) (hj : j < 3), w.cell? ((ad.add (k * 3)).add j) = (ps[k].cells)[j]? := by
    intro j hj
    have hlt : k * 3 + j < (flat ps).length := by rw [flat_len]; omega
    rw [Mem.add_add, hc (k * 3 + j) hlt, ← flat_get ps k j hl hj]
    exact (List.getElem?_eq_getElem hlt).symm
  have k0 := key 0 (by decide)
  rw [show (ad.add (k * 3)).add 0 = ad.add (k * 3) from by simp [Addr.add]] at k0
  have kj : ∀ (j : Nat) (hj : j < 3) (h0 : j ≠ 0), w.cell? { block := (ad.add (k * 3)).block, off := (ad.add (k * 3)).off + j } = (ps[k].cells)[j]? := fun j hj h0 => by rw [← add_off _ _ h0]; exact key j hj
  exact ⟨k0, kj 1 (by decide) (by decide), kj 2 (by decide) (by decide)⟩
theorem At.below {w w' : World} {B : Nat} {ad : Addr} {p : ImgV} (h : At w ad p) (hb : Below B w w') (hg : ad.block < B) : At w' ad p :=
  ⟨(hb.cell (p := ad) hg).trans h.c0, (hb.cell (p := { block := ad.block, off := ad.off + 1 }) hg).trans h.c1, (hb.cell (p := { block := ad.block, off := ad.off + 2 }) hg).trans h.c2⟩
theorem At.drew {w : World} {ad : Addr} {p : ImgV} (h : At w ad p) : At w.drew ad p := ⟨h.c0, h.c1, h.c2⟩
/-- a block holds them -/
structure AtB (w : World) (g : Nat) (p : ImgV) : Prop where
  c0 : w.cell? ⟨g, 0, none⟩ = some (.string p.name)
  c1 : w.cell? ⟨g, 1, none⟩ = some (.int .i64 p.size)
  c2 : w.cell? ⟨g, 2, none⟩ = some (.int .i64 p.last)
theorem of_blk {w : World} {g : Nat} {t : TypeId} {p : ImgV} (h : Mem.Blk w g t p.arr) : AtB w g p :=
  ⟨h.cell 0, h.cell 1, h.cell 2⟩
theorem AtB.below {w w' : World} {g : Nat} {p : ImgV} (h : AtB w g p) (hb : Below w.heap.size w w') (hg : g < w.heap.size) : AtB w' g p :=
  ⟨(hb.cell (p := ⟨g, 0, none⟩) hg).trans h.c0, (hb.cell (p := ⟨g, 1, none⟩) hg).trans h.c1, (hb.cell (p := ⟨g, 2, none⟩) hg).trans h.c2⟩
theorem AtB.drew {w : World} {g : Nat} {p : ImgV} (h : AtB w g p) : AtB w.drew g p := ⟨h.c0, h.c1, h.c2⟩
end ImgV
end Go.Proofs.Ythccojfflmfggaa
