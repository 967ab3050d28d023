/- The frame of a law: whatever the arguments, if the walk shows that the call returns true and writes nothing that was there, the row holds. -/
import Derived.WalkKit
import Derived.ProofKit
import Derived.OpenShut
import Derived.ShutString
import Derived.ChangeOld
import Derived.Below
import Derived.Carry
import Derived.JoinedOf
import Derived.Test.YtnaidihoijociaaMem
import Derived.Deep.Slices
import Derived.ChangeArms
import Derived.DataReads
namespace Go.Proofs.Ytnaidihoijociaa
open Go.ChangeShapes Go.WideShapes Go.ChangeAt Go.RowKit
namespace Frame
/-- a value that came in, of a type -/
def Arg (P : Program) (W : World) (t : TypeId) (v : Value) : Prop :=
  ∃ (H : Type) (enc : TypeId × Value → H) (base : Nat) (d : DataW H) (p : List MemPlace), Value.okWide P W .any base t v ∧ DataW.Trod enc P W 0 (fun _ => true) true t v d p ∧ ∀ x ∈ p, x.block < W.heap.size
def Args (P : Program) (W : World) : List TypeId → List Value → Prop
  | [], [] => True
  | t :: ts, v :: vs => Arg P W t v ∧ Args P W ts vs
  | _, _ => False
def tame (P : Program) (t : TypeId) : Bool := P.readableRec t && decide (t < P.types.size)
section
variable {H : Type} {enc : TypeId × Value → H} {P : Program} {W W' : World}
theorem args_of {base : Nat} : ∀ {ts : List TypeId} {vs : List Value} {ds : List (DataW H)} {p : List MemPlace}
    (_ : ∀ (j : Nat) t v, ts[j]? = some t → vs[j]? = some v → Value.okWide P W .any base t v) (_ : DataW.TrodAll enc P W 0 (fun _ => true) true ts vs ds p)
    (_ : ∀ x ∈ p, x.block < W.heap.size), Args P W ts vs
  | [], [], [], _, _, _, _ => trivial
  | t :: ts, v :: vs, d :: ds, _, hv, ⟨p, q, hp, hq, e⟩, hlt => by
    subst e
    exact ⟨⟨H, enc, base, d, p, hv 0 t v rfl rfl, hp, fun x hx => hlt x (by simp [hx])⟩, args_of (fun j t v h1 h2 => hv (j + 1) t v h1 h2) hq (fun x hx => hlt x (by simp [hx]))⟩
theorem below_all (hl : laidOutB P = true) (hb : Below W.heap.size W W') : ∀ {ts : List TypeId} {vs : List Value} {ds : List (DataW H)} {p : List MemPlace}
    (_ : ts.all (tame P) = true) (_ : DataW.TrodAll enc P W 0 (fun _ => true) true ts vs ds p) (_ : ∀ x ∈ p, x.block < W.heap.size),
    DataW.TrodAll enc P W' 0 (fun b => decide (b < W.heap.size)) true ts vs ds p
  | [], [], [], _, _, h, _ => h
  | t :: ts, v :: vs, d :: ds, _, ht, ⟨p, q, hp, hq, e⟩, hlt => by
    subst e
    simp only [List.all_cons, Bool.and_eq_true] at ht
    obtain ⟨h1, h2⟩ := ht
    simp only [tame, Bool.and_eq_true, decide_eq_true_eq] at h1
    exact ⟨p, q, Below.trod hl h1.1 h1.2 hp hb (fun x hx => hlt x (by simp [hx])), below_all hl hb h2 hq (fun x hx => hlt x (by simp [hx])), rfl⟩
theorem lt_all : ∀ {ts : List TypeId} {vs : List Value} {ds : List (DataW H)} {p : List MemPlace} {sp : Nat → Bool}
    (_ : DataW.TrodAll enc P W 0 sp true ts vs ds p), ∀ x ∈ p, x.block < W.heap.size
  | [], [], [], _, _, h => by rw [show _ = [] from h]; simp
  | t :: ts, v :: vs, d :: ds, _, _, ⟨p, q, ⟨m, hm⟩, hq, e⟩ => by
    subst e
    intro x hx
    rcases List.mem_append.1 hx with h | h
    · exact DataW.trod_lt m _ _ _ hm x h
    · exact lt_all hq x h
theorem len_all : ∀ {ts : List TypeId} {vs : List Value} {ds : List (DataW H)} {p : List MemPlace} {sp : Nat → Bool}
    (_ : DataW.TrodAll enc P W 0 sp true ts vs ds p), ds.length = ts.length ∧ vs.length = ts.length
  | [], [], [], _, _, _ => ⟨rfl, rfl⟩
  | t :: ts, v :: vs, d :: ds, _, _, ⟨p, q, _, hq, e⟩ => by have := len_all hq; simp [this]
theorem close {C : Checked} {f : FuncId} {fn : Func} {s : ChangeSpec} {base : Nat} {args : Array Value} {ds gs : List (DataW H)} {before : List MemPlace} {tb : TypeId}
    (hvars : s.vars = []) (hl : laidOutB C.prog = true) (ht : fn.params.toList.all (tame C.prog) = true) (hb : fn.resultTypes = #[tb]) (hub : C.prog.underlying tb = some .bool)
    (hs : ∀ (ds : List (DataW H)), ds.length = fn.params.size → (s.fn H ds).results = [.lit (.bool true)] ∧ (s.fn H ds).args = ds ∧ (s.fn H ds).vars = [])
    (hval : ∀ (j : Nat) t v, fn.params[j]? = some t → args[j]? = some v → Value.okWide C.prog W .any base t v)
    (hW : DataW.Whole enc C.prog fn.params.toList s.vars false W args.toList ds gs before)
    (walk : Args C.prog W fn.params.toList args.toList → args.size = fn.params.size → Calls C.prog f args W fun e W' => e = .returned (.bool true) ∧ Below W.heap.size W W') :
    Calls C.prog f args W fun e W' => ∃ v, e = .returned v ∧ s.post enc C.prog fn false true false false W args v W' := by
  have hW' := hW
  obtain ⟨p, q, hA, hV, e, hfz, _⟩ := hW
  rw [hvars] at hV
  obtain ⟨rfl, rfl⟩ := trodVars_none hV
  have hlt := lt_all hA
  obtain ⟨hlen, hlen2⟩ := len_all hA
  have hds : ds.length = fn.params.size := by simpa using hlen
  obtain ⟨hs1, hs2, hs3⟩ := hs ds hds
  refine (walk (args_of (base := base) (by simpa using hval) hA hlt) (by simpa using hlen2)).mono fun e' W' ⟨he, bel⟩ => ?_
  subst he
  refine ⟨_, rfl, ds, [], before, [], p, [], hW', ?_, ?_, ?_, bel.frame _, fun h => by cases h⟩
  · rw [List.append_nil, hs1, hb]
    exact trodAll_mk1 (shut_bool hub _)
  · rw [List.append_nil, hs2]
    exact below_all hl bel ht hA hlt
  · rw [List.append_nil, hs3, hvars]
    rfl
end
/-! ### cells that read as data, whatever the type -/
/-- cells that read as something of a type -/
def Dat (P : Program) (W : World) (t : TypeId) (cs : List Value) : Prop :=
  ∃ (H : Type) (enc : TypeId × Value → H) (n : Nat) (x : DataW H × List MemPlace), DataW.trod enc P W 0 (fun _ => true) true n t cs = some x
theorem flatten_len {α : Type} {size : Nat} : ∀ (xss : List (List α)) (_ : ∀ xs ∈ xss, xs.length = size), xss.flatten.length = xss.length * size
  | [], _ => by simp
  | xs :: xss, h => by
    rw [List.flatten_cons, List.length_append, flatten_len xss (fun y hy => h y (by simp [hy])), h xs (by simp), List.length_cons, Nat.add_mul]; omega
theorem flatten_get {α : Type} {size : Nat} : ∀ (xss : List (List α)) (_ : ∀ xs ∈ xss, xs.length = size) (i j : Nat) (_ : j < size) (xs : List α) (_ : xss[i]? = some xs), xss.flatten[i * size + j]? = xs[j]?
  | [], _, i, j, _, xs, hx => by simp at hx
  | ys :: xss, h, 0, j, hj, xs, hx => by
    simp at hx; subst hx
    have hl : ys.length = size := h ys (by simp)
    rw [List.flatten_cons, Nat.zero_mul, Nat.zero_add, List.getElem?_append_left (by omega)]
  | ys :: xss, h, i + 1, j, hj, xs, hx => by
    have hl : ys.length = size := h ys (by simp)
    rw [List.flatten_cons, List.getElem?_append_right (by rw [hl, Nat.add_mul]; omega), hl]
    have e : (i + 1) * size + j - size = i * size + j := by rw [Nat.add_mul]; omega
    rw [e]
    exact flatten_get xss (fun y hy => h y (by simp [hy])) i j hj xs (by simpa using hx)
section
variable {P : Program} {W : World} {t e : TypeId} {cs : List Value} {k : IntKind}
theorem Dat.bool (h : Dat P W t cs) (ht : P.underlying t = some .bool) : ∃ b : Bool, cs = [.bool b] := by
  obtain ⟨H, enc, n, x, h⟩ := h
  obtain ⟨b, rfl, _⟩ := DataW.trod_bool ht h
  exact ⟨b, rfl⟩
theorem Dat.int (h : Dat P W t cs) (ht : P.underlying t = some (.int k)) : ∃ n : Int, cs = [.int k n] ∧ (Lit.int k n).wf = true := by
  obtain ⟨H, enc, n, x, h⟩ := h
  obtain ⟨b, rfl, _, hw⟩ := DataW.trod_int ht h
  exact ⟨b, rfl, hw⟩
theorem Dat.string (h : Dat P W t cs) (ht : P.underlying t = some .string) : ∃ s : ByteArray, cs = [.string s] ∧ s.size ≤ maxLen := by
  obtain ⟨H, enc, n, x, h⟩ := h
  obtain ⟨b, rfl, _, hw⟩ := DataW.trod_string ht h
  exact ⟨b, rfl, hw⟩
theorem Dat.struct {fs : Array Field} (h : Dat P W t cs) (ht : P.underlying t = some (.struct fs)) :
    cs.length = P.cellsOf t ∧ ∀ (i : Nat) (f : Field), fs[i]? = some f → Dat P W f.type ((cs.drop f.offset).take (P.cellsOf f.type)) := by
  obtain ⟨H, enc, n, x, h⟩ := h
  obtain ⟨xs, m, _, _, hl, hx, hf⟩ := DataW.trod_struct ht h
  refine ⟨hl, fun i f hi => ?_⟩
  have hlt : i < xs.length := by rw [hx]; exact (Array.getElem?_eq_some_iff.1 hi).1
  exact ⟨H, enc, m, xs[i], (hf i f hi).trans (List.getElem?_eq_getElem hlt)⟩
theorem Dat.array {m : Nat} (h : Dat P W t cs) (ht : P.underlying t = some (.array m e)) :
    cs.length = P.cellsOf t ∧ ∀ i, i < m → Dat P W e ((cs.drop (i * P.cellsOf e)).take (P.cellsOf e)) := by
  obtain ⟨H, enc, n, x, h⟩ := h
  obtain ⟨xs, m', _, _, hl, hx, hf⟩ := DataW.trod_array ht h
  refine ⟨hl, fun i hi => ?_⟩
  exact ⟨H, enc, m', xs[i]'(by omega), (hf i hi).trans (List.getElem?_eq_getElem (by omega))⟩
theorem Dat.slice {size : Nat} (h : Dat P W t cs) (ht : P.underlying t = some (.slice e)) (hc : P.cellsOf e = size) (hpos : 0 < size) :
    ∃ (A : Option Addr) (n c : Nat) (xss : List (List Value)), cs = [.slice A n c] ∧ n ≤ c ∧ c ≤ maxLen ∧ xss.length = n ∧ (∀ xs ∈ xss, xs.length = size ∧ Dat P W e xs) ∧
      Mem.Sl W W.heap.size size A n xss.flatten ∧ (A = none → n = 0 ∧ c = 0) := by
  obtain ⟨H, enc, n, x, h⟩ := h
  rcases Go.Deep.open_slice ht h with ⟨rfl, _⟩ | ⟨a, len, cap, m, n', D, Pl, rfl, hb, hl, hm, hmm, _, hx⟩
  · exact ⟨none, 0, 0, [], rfl, by simp, by simp, rfl, by simp, Mem.Sl.nil, fun _ => ⟨rfl, rfl⟩⟩
  · simp only [if_true] at hmm
    subst hmm
    obtain ⟨F, hF⟩ := Go.Deep.choose_lt (α := List Value) (p := fun i xs => W.cells? 0 (a.add (i * P.cellsOf e)) (P.cellsOf e) = some xs ∧ DataW.trod enc P W 0 (fun _ => true) true n' e xs = some (D i, Pl i)) (n := m) (fun i hi => hx i hi)
    have hlen : ∀ xs ∈ (List.range len).map F, xs.length = size := by
      intro xs hxs
      obtain ⟨i, hi, rfl⟩ := List.mem_map.1 hxs
      have := (World.cells?_some (hF i (by have := List.mem_range.1 hi; omega)).1).2.1
      omega
    refine ⟨some a, len, m, (List.range len).map F, rfl, hl, hm, by simp, fun xs hxs => ?_, ⟨by rw [flatten_len _ hlen]; simp, fun hn => ⟨a, rfl, ?_, fun j hj => ?_⟩⟩, by simp⟩
    · refine ⟨hlen xs hxs, ?_⟩
      obtain ⟨i, hi, rfl⟩ := List.mem_map.1 hxs
      exact ⟨H, enc, n', _, (hF i (by have := List.mem_range.1 hi; omega)).2⟩
    · obtain ⟨_, h2, h3⟩ := World.cells?_some (hF 0 (by omega)).1
      have h4 := h3 0 (by omega)
      rw [List.getElem?_eq_getElem (by omega)] at h4
      rcases Nat.lt_or_ge a.block W.heap.size with hb | hb
      · exact hb
      · have hno : W.heap[((a.add (0 * P.cellsOf e)).add 0).block]? = none := by rw [Mem.add_block, Mem.add_block]; exact Array.getElem?_eq_none hb
        unfold World.cell? at h4
        rw [hno] at h4
        cases h4
    · have hfl := flatten_len _ hlen
      rw [hfl] at hj
      simp only [List.length_map, List.length_range] at hj
      have hi : j / size < len := (Nat.div_lt_iff_lt_mul hpos).2 hj
      have hjj : j / size * size + j % size = j := by rw [Nat.mul_comm]; exact Nat.div_add_mod j size
      have hmod : j % size < size := Nat.mod_lt _ hpos
      have hg := flatten_get _ hlen (j / size) (j % size) hmod (F (j / size)) (by simp [hi])
      rw [hjj] at hg
      obtain ⟨_, h2, h3⟩ := World.cells?_some (hF (j / size) (by omega)).1
      have h4 := h3 (j % size) (by omega)
      rw [Mem.add_add, hc, hjj, ← hg] at h4
      rw [h4]
      exact List.getElem?_eq_getElem (by rw [hfl]; simpa using hj)
end
theorem Arg.dat {P : Program} {W : World} {t : TypeId} {v : Value} (h : Arg P W t v) : Dat P W t v.cells.toList := by
  obtain ⟨H, enc, base, d, p, hv, ⟨n, hd⟩, _⟩ := h
  exact ⟨H, enc, n, _, hd⟩
theorem Arg.agg {P : Program} {W : World} {t : TypeId} {v : Value} {fs : Array Field} (h : Arg P W t v) (ht : P.underlying t = some (.struct fs)) : ∃ cs : Array Value, v = .agg cs := by
  obtain ⟨H, enc, base, d, p, hv, hd, _⟩ := h
  obtain ⟨cs, rfl, _⟩ := okWide_struct ht hv
  exact ⟨cs, rfl⟩
theorem Arg.one {P : Program} {W : World} {t e : TypeId} {v : Value} (h : Arg P W t v) (ht : P.underlying t = some (.slice e)) : ∃ A n c, v = .slice A n c := by
  obtain ⟨H, enc, base, d, p, hv, hd, _⟩ := h
  exact okWide_slice ht hv
/-! ### what an argument is, by its type -/
section
variable {P : Program} {W : World} {t e : TypeId} {v : Value} {k : IntKind}
theorem Arg.int (h : Arg P W t v) (ht : P.underlying t = some (.int k)) : ∃ n : Int, v = .int k n ∧ (Lit.int k n).wf = true := by
  obtain ⟨H, enc, base, d, p, hv, hd, _⟩ := h
  obtain ⟨x, rfl, _, _, wx⟩ := open_int ht hv hd
  exact ⟨x, rfl, wx⟩
theorem bd_i64 {n : Int} (h : (Lit.int .i64 n).wf = true) : -9223372036854775808 ≤ n ∧ n ≤ 9223372036854775807 := by
  simpa [Lit.wf, IntKind.min, IntKind.max, IntKind.signed, IntKind.bits] using h
theorem bd_u64 {n : Int} (h : (Lit.int .u64 n).wf = true) : 0 ≤ n ∧ n ≤ 18446744073709551615 := by
  simpa [Lit.wf, IntKind.min, IntKind.max, IntKind.signed, IntKind.bits] using h
theorem bd_i32 {n : Int} (h : (Lit.int .i32 n).wf = true) : -2147483648 ≤ n ∧ n ≤ 2147483647 := by
  simpa [Lit.wf, IntKind.min, IntKind.max, IntKind.signed, IntKind.bits] using h
theorem bd_u32 {n : Int} (h : (Lit.int .u32 n).wf = true) : 0 ≤ n ∧ n ≤ 4294967295 := by
  simpa [Lit.wf, IntKind.min, IntKind.max, IntKind.signed, IntKind.bits] using h
theorem bd_u16 {n : Int} (h : (Lit.int .u16 n).wf = true) : 0 ≤ n ∧ n ≤ 65535 := by
  simpa [Lit.wf, IntKind.min, IntKind.max, IntKind.signed, IntKind.bits] using h
theorem bd_u8 {n : Int} (h : (Lit.int .u8 n).wf = true) : 0 ≤ n ∧ n ≤ 255 := by
  simpa [Lit.wf, IntKind.min, IntKind.max, IntKind.signed, IntKind.bits] using h
theorem Arg.bool (h : Arg P W t v) (ht : P.underlying t = some .bool) : ∃ b : Bool, v = .bool b := by
  obtain ⟨H, enc, base, d, p, hv, hd, _⟩ := h
  obtain ⟨x, rfl, _, _⟩ := open_bool ht hv hd
  exact ⟨x, rfl⟩
theorem Arg.ints (h : Arg P W t v) (ht : P.underlying t = some (.slice e)) (he : P.underlying e = some (.int k)) (hc : P.cellsOf e = 1) :
    ∃ (A : Option Addr) (n c : Nat) (zs : List Int), v = .slice A n c ∧ n ≤ c ∧ c ≤ maxLen ∧ Mem.Ints W W.heap.size k A n zs ∧ ∀ z ∈ zs, (Lit.int k z).wf = true := by
  obtain ⟨H, enc, base, d, p, hv, hd, hlt⟩ := h
  obtain ⟨A, n, c, rfl⟩ := okWide_slice ht hv
  obtain ⟨fuel, hf⟩ := hd
  rcases open_ints ht he hc hf with ⟨hcs, _⟩ | ⟨x, l, c', zs, hcs, _, hl, hm, hz, hx, hcell, hwz⟩
  · simp [Value.cells] at hcs
    obtain ⟨rfl, rfl, rfl⟩ := hcs
    exact ⟨none, 0, 0, [], rfl, by simp, by simp, Mem.Ints.nil, by simp⟩
  · simp [Value.cells] at hcs
    obtain ⟨rfl, rfl, rfl⟩ := hcs
    have hzl : zs.length = c := by simpa using hz
    refine ⟨_, n, c, zs.take n, rfl, hl, hm, ⟨by simp; omega, fun hn => ⟨x, rfl, ?_, fun j hj => ?_⟩⟩, fun z hz => hwz z (List.mem_of_mem_take hz)⟩
    · have h0 := hcell 0 (by omega)
      rcases Nat.lt_or_ge x.block W.heap.size with hb | hb
      · exact hb
      · have : W.heap[(x.add 0).block]? = none := by rw [Mem.add_block]; exact Array.getElem?_eq_none hb
        simp [World.cell?, this] at h0
    · have hj2 : j < min n zs.length := by simpa [List.length_take] using hj
      have hjn : j < n ∧ j < zs.length := by omega
      rw [hcell j hjn.2]
      simp [List.getD_eq_getElem?_getD, List.getElem?_eq_getElem hjn.2]
theorem Arg.bools (h : Arg P W t v) (ht : P.underlying t = some (.slice e)) (he : P.underlying e = some .bool) (hc : P.cellsOf e = 1) :
    ∃ (A : Option Addr) (n c : Nat) (bs : List Bool), v = .slice A n c ∧ n ≤ c ∧ c ≤ maxLen ∧ bs.length = n ∧ Mem.Sl W W.heap.size 1 A n (bs.map Value.bool) := by
  obtain ⟨A, n, c, rfl⟩ := h.one ht
  obtain ⟨A', n', c', xss, hcs, h1, h2, h3, h4, h5, _⟩ := h.dat.slice ht hc (by omega)
  simp [Value.cells] at hcs
  obtain ⟨rfl, rfl, rfl⟩ := hcs
  have key : ∀ xss : List (List Value), (∀ xs ∈ xss, xs.length = 1 ∧ Dat P W e xs) → ∃ bs : List Bool, bs.length = xss.length ∧ xss.flatten = bs.map Value.bool := by
    intro xss
    induction xss with
    | nil => intro _; exact ⟨[], rfl, rfl⟩
    | cons xs xss ih =>
      intro hx
      obtain ⟨bs, hb1, hb2⟩ := ih (fun y hy => hx y (by simp [hy]))
      obtain ⟨b, rfl⟩ := (hx xs (by simp)).2.bool he
      exact ⟨b :: bs, by simp [hb1], by simp [hb2]⟩
  obtain ⟨bs, hb1, hb2⟩ := key xss h4
  exact ⟨A, n, c, bs, rfl, h1, h2, by omega, by rw [← hb2]; exact h5⟩
end
end Frame
end Go.Proofs.Ytnaidihoijociaa
