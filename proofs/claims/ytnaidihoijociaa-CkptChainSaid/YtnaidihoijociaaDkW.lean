/- Words of layer 10 (disk): files as a map's entries; what is done as a row; a disk in memory. -/
import Derived.Test.YtnaidihoijociaaOpV
import Derived.Test.YtnaidihoijociaaFlV
import Derived.Test.YtnaidihoijociaaRowP
import Derived.Test.YtnaidihoijociaaReg
import Derived.Maps.OwnSet
import Derived.Sort.KeysCollected
import Derived.StringKeys
namespace Go.Proofs.Ytnaidihoijociaa
open Go.RowKit Go.Maps
namespace Dk
open Bs
open Crc (Byte)
abbrev Key := List UInt8
theorem elb : Mem.El Try.prog 27 5 (.int .u8 0) 1 1 := ⟨Try.underlying27, by kernel_rfl, rfl, by decide⟩
def zO : Value := .agg #[.int .i64 0, .string ⟨#[]⟩, .string ⟨#[]⟩, .slice none 0 0]
theorem elo : Mem.El Try.prog 22 29 zO 4 64 := ⟨Try.underlying22, by kernel_rfl, rfl, by decide⟩
theorem law : Keyed Try.prog 9 := string_keyed Try.underlying9
theorem zeroS (w : World) : (zeroValue 27).run Try.prog w = .ok (.slice none 0 0) w := by kernel_rfl
/-- how an element reads: as itself -/
def rdr (v : Value) : Option (DataW Value × List MemPlace) := some (.held v, [])
abbrev BRow (w : World) (A : Option Addr) (n c : Nat) (bs : List Byte) : Prop := Ro.Row w 5 1 A n c (bs.map bv)
/-- a slice's value: its bytes lie in blocks of C -/
structure Hold (w : World) (C : Nat → Prop) (A : Option Addr) (n c : Nat) (bs : List Byte) : Prop where
  sl : Mem.Sl w w.heap.size 1 A n (bs.map bv)
  le : n ≤ c ∧ c ≤ maxLen
  nil : A = none → n = 0 ∧ c = 0
  inC : ∀ ad, A = some ad → 0 < n → C ad.block
section
variable {w w' : World} {C C' : Nat → Prop} {A : Option Addr} {n c : Nat} {bs : List Byte}
theorem Hold.len (h : Hold w C A n c bs) : bs.length = n := by have := h.sl.1; simpa using this
theorem Hold.keep (h : Hold w C A n c bs) (hz : w.heap.size ≤ w'.heap.size) (hk : ∀ k, k < w.heap.size → C k → w'.heap[k]? = w.heap[k]?) : Hold w' C A n c bs := by
  refine ⟨⟨h.sl.1, fun hn => ?_⟩, h.le, h.nil, h.inC⟩
  obtain ⟨ad, e, hb, hc⟩ := h.sl.2 hn
  refine ⟨ad, e, by omega, hc.keep fun p hp => ?_⟩
  have := hk ad.block hb (h.inC ad e hn)
  unfold World.cell?
  rw [hp, this]
theorem Hold.below (h : Hold w C A n c bs) (hb : Below w.heap.size w w') : Hold w' C A n c bs := h.keep hb.size fun k hk _ => hb.block k hk
theorem Hold.mono (h : Hold w C A n c bs) (hC : ∀ k, k < w.heap.size → C k → C' k) : Hold w C' A n c bs := by
  refine ⟨h.sl, h.le, h.nil, fun ad e hn => hC _ ?_ (h.inC ad e hn)⟩
  obtain ⟨ad', e', hb, _⟩ := h.sl.2 hn
  rw [e] at e'
  cases e'
  exact hb
theorem Hold.none (w : World) (C : Nat → Prop) : Hold w C none 0 0 [] := ⟨Mem.Sl.nil, ⟨by omega, by unfold maxLen; omega⟩, fun _ => ⟨rfl, rfl⟩, fun _ _ h => by omega⟩
theorem Hold.of_row (h : BRow w A n c bs) (hC : ∀ k, Ro.blk A = some k → C k) : Hold w C A n c bs := by
  refine ⟨h.sl, h.le, fun e => ?_, fun ad e _ => hC _ (by rw [e]; rfl)⟩
  obtain ⟨_, h2, _, ⟨_, h3⟩ | ⟨g, off, cur, e2, _⟩⟩ := h
  · omega
  · rw [e] at e2; cases e2
/-- a beginning of it -/
theorem Hold.cut (h : Hold w C A n c bs) {m : Nat} (hm : m ≤ n) : Hold w C A m c (bs.take m) := by
  have hl := h.len
  refine ⟨⟨by simp; omega, fun hn => ?_⟩, ⟨by have := h.le.1; omega, h.le.2⟩, fun e => ⟨by have := (h.nil e).1; omega, (h.nil e).2⟩, fun ad e hn => h.inC ad e (by omega)⟩
  obtain ⟨ad, e, hb, hc⟩ := h.sl.2 (by omega)
  refine ⟨ad, e, hb, fun j hj => ?_⟩
  have hj2 : j < bs.length := by simp at hj; omega
  have := hc j (by simpa using hj2)
  rw [this]
  simp [List.getElem_take]
end
/-! ### files -/
/-- an entry: its name, its slice, its bytes -/
structure Ent where
  key : Key
  A : Option Addr
  n : Nat
  c : Nat
  bs : List Byte
def Ent.val (e : Ent) : Value := .slice e.A e.n e.c
def dat (es : List Ent) : DataW Value := .map (es.map fun e => (Lit.string e.key, .held e.val))
abbrev Files := List (Key × List Byte)
def fls (es : List Ent) : Files := es.map fun e => (e.key, e.bs)
/-- block b is a map of these files; their bytes lie in blocks of C -/
def Mp (w : World) (C : Nat → Prop) (b : Nat) (l : Files) : Prop :=
  ∃ es : List Ent, fls es = l ∧ (∀ e ∈ es, Hold w C e.A e.n e.c e.bs) ∧ w.ownsMap Try.prog 9 rdr b es.length (dat es)
/-- put, by the map's own order -/
def ins {α : Type} (k : Key) (x : α) : List (Key × α) → List (Key × α)
  | [] => [(k, x)]
  | y :: r => if bytesBefore k y.1 then (k, x) :: y :: r else y :: ins k x r
def fdel {α : Type} (l : List (Key × α)) (k : Key) : List (Key × α) := l.filter fun p => !(p.1 == k)
def fput {α : Type} (l : List (Key × α)) (k : Key) (x : α) : List (Key × α) := ins k x (fdel l k)
def fget {α : Type} (l : List (Key × α)) (k : Key) : Option α := (l.find? fun p => p.1 == k).map (·.2)
section
variable {w w' : World} {C C' : Nat → Prop} {b : Nat} {l : Files} {k : Key}
theorem own_tight {P : Program} {K : TypeId} {R : Value → Option (DataW Value × List MemPlace)} {n : Nat} {D : DataW Value} (h : w.ownsMap P K R b n D) : w.ownsMap P K R b (Maps.size D) D := by
  obtain ⟨es, clock, hb, F, _, rfl⟩ := h
  exact ⟨es, clock, hb, F, by simp [Maps.size, length_sorted], rfl⟩
theorem Mp.lt (h : Mp w C b l) : b < w.heap.size := by obtain ⟨_, _, _, h⟩ := h; exact h.lt
theorem own_heap {P : Program} {K : TypeId} {R : Value → Option (DataW Value × List MemPlace)} {n : Nat} {D : DataW Value} (h : w.ownsMap P K R b n D) (hb : w'.heap[b]? = w.heap[b]?) : w'.ownsMap P K R b n D := by
  obtain ⟨es, clock, h1, F, h2, h3⟩ := h
  exact ⟨es, clock, hb.trans h1, F, h2, h3⟩
theorem Mp.keep (h : Mp w C b l) (hz : w.heap.size ≤ w'.heap.size) (hk : ∀ k, k < w.heap.size → C k → w'.heap[k]? = w.heap[k]?) (hb : w'.heap[b]? = w.heap[b]?) : Mp w' C b l := by
  obtain ⟨es, h1, h2, h3⟩ := h
  exact ⟨es, h1, fun e he => (h2 e he).keep hz hk, own_heap h3 hb⟩
theorem Mp.below (h : Mp w C b l) (hb : Below w.heap.size w w') : Mp w' C b l := h.keep hb.size (fun k hk _ => hb.block k hk) (hb.block b h.lt)
theorem Mp.mono (h : Mp w C b l) (hC : ∀ k, k < w.heap.size → C k → C' k) : Mp w C' b l := by
  obtain ⟨es, h1, h2, h3⟩ := h
  exact ⟨es, h1, fun e he => (h2 e he).mono hC, h3⟩
theorem same_str (a c : Key) : (Lit.string a).sameKey (Lit.string c) = (a == c) := rfl
theorem dat_del (es : List Ent) (k : Key) : (dat es).del (.string k) = dat (es.filter fun e => !(e.key == k)) := by
  show DataW.map _ = DataW.map _
  rw [List.filter_map]
  rfl
def insE (x : Ent) : List Ent → List Ent
  | [] => [x]
  | y :: r => if bytesBefore x.key y.key then x :: y :: r else y :: insE x r
theorem map_insE (x : Ent) (es : List Ent) : DataW.insert (Lit.string x.key, DataW.held x.val) (es.map fun e => (Lit.string e.key, DataW.held e.val)) = (insE x es).map fun e => (Lit.string e.key, .held e.val) := by
  induction es with
  | nil => rfl
  | cons y r ih =>
    simp only [List.map_cons, DataW.insert, insE]
    by_cases c : bytesBefore x.key y.key = true
    · have c' : (Lit.string x.key).before (Lit.string y.key) = true := c
      rw [if_pos c', if_pos c]; rfl
    · have c' : ¬ (Lit.string x.key).before (Lit.string y.key) = true := c
      rw [if_neg c', if_neg c, ih]; rfl
theorem fls_insE (x : Ent) (es : List Ent) : fls (insE x es) = ins x.key x.bs (fls es) := by
  induction es with
  | nil => rfl
  | cons y r ih =>
    simp only [insE, fls, List.map_cons, ins]
    by_cases c : bytesBefore x.key y.key = true
    · rw [if_pos c, if_pos c]; rfl
    · rw [if_neg c, if_neg c, List.map_cons]
      congr 1
theorem fls_filter (es : List Ent) (k : Key) : fls (es.filter fun e => !(e.key == k)) = fdel (fls es) k := by
  unfold fls fdel
  rw [List.filter_map]
  rfl
theorem dat_put (es : List Ent) (x : Ent) : (dat es).put (.string x.key) (.held x.val) = dat (insE x (es.filter fun e => !(e.key == x.key))) := by
  show DataW.map (DataW.insert _ (List.filter _ _)) = DataW.map _
  rw [List.filter_map, ← map_insE]
  rfl
theorem mem_insE {x e : Ent} {es : List Ent} (h : e ∈ insE x es) : e = x ∨ e ∈ es := by
  induction es with
  | nil => simp [insE] at h; exact .inl h
  | cons y r ih =>
    unfold insE at h
    split at h
    · simpa using h
    · rcases List.mem_cons.1 h with h | h
      · exact .inr (by simp [h])
      · exact (ih h).imp id fun h => by simp [h]
theorem len_insE (x : Ent) (es : List Ent) : (insE x es).length = es.length + 1 := by
  induction es with
  | nil => rfl
  | cons y r ih =>
    unfold insE
    split
    · rfl
    · simp [ih]
theorem size_dat (es : List Ent) : Maps.size (dat es) = es.length := by simp [dat, Maps.size]
theorem key_str {s : ByteArray} (hs : s.size ≤ maxLen) : keyOf Try.prog 9 (.string s) = some (.string s.data.toList) := Go.WideMaps.keyOf_string_mk Try.underlying9 hs
theorem turned_only (h : w.mapTurned w' b) : Ro.Only (fun k => k = b) w w' := by
  have := h.grown
  exact ⟨this.os, this.tape, this.output, this.size, fun k hk hn => this.block k hk (fun e => hn (by simpa using e))⟩
/-- a file is put -/
theorem Mp.put (h : Mp w C b l) (hC : ¬ C b) {s : ByteArray} (hs : s.size ≤ maxLen) {A : Option Addr} {n c : Nat} {bs : List Byte} (hh : Hold w C A n c bs) (hl : l.length ≤ 100000) :
    ∃ w', (Instr.mapUpdate 72 (.map (some b)) (.string s) (.slice A n c)).run Try.prog w = .ok () w' ∧ Mp w' C b (fput l s.data.toList bs) ∧ Ro.Only (fun k => k = b) w w' := by
  obtain ⟨es, rfl, h2, h3⟩ := h
  obtain ⟨w', hrun, hown, ht⟩ := h3.store law Try.underlying72 (by simp [fls] at hl; unfold maxLen; omega) (key_str hs) (val := .slice A n c) (d := .held (.slice A n c)) (ps := []) rfl
  have ho := turned_only ht
  refine ⟨w', hrun, ⟨insE ⟨s.data.toList, A, n, c, bs⟩ (es.filter fun e => !(e.key == s.data.toList)), ?_, fun e he => ?_, ?_⟩, ho⟩
  · rw [fls_insE, fls_filter]
    rfl
  · have hk : ∀ k, k < w.heap.size → C k → w'.heap[k]? = w.heap[k]? := fun k hk hc => ho.block k hk (fun e => hC (by rw [← e]; exact hc))
    rcases mem_insE he with rfl | he
    · exact hh.keep ho.size hk
    · exact (h2 e (List.mem_filter.1 he).1).keep ho.size hk
  · have := own_tight hown
    rw [show DataW.put (dat es) (.string s.data.toList) (.held (.slice A n c)) = _ from dat_put es ⟨s.data.toList, A, n, c, bs⟩, size_dat] at this
    exact this
/-- a file is struck -/
theorem Mp.del (h : Mp w C b l) (hC : ¬ C b) {s : ByteArray} (hs : s.size ≤ maxLen) (ty : TypeId) :
    ∃ w', (Builtin.delete_ #[72, 9] ty #[.map (some b), .string s]).run Try.prog w = .ok (.tuple #[]) w' ∧ Mp w' C b (fdel l s.data.toList) ∧ Ro.Only (fun k => k = b) w w' := by
  obtain ⟨es, rfl, h2, h3⟩ := h
  obtain ⟨w', hrun, hown, ht⟩ := h3.drop law Try.underlying72 (key_str hs) ty
  have ho := turned_only ht
  refine ⟨w', hrun, ⟨es.filter fun e => !(e.key == s.data.toList), fls_filter _ _, fun e he => ?_, ?_⟩, ho⟩
  · exact (h2 e (List.mem_filter.1 he).1).keep ho.size fun k hk hc => ho.block k hk (fun e => hC (by rw [← e]; exact hc))
  · have := own_tight hown
    rw [dat_del, size_dat] at this
    exact this
/-- a file is looked for -/
theorem Mp.look (h : Mp w C b l) {s : ByteArray} (hs : s.size ≤ maxLen) :
    ∃ A n c, (Instr.lookup 72 (.map (some b)) (.string s) true).run Try.prog w = .ok (.tuple #[.slice A n c, .bool (fget l s.data.toList).isSome]) w ∧ Hold w C A n c ((fget l s.data.toList).getD []) := by
  obtain ⟨es, rfl, h2, h3⟩ := h
  obtain ⟨v, ps, hrun, hv⟩ := h3.look_ok law Try.underlying72 (zeroS w) (zd := .held (.slice none 0 0)) (zp := []) rfl (key_str hs)
  have hkey : ∀ es : List Ent, (∃ e ∈ es, e.key = s.data.toList ∧ fget (fls es) s.data.toList = some e.bs ∧ (dat es).atKey (.string s.data.toList) (.held (.slice none 0 0)) = .held e.val ∧ Maps.has (dat es) (.string s.data.toList) = true) ∨
      (fget (fls es) s.data.toList = none ∧ (dat es).atKey (.string s.data.toList) (.held (.slice none 0 0)) = .held (.slice none 0 0) ∧ Maps.has (dat es) (.string s.data.toList) = false) := by
    intro es
    induction es with
    | nil => exact .inr ⟨rfl, rfl, rfl⟩
    | cons y r ih =>
      by_cases c : y.key = s.data.toList
      · have c2 : (y.key == s.data.toList) = true := by simpa using c
        refine .inl ⟨y, by simp, c, ?_, ?_, ?_⟩
        · unfold fget fls
          rw [List.map_cons, List.find?_cons_of_pos (by simpa using c)]
          rfl
        · unfold DataW.atKey dat
          dsimp only
          rw [List.map_cons, List.find?_cons_of_pos (by rw [same_str]; exact c2)]
        · unfold Maps.has dat
          dsimp only
          rw [List.map_cons, List.any_cons, same_str, c2]
          rfl
      · have c2 : (y.key == s.data.toList) = false := by simpa using c
        have e1 : fget (fls (y :: r)) s.data.toList = fget (fls r) s.data.toList := by
          unfold fget fls
          rw [List.map_cons, List.find?_cons_of_neg (by simpa using c)]
        have e2 : (dat (y :: r)).atKey (.string s.data.toList) (.held (.slice none 0 0)) = (dat r).atKey (.string s.data.toList) (.held (.slice none 0 0)) := by
          unfold DataW.atKey dat
          dsimp only
          rw [List.map_cons, List.find?_cons_of_neg (by rw [same_str, c2]; decide)]
        have e3 : Maps.has (dat (y :: r)) (.string s.data.toList) = Maps.has (dat r) (.string s.data.toList) := by
          unfold Maps.has dat
          dsimp only
          rw [List.map_cons, List.any_cons, same_str, c2]
          rfl
        rw [e1, e2, e3]
        rcases ih with ⟨e, he, h⟩ | h
        · exact .inl ⟨e, by simp [he], h⟩
        · exact .inr h
  have hveq : ∀ d, rdr v = some (.held d, ps) → v = d := fun d h => by
    simp only [rdr, Option.some.injEq, Prod.mk.injEq, DataW.held.injEq] at h
    exact h.1
  rcases hkey es with ⟨e, he, _, e1, e2, e3⟩ | ⟨e1, e2, e3⟩
  · rw [e2] at hv
    rw [e3, hveq _ hv] at hrun
    rw [e1]
    exact ⟨e.A, e.n, e.c, hrun, h2 e he⟩
  · rw [e2] at hv
    rw [e3, hveq _ hv] at hrun
    rw [e1]
    exact ⟨none, 0, 0, hrun, Hold.none w C⟩
end
end Dk
end Go.Proofs.Ytnaidihoijociaa
