/- Layer 10 (disk): the order of names; the walks of names, read, open, new, sync. -/
import Derived.Test.YtnaidihoijociaaDkC
namespace Go.Proofs.Ytnaidihoijociaa
open Go.RowKit Go.Maps
namespace Dk
open Bs
open Crc (Byte)
theorem before_lt : ∀ {a b : Key}, bytesBefore a b = true → a < b
  | [], [], h => by simp [bytesBefore] at h
  | [], _ :: _, _ => List.nil_lt_cons _ _
  | _ :: _, [], h => by simp [bytesBefore] at h
  | x :: r, y :: s, h => by
    simp only [bytesBefore, Bool.or_eq_true, Bool.and_eq_true, decide_eq_true_eq, beq_iff_eq] at h
    rw [List.cons_lt_cons_iff]
    rcases h with h | ⟨h1, h2⟩
    · exact .inl h
    · exact .inr ⟨h1, before_lt h2⟩
theorem before_le {a b : Key} (h : bytesBefore a b = true) : leB a b = true := by
  simp only [leB, decide_eq_true_eq]
  exact List.le_of_lt (before_lt h)
/-- files rise by their names -/
def Rise {α : Type} (l : List (Key × α)) : Prop := l.Pairwise fun p q => bytesBefore p.1 q.1 = true
theorem Mp.rise {w : World} {C : Nat → Prop} {b : Nat} {l : Files} (h : Mp w C b l) : Rise l := by
  obtain ⟨es, rfl, _, es0, clock, _, F, _, hD⟩ := h
  have hp := sorted_sorted (H := Value) law.one _ (fit_keys F) (fit_apart law F)
  have he : es.map (fun e => (Lit.string e.key, DataW.held e.val)) = (es0.toList.map (Go.WideElems.rg Try.prog 9 rdr)).foldr DataW.insert [] := by
    have := hD
    unfold dat at this
    simpa using this
  rw [← he, List.pairwise_map] at hp
  unfold Rise fls
  rw [List.pairwise_map]
  exact hp
theorem keys_dat (es : List Ent) : strKeys (dat es) = (fls es).map (·.1) := by
  show (es.map fun e => (Lit.string e.key, DataW.held e.val)).map (fun p : Lit × DataW Value => strOf p.1) = (es.map fun e => (e.key, e.bs)).map _
  rw [List.map_map, List.map_map]
  rfl
theorem sort_self {l : Files} (h : Rise l) : (l.map (·.1)).mergeSort (fun x y => decide (x ≤ y)) = l.map (·.1) := by
  refine List.mergeSort_of_pairwise ?_
  rw [List.pairwise_map]
  exact h.imp fun hpq => before_le hpq
abbrev NRow (w : World) (A : Option Addr) (n c : Nat) (ks : List Key) : Prop := Ro.Row w 9 1 A n c (ks.map Go.Proofs.encStr)
theorem row_of_own {w : World} {B : Nat} {e : TypeId} {v : Value} {n : Nat} {xs : List Value} (h : w.ownsRow B e 1 v n xs) : ∃ A c, v = .slice A n c ∧ Ro.Row w e 1 A n c xs ∧ ∀ k, Ro.blk A = some k → B ≤ k := by
  obtain ⟨h1, ⟨rfl, rfl⟩ | ⟨g, cap, cur, rfl, hb, hg, hn, hm, hc, hx⟩⟩ := h
  · exact ⟨none, 0, rfl, ⟨h1, Nat.le_refl _, by unfold maxLen; omega, .inl ⟨rfl, rfl⟩⟩, fun k hk => by cases hk⟩
  · refine ⟨_, _, rfl, ⟨h1, hn, hm, .inr ⟨g, 0, cur, rfl, hg, by omega, by rw [List.drop_zero]; exact hx⟩⟩, fun k hk => ?_⟩
    have : g = k := by simpa [Ro.blk] using hk
    omega
/-- a new slice of these names -/
def NamesSaid (w : World) (ks : List Key) (e : Ending) (w' : World) : Prop := ∃ A c, e = .returned (.slice A ks.length c) ∧ NRow w' A ks.length c ks ∧ Below w.heap.size w w' ∧ ∀ k, Ro.blk A = some k → w.heap.size ≤ k
set_option maxRecDepth 100000 in
theorem names_c {w : World} {g : Nat} {s : Ds} {M C : Nat → Prop} (h : At w g s M C) (hs : Good s) :
    Calls Try.prog 17 #[.pointer (some ⟨g, 0, none⟩)] w (NamesSaid w ((look s).map (·.1))) := by
  have HL := Lib.hid (look_c h hs)
  have hlen : (look s).length ≤ 2000 := by have := len_fold s.fs s.op; have := hs.no; have := hs.nf; unfold look; omega
  clear h hs
  go_enter Try.func17, Try.ntmps17
  go_wp2_with fail
  refine HL.out.mono ?_
  rintro e w1 ⟨rfl, hm, hb1⟩
  have hrise := hm.rise
  obtain ⟨es, hes, -, hown⟩ := hm
  have hlen2 : es.length ≤ 2000 := by rw [← hes] at hlen; simpa [fls] using hlen
  have HB1 := Lib.hid hb1
  have HE := Lib.hid hes
  have HR := Lib.hid hrise
  have HS := Lib.hid (Try.sorted_c w.heap.size es.length (dat es) rdr w1 hown (by rw [size_dat]; unfold maxLen; omega) (by rw [size_dat]; omega))
  clear hb1 hes hrise hown HL
  go_wp2_with fail
  refine (Try.keys_c _ _).mono ?_
  rintro e w2 ⟨rfl, rfl⟩
  go_wp2_with fail
  refine HS.out.mono ?_
  rintro e w3 ⟨v, ss, rfl, hperm, hrow, hnil, hb3⟩
  have hst : ss.mergeSort (fun x y => decide (x ≤ y)) = (look s).map (·.1) := by
    rw [show ss.mergeSort (fun x y => decide (x ≤ y)) = ss.mergeSort leB from rfl, mergeSort_of_perm hperm, keys_dat, HE.out]
    exact sort_self HR.out
  have hsl : ss.length = ((look s).map (·.1)).length := by
    rw [← hst]
    exact (List.length_mergeSort ss).symm
  rw [hst, hsl] at hrow
  obtain ⟨A, c, rfl, hr, hf⟩ := row_of_own hrow
  have HF : Hid (NamesSaid w ((look s).map (·.1)) (.returned (.slice A ((look s).map (·.1)).length c)) w3) := Lib.hid ⟨A, c, rfl, hr, (HB1.out.alloc HB1.out.size _).trans (hb3.mono (show w.heap.size ≤ (w1.alloc (.cells #[.map (some w.heap.size)] 72)).heap.size from by have := HB1.out.size; simp; omega)), fun k hk => by
    have h1 : (w1.alloc (.cells #[.map (some w.heap.size)] 72)).heap.size ≤ k := hf k hk
    have := HB1.out.size
    simp at h1
    omega⟩
  have hlm : ((look s).map (·.1)).length = (look s).length := List.length_map ..
  rw [hlm] at HF
  clear hperm hrow hnil hb3 hst hsl hr hf HS HB1 HE HR
  go_wp2_with fail
  go_ret
  exact HF.out
theorem fb_app {l : Files} {o : OpA} {N : Nat} (h : ∀ p ∈ l, p.2.length ≤ N) (ho : o.bytes.length ≤ N) : ∀ p ∈ app1 l o, p.2.length ≤ N := by
  have hdel : ∀ k, ∀ p ∈ fdel l k, p.2.length ≤ N := fun k p hp => h p (List.mem_filter.1 hp).1
  have hins : ∀ (l : Files) k x, (∀ p ∈ l, p.2.length ≤ N) → x.length ≤ N → ∀ p ∈ ins k x l, p.2.length ≤ N := by
    intro l k x hl hx
    induction l with
    | nil => intro p hp; simp [ins] at hp; subst hp; exact hx
    | cons y r ih =>
      intro p hp
      unfold ins at hp
      split at hp
      · rcases List.mem_cons.1 hp with rfl | hp
        · exact hx
        · exact hl p hp
      · rcases List.mem_cons.1 hp with rfl | hp
        · exact hl _ (by simp)
        · exact ih (fun p hp => hl p (by simp [hp])) p hp
  unfold app1
  split
  · exact hins _ _ _ (hdel _) ho
  split
  · exact hdel _
  split
  · split
    · rename_i b hb
      refine hins _ _ _ (fun p hp => hdel _ p (List.mem_filter.1 hp).1) ?_
      unfold fget at hb
      obtain ⟨p, hp, rfl⟩ := Option.map_eq_some_iff.1 hb
      exact h p (List.mem_of_find?_eq_some hp)
    · exact h
  · exact h
theorem fb_fold {N : Nat} (os : List OpA) : ∀ {l : Files}, (∀ p ∈ l, p.2.length ≤ N) → (∀ o ∈ os, o.bytes.length ≤ N) → ∀ p ∈ os.foldl app1 l, p.2.length ≤ N := by
  induction os with
  | nil => exact fun h _ => h
  | cons o os ih => exact fun h ho => ih (fb_app h (ho o (by simp))) (fun o' h' => ho o' (by simp [h']))
theorem Good.look {s : Ds} (h : Good s) : ∀ p ∈ look s, p.2.length ≤ 100000 := fb_fold s.op h.fb (fun o ho => (h.ok o ho).2.2)
theorem get_fb {l : Files} {N : Nat} (h : ∀ p ∈ l, p.2.length ≤ N) {k : Key} {b : List Byte} (hb : fget l k = some b) : b.length ≤ N := by
  unfold fget at hb
  obtain ⟨p, hp, rfl⟩ := Option.map_eq_some_iff.1 hb
  exact h p (List.mem_of_find?_eq_some hp)
/-- what a read answers -/
def ReadSaid (w : World) (o : Option (List Byte)) (e : Ending) (w' : World) : Prop := Below w.heap.size w w' ∧ match o with
  | none => e = .returned (.tuple #[.slice none 0 0, .int .i64 4])
  | some bs => ∃ A c, e = .returned (.tuple #[.slice A bs.length c, .int .i64 0]) ∧ BRow w' A bs.length c bs ∧ ∀ k, Ro.blk A = some k → w.heap.size ≤ k
set_option maxRecDepth 100000 in
theorem read_c {w : World} {g : Nat} {s : Ds} {M C : Nat → Prop} {name : ByteArray} (h : At w g s M C) (hs : Good s) (hn : name.size ≤ maxLen) :
    Calls Try.prog 18 #[.pointer (some ⟨g, 0, none⟩), .string name] w (ReadSaid w (fget (look s) (key name))) := by
  have HL := Lib.hid (look_c h hs)
  have HG := Lib.hid hs.look
  clear h hs
  go_enter Try.func18, Try.ntmps18
  go_wp2_with fail
  refine HL.out.mono ?_
  rintro e w1 ⟨rfl, hm, hb1⟩
  obtain ⟨A, n, c, hr, hh⟩ := hm.look hn
  have HB1 := Lib.hid hb1
  unfold key
  cases hg : fget (look s) name.data.toList with
  | none =>
    rw [hg] at hr
    have hr : (Instr.lookup 72 (.map (some w.heap.size)) (.string name) true).run Try.prog w1 = .ok (.tuple #[.slice A n c, .bool false]) w1 := hr
    have HGt : Hid (fget (look s) (key name) = none) := Lib.hid hg
    clear hm hb1 hh hg HL HG
    go_wp2_with (first | (at_lookup; refine wpList_look rfl rfl rfl rfl hr ?_))
    exact bodyPost_ret (v := .tuple #[.slice none 0 0, .int .i64 4]) (by simp [results, Try.results18, go_sem]) rfl (by show ReadSaid _ _ _ _; rw [HGt.out]; exact ⟨HB1.out, rfl⟩)
  | some bs =>
    rw [hg] at hr hh
    have hr : (Instr.lookup 72 (.map (some w.heap.size)) (.string name) true).run Try.prog w1 = .ok (.tuple #[.slice A n c, .bool true]) w1 := hr
    have hh : Hold w1 (LkC w C w1 w.heap.size) A n c bs := hh
    have hbs : bs.length ≤ 100000 := get_fb HG.out hg
    have hl := hh.len
    have HGs : Hid (fget (look s) (key name) = some bs) := Lib.hid hg
    have HC := Lib.hid (clone_c hh (by omega))
    clear hm hb1 hh hg HL HG
    go_wp2_with (first | (at_lookup; refine wpList_look rfl rfl rfl rfl hr ?_))
    refine HC.out.mono ?_
    rintro e w2 ⟨A', c', rfl, hR, hb2, hf⟩
    subst hl
    have HGt : Hid (fget (look s) (key name) = some bs) := HGs
    have HF : Hid (ReadSaid w (some bs) (.returned (.tuple #[.slice A' bs.length c', .int .i64 0])) w2) := Lib.hid ⟨HB1.out.trans (hb2.mono HB1.out.size), A', c', rfl, hR, fun k hk => by have := hf k hk; have := HB1.out.size; omega⟩
    clear hR hb2 hf HC HB1
    go_wp2_with fail
    exact bodyPost_ret (v := .tuple #[.slice A' bs.length c', .int .i64 0]) (by simp [results, Try.results18, go_sem]) rfl (by show ReadSaid _ _ _ _; rw [HGt.out]; exact HF.out)
theorem open_c {w : World} {g : Nat} {s : Ds} {M C : Nat → Prop} (h : At w g s M C) :
    Calls Try.prog 20 #[.pointer (some ⟨g, 0, none⟩)] w fun e w' => e = .returned (.int .i64 s.op.length) ∧ w' = w := by
  obtain ⟨b, AO, nO, cO, ps, h⟩ := h
  obtain ⟨-, hl2⟩ := h.len
  have m1 := h.blk.cell 1
  rw [hl2]
  clear h
  go_enter Try.func20, Try.ntmps20
  go_wp2_with fail
  go_ret
  exact ⟨rfl, rfl⟩
end Dk
end Go.Proofs.Ytnaidihoijociaa
