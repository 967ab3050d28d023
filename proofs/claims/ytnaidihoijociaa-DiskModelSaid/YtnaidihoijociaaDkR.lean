/- The document's layer 10: files in a row; without, Find. -/
import Derived.Test.YtnaidihoijociaaDkQ
namespace Go.Proofs.Ytnaidihoijociaa
open Go.RowKit Go.Maps
namespace Dk
open Bs
open Crc (Byte)
def zF : Value := .agg #[.string ⟨#[]⟩, .slice none 0 0]
theorem elF : Mem.El Try.prog 44 88 zF 2 40 := ⟨Try.underlying44, by kernel_rfl, rfl, by decide⟩
/-- a row of the call's own, that came about since W -/
structure Bld (W w : World) (e : TypeId) (k : Nat) (A : Option Addr) (n c : Nat) (xs : List Value) : Prop where
  below : Below W.heap.size W w
  row : Ro.Row w e k A n c xs
  fresh : ∀ b, Ro.blk A = some b → W.heap.size ≤ b
section
variable {P : Program} {W w w' : World} {t e : TypeId} {z : Value} {k bytes n c : Nat} {A : Option Addr} {xs : List Value}
theorem Bld.nil (hb : Below W.heap.size W w) : Bld W w e k none 0 0 [] :=
  ⟨hb, Ro.Row.nil, fun b h => by cases h⟩
theorem Bld.free (h : Bld W w e k A n c xs) (hb : Below w.heap.size w w') : Bld W w' e k A n c xs :=
  ⟨h.below.trans (hb.mono h.below.size), h.row.keep fun b hk => hb.block b (h.row.lt hk), h.fresh⟩
theorem Bld.push (E : Mem.El P t e z k bytes) (h : Bld W w e k A n c xs) (cs : Array Value) (hk : cs.size = k) (h1 : ∀ u ∈ cs.toList, u.oneCell' = true) (hn : n ≤ 100000) (hb : bytes ≤ 1000) {N : Nat} (hN : w.heap.size = N) :
    ∃ A' c' w', (Builtin.append_ #[t, t] t #[.slice A n c, .slice (some ⟨N, 0, none⟩) 1 1]).run P (w.alloc (.cells cs e)) = .ok (.slice A' (n + 1) c') w' ∧ Bld W w' e k A' (n + 1) c' (xs ++ cs.toList) := by
  subst hN
  have hz := h.below.size
  have h0 : Below w.heap.size w (w.alloc (.cells cs e)) := (Below.refl _ _).alloc (Nat.le_refl _) _
  have hbb : (n + 1) * bytes ≤ 140737488355328 := by
    have : (n + 1) * bytes ≤ 100001 * 1000 := Nat.mul_le_mul (by omega) hb
    omega
  obtain ⟨A', c', w', hr, hR, hO, hA⟩ := Ro.app (P := P) (ty := t) (c2 := 1) E (h.row.keep fun b hb => h0.block b (h.row.lt hb)) (Mem.new_sl (w := w) (n := 1) (cs := cs) (e := e) rfl (by omega) rfl) h1 (by unfold maxLen; omega) hbb
  refine ⟨A', c', w', hr, ⟨(h.below.trans (h0.mono hz)).trans (hO.below (by simp; omega) (fun b hb e => by have := h.fresh b e; omega)), hR, fun b hb => ?_⟩⟩
  rcases hA with e | e
  · rw [e] at hb; exact h.fresh b hb
  · rw [e] at hb
    have : w.heap.size + 1 = b := by simpa using hb
    omega
end
theorem bytes_eq {a b : ByteArray} (h : a.toList = b.toList) : a = b := by
  rw [ByteArray.toList_eq, ByteArray.toList_eq] at h
  cases a; cases b
  simpa using h
/-- files, as values -/
def flF (p : FlV) : Key × List Byte := (key p.name, p.bytes)
def isF (s : ByteArray) (p : FlV) : Bool := p.name.toList == s.toList
def neF (s : ByteArray) (p : FlV) : Bool := !isF s p
theorem isF_key (s : ByteArray) (p : FlV) : isF s p = ((flF p).1 == key s) := by
  unfold isF flF key
  rw [ByteArray.toList_eq, ByteArray.toList_eq]
theorem flatF_snoc (l : List FlV) (p : FlV) : FlV.flat (l ++ [p]) = FlV.flat l ++ p.arr.toList := by
  rw [FlV.flat_app]
  simp [FlV.flat, FlV.arr_cells]
/-- a new row of files -/
def NewF (l : List FlV) (W : World) (e : Ending) (w' : World) : Prop := ∃ A c, e = .returned (.slice A l.length c) ∧ Bld W w' 88 2 A l.length c (FlV.flat l)
theorem filter_take {l : List FlV} {f : FlV → Bool} {k : Nat} (h : k < l.length) : (l.take (k + 1)).filter f = (l.take k).filter f ++ (if f l[k] then [l[k]] else []) := by
  rw [Mem.take_snoc _ _ h, List.filter_append]
  congr 1
  simp [List.filter_cons]
set_option maxRecDepth 100000 in
set_option maxHeartbeats 4000000 in
theorem without_c (A : Option Addr) (n c : Nat) (l : List FlV) (s : ByteArray) (w : World) (h : Mem.Sl w w.heap.size 2 A n (FlV.flat l)) (hlen : l.length = n) (hn : n ≤ 10000) :
    Calls Try.prog 59 #[.slice A n c, .string s] w (NewF (l.filter (neF s)) w) := by
  have Hl := Lib.hid hlen
  have H := Lib.hid h
  clear hlen h
  go_enter Try.func59, Try.ntmps59
  go_wp2_with fail
  go_loopw [5, 6] (fun vo vi wr => ∃ (k m : Nat) (A' : Option Addr) (c' : Nat), k ≤ n ∧ m ≤ k ∧ vi = .int .i64 k ∧ vo = .slice A' m c' ∧ Hid (m = ((l.take k).filter (neF s)).length) ∧ Hid (Bld w wr 88 2 A' m c' (FlV.flat ((l.take k).filter (neF s))))) (fun _ i _ => n - (intOf i).toNat)
  case atStart => exact ⟨0, 0, none, 0, by omega, by omega, rfl, rfl, by show _ = _; simp, Bld.nil (Below.refl _ _)⟩
  case round =>
    obtain ⟨k, m, A', c', hk, hm, rfl, rfl, HM, HB⟩ := hrel
    by_cases hlt : k < n
    · obtain ⟨ad, hl, rfl, hlb, hlb2, hat⟩ := FlV.at_ H.out hlt
      have hat2 := hat.below HB.out.below hlb2
      have HF := Lib.hid (filter_take (f := neF s) hl)
      have hb := HB.out
      generalize l[k] = p at *
      obtain ⟨c0, c1⟩ := hat2
      obtain ⟨t, bs, bA, bn, bc⟩ := p
      dsimp only at c0 c1
      clear hat hl hlb hlb2
      by_cases hts : t = s
      · have hx : (t.toList == s.toList) = true := by rw [hts]; simp
        have hf : neF s ⟨t, bs, bA, bn, bc⟩ = false := by unfold neF isF; rw [hx]; rfl
        rw [hf, if_neg (by decide), List.append_nil] at HF
        clear hts hf hb
        go_wp2_with fail
        go_roundw
        case rel => exact ⟨k + 1, m, A', c', by omega, by omega, by go_num, rfl, by show _ = _; rw [HF.out]; exact HM.out, by show Bld _ _ _ _ _ _ _ _; rw [HF.out]; exact HB.out⟩
        case measure => simp [intOf]; omega
      · have hx : (t.toList == s.toList) = false := beq_eq_false_iff_ne.2 (fun e => hts (bytes_eq e))
        have hf : neF s ⟨t, bs, bA, bn, bc⟩ = true := by unfold neF isF; rw [hx]; rfl
        rw [hf, if_pos rfl] at HF
        obtain ⟨A2, cc2, w2, hr, hb2⟩ := hb.push elF #[.string t, .slice bA bn bc] rfl (by simp [Value.oneCell']) (by omega) (by decide) rfl
        have HB2 := Lib.hid hb2
        clear hts hf hb hb2
        go_wp2_with (at_builtin; refine Ro.wpList_app rfl _ _ _ _ rfl _ _ rfl rfl hr ?_)
        go_roundw
        case rel => exact ⟨k + 1, m + 1, A2, cc2, by omega, by omega, by go_num, rfl, by show _ = _; rw [HF.out, List.length_append, ← HM.out]; rfl, by show Bld _ _ _ _ _ _ _ _; rw [HF.out, flatF_snoc]; exact HB2.out⟩
        case measure => simp [intOf]; omega
    · obtain rfl : k = n := by omega
      have he : Hid (l.take k = l) := by show _ = _; rw [List.take_of_length_le (by have := Hl.out; omega)]
      go_wp2_with fail
      go_ret
      have h1 := HM.out
      have h2 := HB.out
      rw [he.out] at h1 h2
      unfold NewF
      rw [← h1]
      exact ⟨A', c', rfl, h2⟩
/-- what is found: a place, or none -/
def FindSaid (l : List FlV) (s : ByteArray) (w : World) (e : Ending) (w' : World) : Prop := w' = w ∧ ((∃ (k : Nat) (h : k < l.length), e = .returned (.int .i64 k) ∧ isF s l[k] = true) ∨ (e = .returned (.int .i64 (-1)) ∧ ∀ p ∈ l, isF s p = false))
set_option maxRecDepth 100000 in
set_option maxHeartbeats 4000000 in
theorem find_c (A : Option Addr) (n c : Nat) (l : List FlV) (s : ByteArray) (w : World) (h : Mem.Sl w w.heap.size 2 A n (FlV.flat l)) (hlen : l.length = n) (hn : n ≤ 10000) :
    Calls Try.prog 58 #[.slice A n c, .string s] w (FindSaid l s w) := by
  have Hl := Lib.hid hlen
  have H := Lib.hid h
  clear hlen h
  go_enter Try.func58, Try.ntmps58
  go_wp2_with fail
  go_loop [5] (fun vi => ∃ k : Nat, k ≤ n ∧ vi = .int .i64 k ∧ Hid (∀ (j : Nat) (hj : j < l.length), j < k → isF s l[j] = false)) (fun i => n - (intOf i).toNat)
  case atStart => exact ⟨0, by omega, rfl, fun j hj c => absurd c (by omega)⟩
  case round =>
    obtain ⟨k, hk, rfl, HN⟩ := hrel
    by_cases hlt : k < n
    · obtain ⟨ad, hl, rfl, hlb, hlb2, hat⟩ := FlV.at_ H.out hlt
      obtain ⟨c0, c1⟩ := hat
      cases hx : isF s l[k] with
      | true =>
        have hY : Hid (∃ h : k < l.length, isF s l[k] = true) := Lib.hid ⟨hl, hx⟩
        unfold isF at hx
        generalize l[k] = p at *
        clear hl hlb hlb2 c1
        go_wp2_with fail
        go_ret
        obtain ⟨h1, h2⟩ := hY.out
        exact ⟨rfl, .inl ⟨k, h1, rfl, h2⟩⟩
      | false =>
        have hY : Hid (∀ (j : Nat) (hj : j < l.length), j < k + 1 → isF s l[j] = false) := Lib.hid fun j hj hjk => by
          rcases Nat.lt_succ_iff_lt_or_eq.1 hjk with h | h
          · exact HN.out j hj h
          · subst h; exact hx
        unfold isF at hx
        generalize l[k] = p at *
        clear hl hlb hlb2 c1
        go_wp2_with fail
        go_round
        case rel => exact ⟨k + 1, by omega, by go_num, hY⟩
        case measure => simp [intOf]; omega
    · obtain rfl : k = n := by omega
      have hall : Hid (∀ p ∈ l, isF s p = false) := Lib.hid fun p hp => by
        obtain ⟨j, hj, rfl⟩ := List.getElem_of_mem hp
        exact HN.out j hj (by have := Hl.out; omega)
      go_wp2_with fail
      go_ret
      exact ⟨rfl, .inr ⟨rfl, hall.out⟩⟩
end Dk
end Go.Proofs.Ytnaidihoijociaa
