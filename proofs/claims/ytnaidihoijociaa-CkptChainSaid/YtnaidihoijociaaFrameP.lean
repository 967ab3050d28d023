/- The walks of layer 9 (frame): frames put, and read; the reference's. -/
import Derived.Test.YtnaidihoijociaaFrameL
import Derived.Deep.RegionWith
import Derived.Deep.RegionHeld3
namespace Go.Proofs.Ytnaidihoijociaa
open Go.RowKit Bs
namespace Crc
theorem le4_vals (n : Int) (h0 : 0 ≤ n) (h1 : n ≤ 4294967295) : [Value.int .u8 (IntKind.u8.wrap n), .int .u8 (IntKind.u8.wrap (n / 256)), .int .u8 (IntKind.u8.wrap (n / 65536)), .int .u8 (IntKind.u8.wrap (n / 16777216))] = (le4 (w32 n)).map bv := by
  have e := n32_w32 h0 h1
  have k0 := b0 (w32 n)
  have k1 := bk (w32 n) 8
  have k2 := bk (w32 n) 16
  have k3 := bk (w32 n) 24
  have e1 : ((2 ^ 8 : Nat) : Int) = 256 := by decide
  have e2 : ((2 ^ 16 : Nat) : Int) = 65536 := by decide
  have e3 : ((2 ^ 24 : Nat) : Int) = 16777216 := by decide
  rw [e1] at k1; rw [e2] at k2; rw [e3] at k3
  rw [e] at k0 k1 k2 k3
  rw [k0, k1, k2, k3]
  rfl
theorem le4_rem (n : Int) (h0 : 0 ≤ n) (h1 : n ≤ 4294967295) : [Value.int .u8 (n % 256), .int .u8 (n / 256 % 256), .int .u8 (n / 65536 % 256), .int .u8 (n / 16777216 % 256)] = (le4 (w32 n)).map bv := by
  rw [← le4_vals n h0 h1]
  have hw : ∀ z : Int, IntKind.u8.wrap z = z % 256 := by
    intro z
    simp only [IntKind.wrap, IntKind.bits, IntKind.signed]
    simp only [Bool.false_eq_true, if_false, Bool.false_and]
    omega
  simp only [hw]
theorem le4_mix (n : Int) (h0 : 0 ≤ n) (h1 : n ≤ 4294967295) : [Value.int .u8 (n % 256), .int .u8 (n / 256 % 256), .int .u8 (n / 65536 % 256), .int .u8 (n / 16777216)] = (le4 (w32 n)).map bv := by
  rw [← le4_rem n h0 h1]
  have : n / 16777216 % 256 = n / 16777216 := by omega
  rw [this]
/-- append onto a full row that isn't the call's own: new memory -/
theorem wpList_grow {P : Program} {w : World} {ops : Array Oper} {rest : List Oper} {o : Oper} {a : Act} {Q : Exit → Act → World → Prop} {s x : Operand} {t e : TypeId} {z : Value} {bytes B B' n cap m c : Nat} {ad : Addr} {A' : Option Addr} {xs ys zs : List Byte} (hgd : o.guard = none)
    (ho : o.op = .call { callee := .builtin .append, args := #[s, x], argTypes := #[t, t] }) (E : Mem.El P t e z 1 bytes) (hby : bytes = 1)
    (hv : a.eval s = .slice (some ad) n cap) (hx : a.eval x = .slice A' m c) (h1 : Bs w B (some ad) n xs) (h2 : Bs w B' A' m ys) (hcap : cap < n + m) (h0 : 0 < m) (hn : n + m ≤ 140737488355328) (hzs : xs ++ ys = zs)
    (h : ∀ g c' w', w'.ownsRow w.heap.size e 1 (.slice (some ⟨g, 0, none⟩) (n + m) c') (n + m) (zs.map bv) → Below w.heap.size w w' → wpList P ops Q rest (a.put o.dst (.slice (some ⟨g, 0, none⟩) (n + m) c')) w') : wpList P ops Q (o :: rest) a w := by
  subst hzs
  obtain ⟨i, hi, hz, hz1, hz2⟩ := info_parts E.info
  obtain ⟨ad', rfl, _, hc2⟩ := h2.2 h0
  have hl1 : (xs.map bv).length = n * i.size := by rw [hz1]; exact h1.1
  have hl2 : (ys.map bv).length = m * i.size := by rw [hz1]; exact h2.1
  have hc1 : ∀ j v, (xs.map bv)[j]? = some v → w.cell? (ad.add j) = some v := by
    intro j v hj
    obtain ⟨hj', e1⟩ := List.getElem?_eq_some_iff.1 hj
    obtain ⟨ad0, e0, _, hc⟩ := h1.2 (by have := h1.len; simp at hj'; omega)
    cases e0
    rw [← e1]; exact hc j hj'
  have hns : Builtin.nextslicecap (n + m) cap * i.bytes ≤ 281474976710656 := by
    exact growslice_fits hcap (by rw [hz2, hby]; omega)
  have hr := run_append_grow (P := P) w t o.type e i z E.ty hi hz ad n cap (xs.map bv) hl1 hc1 ad' m c (ys.map bv) hl2 (fun j v hj => by obtain ⟨hj', e1⟩ := List.getElem?_eq_some_iff.1 hj; rw [← e1]; exact hc2 j hj') hcap (by omega) hns
  refine wpList_plain hgd fun _ hK => ?_
  unfold Oper.wp execOp
  simp only [ho, resolve, invoke, builtin, Sem.run_bind, Sem.run_pure, Result.andThen_ok, List.map_toArray, List.map_cons, List.map_nil, hv, hx, hr]
  have hge := grownCap_ge w (n + m) cap e
  refine hK _ _ (h _ _ _ ⟨by have := h1.len; have := h2.len; simp; omega, .inr ⟨w.heap.size, _, _, rfl, Nat.le_refl _, heap_alloc_new _ _, hge, grownCap_le_maxLen w (n + m) cap e (by unfold maxLen; omega), ?_, ?_⟩⟩ ((Below.refl _ _).drew.alloc (Nat.le_refl _) _))
  · have e1 := h1.len
    have e2 := h2.len
    have e3 : z.cells.size = 1 := E.zs
    simp [Builtin.zeroCells, e1, e2, e3]; omega
  · have e1 := h1.len
    have e2 := h2.len
    simp only [Array.toList_append, List.map_append]
    rw [List.take_append_of_le_length (by simp; omega), List.take_of_length_le (by simp; omega)]
/-- a word's bytes in a new block -/
def WordSaid (n : Int) (w : World) (e : Ending) (w' : World) : Prop := e = .returned (.slice (some ⟨w.heap.size, 0, none⟩) 4 4) ∧ Bs w' w'.heap.size (some ⟨w.heap.size, 0, none⟩) 4 (le4 (w32 n)) ∧ Below w.heap.size w w'
theorem word_c (n : Int) (w : World) (h0 : 0 ≤ n) (h1 : n ≤ 4294967295) : Calls Try.prog 66 #[.int .i64 n] w (WordSaid n w) := by
  have hv := Lib.hid (le4_mix n h0 h1)
  go_enter Try.func66, Try.ntmps66
  go_wp2
  go_ret
  exact ⟨rfl, lit_bs rfl hv.out, (Below.refl _ _).alloc (Nat.le_refl _) _⟩
theorem rword_c (n : Int) (w : World) (h0 : 0 ≤ n) (h1 : n ≤ 4294967295) : Calls Try.prog 50 #[.int .i64 n] w (WordSaid n w) := by
  have hv := Lib.hid (le4_rem n h0 h1)
  go_enter Try.func50, Try.ntmps50
  go_wp2
  go_ret
  exact ⟨rfl, lit_bs rfl hv.out, (Below.refl _ _).alloc (Nat.le_refl _) _⟩
/-- what a frame's making answers -/
def FPutSaid (v : Int) (body : List Byte) (W : World) (e : Ending) (w' : World) : Prop :=
  ∃ A' c', e = .returned (.tuple #[.slice A' (body.length + 16) c', .int .i64 0]) ∧ Own w' W.heap.size A' (body.length + 16) c' (frame v body) ∧ Below W.heap.size W w'
theorem fput_no (v : Int) (A : Option Addr) (n c : Nat) (w : World) (h : v < 0 ∨ 4294967295 < v ∨ 1048576 < n) (hn : n ≤ 9223372036854775807) :
    Calls Try.prog 52 #[.int .i64 v, .slice A n c] w fun e w' => e = .returned (.tuple #[.slice none 0 0, .int .i64 1]) ∧ w = w' := by
  have hor : v < 0 ∨ 0 ≤ v ∧ 4294967296 ≤ v ∨ 0 ≤ v ∧ v < 4294967296 ∧ 1048576 < n := by omega
  clear h
  rcases hor with h | ⟨h, h'⟩ | ⟨h, h', h''⟩
  all_goals
    go_enter Try.func52, Try.ntmps52
    go_wp2
    go_ret2
    exact ⟨rfl, rfl⟩
set_option maxRecDepth 100000 in
set_option maxHeartbeats 1000000 in
theorem fput_c (v : Int) (A : Option Addr) (n c : Nat) (body : List Byte) (w : World) (h0 : 0 ≤ v) (h1 : v ≤ 4294967295) (hn : n ≤ 1048576) (h : Bs w w.heap.size A n body) :
    Calls Try.prog 52 #[.int .i64 v, .slice A n c] w (FPutSaid v body w) := by
  have hln := Lib.hid h.len
  have kc := fun (w : World) (C : Array Value) (n c : Nat) => Lib.run_convert_bytes_const (P := Try.prog) w 27 5 C n c Try.underlying27 Try.underlying5
  go_enter Try.func52, Try.ntmps52
  go_wp2_with fail
  clear kc
  refine (word_c v _ h0 h1).mono ?_
  rintro e w1 ⟨rfl, B1, hb1⟩
  rw [World.size_alloc] at B1
  have M1 : Bs w1 (w.heap.size + 1) (some ⟨w.heap.size, 0, none⟩) 4 magic := (lit_at (w := w) (cs := #[.int .u8 66, .int .u8 76, .int .u8 71, .int .u8 49]) (t := 5) (fz := (4, 5)) (n := 4) (bs := magic) rfl rfl rfl).below (by simpa using hb1)
  have L1 : Below w.heap.size w w1 := ((Below.refl _ _).alloc (Nat.le_refl _) _).trans (hb1.mono (by simp))
  have z1 : w.heap.size + 1 ≤ w1.heap.size := by have := hb1.size; simpa using this
  clear hb1
  go_wp2_with fail
  refine (word_c (n : Int) _ (by omega) (by omega)).mono ?_
  rintro e w2 ⟨rfl, B2, hb2⟩
  have M2 := M1.on hb2 z1
  have K2 := B1.below hb2
  have L2 : Below w.heap.size w w2 := L1.trans (hb2.mono (by omega))
  have z2 := hb2.size
  clear hb2 M1 B1 L1
  go_wp2_with fail
  have e3 : all [(some ⟨w.heap.size, 0, none⟩, 4, 4, magic), (some ⟨w.heap.size + 1, 0, none⟩, 4, 4, le4 (w32 v)), (some ⟨w1.heap.size, 0, none⟩, 4, 4, le4 (w32 (n : Int))), (A, n, c, body)] = inner v body := by
    unfold all inner; simp [hln.out]
  have hil : (inner v body).length = n + 12 := by rw [inner_len, hln.out]
  refine (concat_c _ 4 4 [(some ⟨w.heap.size, 0, none⟩, 4, 4, magic), (some ⟨w.heap.size + 1, 0, none⟩, 4, 4, le4 (w32 v)), (some ⟨w1.heap.size, 0, none⟩, 4, 4, le4 (w32 (n : Int))), (A, n, c, body)] _ ?lit1 (by decide) (by rw [e3, hil]; omega)).mono ?_
  · refine ⟨(Mem.new_sl (n := 4) rfl rfl rfl).more (by simp), fun x hx => ?_⟩
    simp only [List.mem_cons, List.not_mem_nil, or_false] at hx
    rcases hx with rfl | rfl | rfl | rfl
    · exact ⟨(M2.alloc (by omega) _).more (by simp; omega), by simp⟩
    · exact ⟨(K2.alloc (by omega) _).more (by simp; omega), by simp⟩
    · exact ⟨(B2.alloc (by omega) _).more (by simp), by simp⟩
    · exact ⟨((h.below L2).alloc L2.size _).more (by have := L2.size; simp; omega), by show n ≤ _; omega⟩
  rw [e3, hil]
  rintro e w3 ⟨A3, c3, rfl, O3, hb3⟩
  have L3 : Below w.heap.size w w3 := (L2.alloc L2.size _).trans (hb3.mono (by have := L2.size; simp; omega))
  clear hb3 L2 M2 K2 B2 e3
  go_wp2_with fail
  refine (put_c A3 (n + 12) c3 (inner v body) _ O3.bs (by omega)).mono ?_
  rintro e w4 ⟨A4, c4, rfl, O4, hb4⟩
  have L4 : Below w.heap.size w w4 := L3.trans (hb4.mono L3.size)
  go_wp2
  go_ret2
  refine ⟨A4, c4, by rw [hln.out]; rfl, ?_, L4⟩
  rw [hln.out]
  exact own_low O4 L3.size
set_option maxRecDepth 100000 in
set_option maxHeartbeats 1000000 in
theorem rfput_c (v : Int) (A : Option Addr) (n c : Nat) (body : List Byte) (w : World) (h0 : 0 ≤ v) (h1 : v ≤ 4294967295) (hn : n ≤ 1048576) (h : Bs w w.heap.size A n body) :
    Calls Try.prog 36 #[.int .i64 v, .slice A n c] w (OwnSaid (n + 16) (frame v body) w) := by
  have hln := Lib.hid h.len
  have kc := fun (w : World) (C : Array Value) (n c : Nat) => Lib.run_convert_bytes_const (P := Try.prog) w 27 5 C n c Try.underlying27 Try.underlying5
  go_enter Try.func36, Try.ntmps36
  go_wp2_with fail
  clear kc
  refine (rword_c v _ h0 h1).mono ?_
  rintro e w1 ⟨rfl, B1, hb1⟩
  rw [World.size_alloc] at B1
  have M1 : Bs w1 (w.heap.size + 1) (some ⟨w.heap.size, 0, none⟩) 4 magic := (lit_at (w := w) (cs := #[.int .u8 66, .int .u8 76, .int .u8 71, .int .u8 49]) (t := 5) (fz := (4, 5)) (n := 4) (bs := magic) rfl rfl rfl).below (by simpa using hb1)
  have L1 : Below w.heap.size w w1 := ((Below.refl _ _).alloc (Nat.le_refl _) _).trans (hb1.mono (by simp))
  have z1 : w.heap.size + 1 ≤ w1.heap.size := by have := hb1.size; simpa using this
  clear hb1
  go_wp2_with (at_builtin; refine wpList_grow rfl rfl elb rfl rfl rfl M1 B1 (by omega) (by omega) (by omega) (zs := magic ++ le4 (w32 v)) rfl ?_; intro g2 c2 w2 O2 hb2)
  have L2 : Below w.heap.size w w2 := L1.trans (hb2.mono (by omega))
  have z2 := hb2.size
  clear hb2 M1 B1 L1
  refine (rword_c (n : Int) _ (by omega) (by omega)).mono ?_
  rintro e w3 ⟨rfl, B3, hb3⟩
  have O3 : Own w3 w1.heap.size (some ⟨g2, 0, none⟩) 8 c2 (magic ++ le4 (w32 v)) := own_below O2 hb3 (Nat.le_refl _)
  have L3 : Below w.heap.size w w3 := L2.trans (hb3.mono (by omega))
  have z3 := hb3.size
  clear hb3 O2 L2
  have hin : (magic ++ le4 (w32 v)) ++ le4 (w32 (n : Int)) ++ body = inner v body := by unfold inner; rw [hln.out]; simp
  go_wp2_with (first
    | (at_builtin; refine Mem.wpList_app rfl rfl elb (base := w1.heap.size) O3 rfl rfl B3 (one_bs _) (N := 12) (ys := ((magic ++ le4 (w32 v)) ++ le4 (w32 (n : Int))).map bv) rfl (by simp) (by decide) (by decide) (by omega) ?_; intro A4 c4 w4 O4 hg4 hat4
       have L4 : Below w.heap.size w w4 := L3.grown hg4 (by omega) (fun k hk => by have := (World.ownsRow.lt O3 k hk).1; omega)
       have z4 := hg4.size; clear hat4)
    | (at_builtin; refine Mem.wpList_app rfl rfl elb (base := w1.heap.size) O4 rfl rfl (h.below L4) (one_bs _) (N := 12 + n) (ys := (inner v body).map bv) rfl (by rw [← hin]; simp) (by unfold maxLen; omega) (by omega) (by omega) ?_; intro A5 c5 w5 O5 hg5 hat5
       have L5 : Below w.heap.size w w5 := L4.grown hg5 (by omega) (fun k hk => by have := (World.ownsRow.lt O4 k hk).1; omega)
       clear hat5))
  refine (rput_c A5 (12 + n) c5 (inner v body) _ (Own.bs O5) (by omega)).mono ?_
  rintro e w6 ⟨A6, c6, rfl, O6, hb6⟩
  have L6 : Below w.heap.size w w6 := L5.trans (hb6.mono L5.size)
  go_wp2
  go_ret
  have e12 : 12 + n + 4 = n + 16 := by omega
  rw [e12] at O6 ⊢
  exact ⟨A6, c6, rfl, own_low O6 L5.size, L6⟩
end Crc
end Go.Proofs.Ytnaidihoijociaa
