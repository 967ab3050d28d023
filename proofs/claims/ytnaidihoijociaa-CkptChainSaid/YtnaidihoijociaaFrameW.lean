/- The walks of layer 9 (frame): words, rows one behind the other, the frame. -/
import Derived.Test.YtnaidihoijociaaFrameN
import Derived.Laws.Append
namespace Go.Proofs.Ytnaidihoijociaa
open Go.RowKit Bs
namespace Crc
theorem zeroCells_one (z : Value) (hz : z.cells = #[z]) (n : Nat) : (Builtin.zeroCells z.cells n).toList = List.replicate n z := by
  rw [hz]
  apply List.ext_getElem
  · simp [Builtin.zeroCells]
  · intro i h1 h2
    simp [Builtin.zeroCells, Nat.mod_one]
/-- append(nil, make(n)..): new memory, all nought -/
theorem run_append_make {P : Program} (w : World) (t tx ty e : TypeId) (i : TypeInfo) (z : Value) (ht : P.underlying t = some (.slice e)) (htx : P.underlying tx = some (.int .i64)) (hi : P.info? e = some i) (hz : i.zero = some z) (hz1 : z.cells = #[z]) (hsz : i.size = 1) (hby : i.bytes = 1)
    (n : Nat) (h0 : 0 < n) (hn : n ≤ 140737488355328) :
    ∃ cap w', (Builtin.append_ #[t, tx] ty #[.slice none 0 0, .int .i64 (n : Int)]).run P w = .ok (.slice (some ⟨w.heap.size, 0, none⟩) n cap) w' ∧ w'.ownsRow w.heap.size e 1 (.slice (some ⟨w.heap.size, 0, none⟩) n cap) n (List.replicate n z) ∧ Below w.heap.size w w' := by
  have hw : IntKind.i64.wrap (n : Int) = n := IntWalk.i64_in _ (by omega)
  have h1 : ¬ ((n : Int) < 0) := by omega
  have h2 : ¬ (281474976710656 < (n : Int) * (i.bytes : Int)) := by rw [hby]; omega
  have h3 : ¬ (n ≤ 0) := by omega
  have h4 : ¬ (9223372036854775807 < (n : Int)) := by omega
  have h5 : Builtin.nextslicecap n 0 = n := nextslicecap_zero h0
  have h6 : ¬ (281474976710656 < Builtin.nextslicecap n 0 * i.bytes) := by rw [h5, hby]; omega
  have h7 : n * i.size ≠ 0 := by rw [hsz]; omega
  have h8 : ¬ (n = 0) := by omega
  have h9 : ¬ ((n : Int) ≤ 0) := by omega
  have h10 : max (n : Int) 0 = n := by omega
  refine ⟨grownCap w n 0 e, w.drew.alloc (.cells (Builtin.zeroCells z.cells n ++ Builtin.zeroCells z.cells (grownCap w n 0 e - n)) e), ?_, ?_, (Below.refl _ _).drew.alloc (Nat.le_refl _) _⟩
  · simp [Builtin.append_, run_underlying ht, run_underlying htx, sizeOf, typeInfo, zeroValue, hi, hz, hw, h1, h2, h4, h6, h8, hsz, h9, h10, Builtin.firstCells, Question.forced, newRow, grownCap, asInt, asIntOf]
  · have hge := grownCap_ge w n 0 e
    have hle := grownCap_le_maxLen w n 0 e (by unfold maxLen; omega)
    refine ⟨by simp, .inr ⟨w.heap.size, grownCap w n 0 e, _, rfl, Nat.le_refl _, heap_alloc_new _ _, hge, hle, ?_, ?_⟩⟩
    · simp [Builtin.zeroCells, hz1]; omega
    · rw [Array.toList_append, zeroCells_one z hz1, zeroCells_one z hz1, Nat.mul_one, List.take_append_of_le_length (by simp)]
      simp
theorem wpList_make {P : Program} {w : World} {ops : Array Oper} {rest : List Oper} {o : Oper} {a : Act} {Q : Exit → Act → World → Prop} {s x : Operand} {t tx : TypeId} {n : Nat} {e : TypeId} {z : Value} (hgd : o.guard = none)
    (ho : o.op = .call { callee := .builtin .append, args := #[s, x], argTypes := #[t, tx] }) (hv : a.eval s = .slice none 0 0) (hx : a.eval x = .int .i64 (n : Int))
    (hr : ∃ cap w', (Builtin.append_ #[t, tx] o.type #[.slice none 0 0, .int .i64 (n : Int)]).run P w = .ok (.slice (some ⟨w.heap.size, 0, none⟩) n cap) w' ∧ w'.ownsRow w.heap.size e 1 (.slice (some ⟨w.heap.size, 0, none⟩) n cap) n (List.replicate n z) ∧ Below w.heap.size w w')
    (h : ∀ cap w', cap ≤ 9223372036854775807 → w'.ownsRow w.heap.size e 1 (.slice (some ⟨w.heap.size, 0, none⟩) n cap) n (List.replicate n z) → Below w.heap.size w w' → wpList P ops Q rest (a.put o.dst (.slice (some ⟨w.heap.size, 0, none⟩) n cap)) w') : wpList P ops Q (o :: rest) a w := by
  obtain ⟨cap, w', hr, h2, h3⟩ := hr
  refine wpList_plain hgd fun _ hK => ?_
  unfold Oper.wp execOp
  simp only [ho, resolve, invoke, builtin, Sem.run_bind, Sem.run_pure, Result.andThen_ok, List.map_toArray, List.map_cons, List.map_nil, hv, hx, hr]
  refine hK _ _ (h cap w' ?_ h2 h3)
  show cap ≤ _
  obtain ⟨A', c', e1, _, _, _, hm⟩ := Mem.own_form h2
  obtain ⟨_, _, rfl⟩ : some (⟨w.heap.size, 0, none⟩ : Addr) = A' ∧ n = n ∧ cap = c' := by simpa using e1
  unfold maxLen at hm; omega
/-- room for n, none of it used -/
def GrowSaid (n : Nat) (W : World) (e : Ending) (w' : World) : Prop := ∃ A' c', e = .returned (.slice A' 0 c') ∧ Own w' W.heap.size A' 0 c' [] ∧ Below W.heap.size W w'
theorem own_empty {w : World} {B g n cap : Nat} {xs : List Value} {e : TypeId} (h : w.ownsRow B e 1 (.slice (some ⟨g, 0, none⟩) n cap) n xs) : w.ownsRow B e 1 (.slice (some ⟨g, 0, none⟩) 0 cap) 0 [] := by
  obtain ⟨_, h2⟩ := h
  rcases h2 with ⟨h, _⟩ | ⟨g', cap', cur, hv, hg, hh, _, hm, hc, _⟩
  · simp at h
  · simp only [Value.slice.injEq, Option.some.injEq, Addr.mk.injEq, and_true, true_and] at hv
    obtain ⟨rfl, rfl⟩ := hv
    exact ⟨by simp, .inr ⟨g, cap, cur, rfl, hg, hh, by omega, hm, hc, by simp⟩⟩
theorem grow_c (n : Nat) (w : World) (hn : n ≤ 140737488355328) : Calls Try.prog 76 #[.slice none 0 0, .int .i64 (n : Int)] w (GrowSaid n w) := by
  by_cases h0 : n = 0
  · subst h0
    go_enter Try.func76, Try.ntmps76
    go_wp2
    go_ret
    exact ⟨none, 0, rfl, Mem.own_nil, Below.refl _ _⟩
  · have h1 : 0 < n := by omega
    clear h0
    obtain ⟨i, hi, hz, hz1, hz2⟩ := info_parts (P := Try.prog) (e := 5) (z := .int .u8 0) (size := 1) (bytes := 1) (by kernel_rfl)
    have hr := run_append_make (P := Try.prog) w 27 3 27 5 i (.int .u8 0) Try.underlying27 Try.underlying3 hi hz rfl hz1 hz2 n h1 hn
    have Hr := Lib.hid hr
    clear hi hz hz1 hz2 hr
    go_enter Try.func76, Try.ntmps76
    go_wp2_with (at_builtin; refine wpList_make rfl rfl rfl rfl Hr.out ?_; intro cap w' hle hown hb; have Hown := Lib.hid hown; clear hown)
    go_ret
    exact ⟨_, _, rfl, own_empty Hown.out, hb⟩
/-- rows of bytes, one behind the other -/
theorem concat_c (A : Option Addr) (n c : Nat) (L : List Row) (w : World) (hR : Rws w w.heap.size A n L) (hn : n ≤ 1000) (hbd : (all L).length ≤ 140737488355328) :
    Calls Try.prog 65 #[.slice A n c] w (OwnSaid (all L).length (all L) w) := by
  have hLn : Hid (L.length = n) := by have := hR.1.1; show _ = _; simpa using this
  go_enter Try.func65, Try.ntmps65
  go_wp2
  go_loop [3, 11] (fun v3 v11 => ∃ k : Nat, k ≤ n ∧ v11 = .int .i64 k ∧ v3 = .int .i64 ((all (L.take k)).length : Int)) (fun _ i => n - (intOf i).toNat)
  case atStart => exact ⟨0, by omega, rfl, rfl⟩
  case round =>
    obtain ⟨k, hk, rfl, rfl⟩ := hrel
    by_cases hlt : k < n
    · obtain ⟨ad, hl, rfl, hadb, hc⟩ := hR.1.at_ hlt
      have hlk : k < L.length := by have := hLn.out; omega
      obtain ⟨hrow, hrn⟩ := hR.2 _ (List.getElem_mem hlk)
      have hst : (all (L.take (k + 1))).length = (all (L.take k)).length + L[k].2.1 := by
        unfold all
        rw [Mem.take_snoc _ _ hlk, List.flatMap_append, List.length_append, ← hrow.len]; simp
      have hle : (all (L.take (k + 1))).length ≤ (all L).length := by
        have e : all L = all (L.take (k + 1)) ++ all (L.drop (k + 1)) := by unfold all; rw [← List.flatMap_append, List.take_append_drop]
        rw [e, List.length_append]; omega
      rw [List.getElem_map] at hc
      have HS := Lib.hid hst
      rw [hst] at hle
      clear hst
      generalize (all (L.take k)).length = p at *
      generalize L[k] = x at *
      obtain ⟨A', n', c', bs⟩ := x
      simp only at hc hrow hrn hle HS
      go_wp2
      go_round
      case rel => exact ⟨k + 1, by omega, by go_num, by rw [HS.out]; go_num⟩
      case measure => simp [intOf]; omega
    · obtain rfl : k = n := by omega
      have e : L.take k = L := List.take_of_length_le (by have := hLn.out; omega)
      rw [e]
      clear e
      go_wp2_with fail
      refine (grow_c (all L).length _ hbd).mono ?_
      rintro e w1 ⟨A1, c1, rfl, O1, hb1⟩
      have hR1 := hR.below hb1
      go_wp2_with fail
      go_loopw [6, 27] (fun v6 v27 wr => ∃ j : Nat, j ≤ k ∧ v27 = .int .i64 j ∧ Below w.heap.size w wr ∧ ∃ A' c', v6 = .slice A' (all (L.take j)).length c' ∧ Own wr w.heap.size A' (all (L.take j)).length c' (all (L.take j))) (fun _ i _ => k - (intOf i).toNat)
      case atStart => exact ⟨0, by omega, rfl, hb1, A1, c1, rfl, O1⟩
      case round =>
        clear hb1 O1 hR1
        obtain ⟨j, hj, rfl, hbr, A2, c2, rfl, O2⟩ := hrel
        have hRr := hR.below hbr
        by_cases hjt : j < k
        · obtain ⟨ad, hl, rfl, hadb, hc⟩ := hRr.1.at_ hjt
          have hlk : j < L.length := by have := hLn.out; omega
          obtain ⟨hrow, hrn⟩ := hRr.2 _ (List.getElem_mem hlk)
          have hst : all (L.take (j + 1)) = all (L.take j) ++ L[j].2.2.2 := by
            unfold all
            rw [Mem.take_snoc _ _ hlk, List.flatMap_append]; simp
          have hle : (all (L.take (j + 1))).length ≤ (all L).length := by
            have e : all L = all (L.take (j + 1)) ++ all (L.drop (j + 1)) := by unfold all; rw [← List.flatMap_append, List.take_append_drop]
            rw [e, List.length_append]; omega
          rw [List.getElem_map] at hc
          have HS := Lib.hid hst
          rw [hst] at hle
          clear hst
          generalize all (L.take j) = pre at *
          generalize L[j] = x at *
          obtain ⟨A', n', c', bs⟩ := x
          simp only at hc hrow hrn hle HS
          have hbl : bs.length = n' := hrow.len
          rw [List.length_append, hbl] at hle
          have Hbl := Lib.hid hbl
          clear hbl
          have hzr := hbr.size
          go_wp2_with (at_builtin; refine Mem.wpList_app rfl rfl elb (base := w.heap.size) O2 rfl rfl hrow (one_bs _) (N := pre.length + n') (ys := (pre ++ bs).map bv) rfl (by simp) (by unfold maxLen; omega) (by omega) (by omega) ?_; intro A3 c3 w3 O3 hg3 hat3)
          have hfin : Hid ((pre ++ bs).length = pre.length + n') := by show _ = _; rw [List.length_append, Hbl.out]
          go_roundw
          case rel => exact ⟨j + 1, by omega, by go_num, hbr.grown hg3 hzr (fun k hk => (World.ownsRow.lt O2 k hk).1), A3, c3, by rw [HS.out, hfin.out], by rw [HS.out, hfin.out]; exact O3⟩
          case measure => simp [intOf]; omega
        · obtain rfl : j = k := by omega
          have e : L.take j = L := List.take_of_length_le (by have := hLn.out; omega)
          rw [e] at O2 ⊢
          clear e
          go_wp2
          go_ret
          exact ⟨A2, c2, rfl, O2, hbr⟩
end Crc
end Go.Proofs.Ytnaidihoijociaa
