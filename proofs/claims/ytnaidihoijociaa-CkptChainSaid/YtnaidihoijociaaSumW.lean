/- The walks of layer 8 (sum). -/
import Derived.Test.YtnaidihoijociaaRows
import Derived.WalkKit
import Derived.BigQuiet
import Derived.Deep.QuietTactic
import Derived.WalkLawsBesides
import Derived.WalkSpells
import Derived.Lib.Hide
import Derived.Laws.Tables
import Derived.Lib.LazyBuf
import Derived.Test.YtnaidihoijociaaBytes
namespace Go.Proofs.Ytnaidihoijociaa
open Go.RowKit Bs
namespace Crc
theorem ret_int {k : IntKind} {a b : Int} (h : a = b) : Ending.returned (.int k a) = .returned (.int k b) := by rw [h]
/-- what four bits do -/
def tab (j : Nat) : W := Tn 4 (BitVec.ofNat 32 j)
/-- the table, its first k filled -/
def tabCells (k : Nat) : Array Value := ((List.range 16).map fun j => if j < k then Value.int .u32 (n32 (tab j)) else .int .u32 0).toArray
theorem tabCells_set (k : Nat) (h : k < 16) : (tabCells k).setIfInBounds k (.int .u32 (n32 (tab k))) = tabCells (k + 1) := by
  refine Array.ext_getElem? fun i => ?_
  by_cases e : k = i
  · subst e
    simp [tabCells, h]
  · rw [Array.getElem?_setIfInBounds_ne e]
    rcases Nat.lt_or_ge i 16 with hi | hi
    · simp only [tabCells, List.getElem?_toArray, List.getElem?_map, List.getElem?_range hi, Option.map_some]
      by_cases h2 : i < k
      · rw [if_pos h2, if_pos (by omega)]
      · rw [if_neg h2, if_neg (by omega)]
    · simp [tabCells, hi]
theorem tabCells_size (k : Nat) : (tabCells k).size = 16 := by simp [tabCells]
theorem tabCells_one (k : Nat) : (tabCells k).all (·.oneCell') = true := by
  simp only [tabCells, Array.all_eq_true_iff_forall_mem]
  intro v hv
  simp only [List.mem_toArray, List.mem_map] at hv
  obtain ⟨j, _, rfl⟩ := hv
  split <;> rfl
theorem tabCells_get (i : Nat) (h : i < 16) : (tabCells 16)[i]? = some (.int .u32 (n32 (tab i))) := by
  simp [tabCells, h]
theorem Tn_snoc (n : Nat) (w : W) : Tn (n + 1) w = T (Tn n w) := by rw [Tn_add]; rfl
theorem lsb (w : W) : (n32 (w &&& 1#32) == 1) = w.getLsbD 0 := by
  unfold n32
  rw [BitVec.toNat_and, BitVec.getLsbD]
  simp only [BitVec.toNat_ofNat, Nat.reducePow, Nat.reduceMod, Nat.and_one_is_mod, Nat.testBit_zero]
  by_cases h : w.toNat % 2 = 1
  · simp [h]
  · have : w.toNat % 2 = 0 := by omega
    simp [this]
theorem T_odd {w : W} (h : w.getLsbD 0 = true) : T w = (w >>> 1) ^^^ 3988292384#32 := by unfold T poly; rw [h]; rfl
theorem T_even {w : W} (h : w.getLsbD 0 = false) : T w = (w >>> 1) := by unfold T; rw [h]; simp
theorem and1 (x : W) : bits .and .u32 (n32 x) 1 = n32 (x &&& 1#32) := and32 x 1#32
theorem and15 (x : W) : bits .and .u32 (n32 x) 15 = n32 (x &&& 15#32) := and32 x 15#32
theorem shr1 (x : W) : n32 x / (2 : Int) = n32 (x >>> 1) := shr32 x 1
theorem shr4 (x : W) : n32 x / (16 : Int) = n32 (x >>> 4) := shr32 x 4
theorem xorp (x : W) : bits .xor .u32 (n32 x) 3988292384 = n32 (x ^^^ 3988292384#32) := xor32 x 3988292384#32
theorem xor1s (x : W) : bits .xor .u32 (n32 x) 4294967295 = n32 (x ^^^ ones) := xor32 x ones
theorem new2 {w : World} {o : Obj} {cs : Array Value} {t : TypeId} : Mem.Blk ((w.alloc o).alloc (.cells cs t)) (w.heap.size + 1) t cs := by
  have := Mem.Blk.new (w := w.alloc o) (cs := cs) (t := t)
  have e : (w.alloc o).heap.size = w.heap.size + 1 := by simp
  rw [e] at this; exact this
set_option maxRecDepth 100000 in
set_option maxHeartbeats 1000000 in
theorem table_c (w : World) : Calls Try.prog 96 #[] w fun e w' => e = .returned (.agg (tabCells 16)) ∧ Below w.heap.size w w' := by
  go_enter Try.func96, Try.ntmps96
  go_wp2
  go_loopw [5] (fun vi wr => ∃ k : Nat, k ≤ 16 ∧ vi = .int .i64 k ∧ Below w.heap.size w wr ∧ Mem.Blk wr w.heap.size 134 (tabCells 0) ∧ Mem.Blk wr (w.heap.size + 1) 134 (tabCells k)) (fun i _ => 16 - (intOf i).toNat)
  case atStart => exact ⟨0, by omega, rfl, ((Below.refl _ _).alloc (Nat.le_refl _) _).alloc (by simp) _, Mem.Blk.alloc Mem.Blk.new, new2⟩
  case round =>
    obtain ⟨k, hk, rfl, hb, hR, hB⟩ := hrel
    by_cases hlt : k < 16
    · go_wp2
      go_loop [3, 10] (fun v3 v10 => ∃ j : Nat, j ≤ 4 ∧ v10 = .int .i64 j ∧ v3 = .int .u32 (n32 (Tn j (BitVec.ofNat 32 k)))) (fun _ i => 4 - (intOf i).toNat)
      case atStart => exact ⟨0, by omega, rfl, by simp [Tn, n32]; omega⟩
      case round =>
        obtain ⟨j, hj, rfl, rfl⟩ := hrel
        by_cases hjt : j < 4
        · have HS := Lib.hid (Tn_snoc j (BitVec.ofNat 32 k))
          generalize Tn j (BitVec.ofNat 32 k) = y at *
          obtain ⟨hy1, hy2⟩ := n32_bd y
          obtain ⟨hs1, hs2⟩ := n32_bd (y >>> 1)
          have f1 := shr1 y
          have f2 := xorp (y >>> 1)
          have f3 := and1 y
          have hl := lsb y
          generalize n32 y = Y at *
          generalize n32 (y &&& 1#32) = B at *
          obtain ⟨Y1, hY1⟩ : ∃ Y1, n32 (y >>> 1) = Y1 := ⟨_, rfl⟩
          obtain ⟨Y2, hY2⟩ : ∃ Y2, n32 ((y >>> 1) ^^^ 3988292384#32) = Y2 := ⟨_, rfl⟩
          rw [hY1] at f1 f2 hs1 hs2
          rw [hY2] at f2
          have H1 := Lib.hid hY1
          have H2 := Lib.hid hY2
          clear hY1 hY2
          cases hy0 : y.getLsbD 0 with
          | true =>
            have HT := Lib.hid (T_odd hy0)
            rw [hy0] at hl
            clear hy0
            go_wp2
            go_round
            case rel => exact ⟨j + 1, by omega, by go_num, by rw [HS.out, HT.out, H2.out]⟩
            case measure => simp [intOf]; omega
          | false =>
            have HT := Lib.hid (T_even hy0)
            rw [hy0] at hl
            clear hy0
            go_wp2
            go_round
            case rel => exact ⟨j + 1, by omega, by go_num, by rw [HS.out, HT.out, H1.out]⟩
            case measure => simp [intOf]; omega
        · obtain rfl : j = 4 := by omega
          have c0 : wr.cell? ⟨w.heap.size + 1, k, none⟩ = some (.int .u32 0) := by rw [hB.cell]; simp [tabCells, hlt]
          have cf := hB.frozen k
          have e4 : Tn 4 (BitVec.ofNat 32 k) = tab k := rfl
          rw [e4]
          clear e4
          go_wp2
          go_roundw
          case rel =>
            refine ⟨k + 1, by omega, by go_num, hb.setCell (by simp) _, hR.far (by simp), ?_⟩
            have := hB.set_ k (.int .u32 (n32 (tab k)))
            rw [tabCells_set k hlt] at this
            exact this
          case measure => simp [intOf]; omega
    · obtain rfl : k = 16 := by omega
      go_wp2_with (first
        | (refine wpList_load_row rfl _ _ rfl (w.heap.size + 1) rfl _ (tabCells 16) _ _ hB Try.underlying134 rfl (by kernel_rfl) ?_)
        | (refine wpList_store_row rfl _ _ _ rfl w.heap.size (tabCells 16) rfl rfl _ _ hR (by kernel_rfl) (by rw [tabCells_size, tabCells_size]) (tabCells_one _) ?_))
      have hlt0 := hR.lt
      have hg : (wr.setRow w.heap.size (tabCells 16)).heap[w.heap.size]? = some (.cells (tabCells 16) 134 (0, 0)) := by
        unfold Mem.Blk at hR
        simp [World.setRow, Array.getElem?_modify, hR]
      refine bodyPost_ret (v := .agg (tabCells 16)) (results_cell_row rfl _ _ w.heap.size _ (tabCells 16) _ _ rfl hg Try.underlying134 rfl (by kernel_rfl)) rfl ⟨rfl, ?_⟩
      exact hb.trans ⟨rfl, rfl, rfl, by simp [World.setRow], fun i hi => by simp only [World.setRow, Array.getElem?_modify]; rw [if_neg (by omega)]⟩
/-- what a nibble's step reads and reckons -/
theorem nib_facts (x : W) {w : World} {g : Nat} {t : TypeId} (hB : Mem.Blk w g t (tabCells 16)) :
    ∃ I T S : Int, bits .and .u32 (n32 x) 15 = I ∧ 0 ≤ I ∧ I ≤ 15 ∧ w.cell? ⟨g, I.toNat, none⟩ = some (.int .u32 T) ∧ n32 x / (16 : Int) = S ∧ bits .xor .u32 T S = n32 (nib x) := by
  have h15 : (x &&& 15#32).toNat ≤ 15 := by rw [BitVec.toNat_and]; exact Nat.and_le_right
  refine ⟨n32 (x &&& 15#32), n32 (tab (x &&& 15#32).toNat), n32 (x >>> 4), and15 x, (n32_bd _).1, by unfold n32; omega, ?_, shr4 x, ?_⟩
  · rw [hB.cell]
    have e : (n32 (x &&& 15#32)).toNat = (x &&& 15#32).toNat := by unfold n32; omega
    rw [e]
    exact tabCells_get _ (by omega)
  · rw [xor32]
    congr 1
    unfold nib tab
    rw [BitVec.ofNat_toNat]; simp
/-- a slice of slices of bytes: where each lies, what it holds -/
abbrev Row := Option Addr × Nat × Nat × List Byte
def Rws (w : World) (B : Nat) (A : Option Addr) (n : Nat) (L : List Row) : Prop :=
  Mem.Sl w B 1 A n (L.map fun x => .slice x.1 x.2.1 x.2.2.1) ∧ ∀ x ∈ L, Bs w B x.1 x.2.1 x.2.2.2 ∧ x.2.1 ≤ 9223372036854775807
def all (L : List Row) : List Byte := L.flatMap (·.2.2.2)
theorem Rws.below {w w' : World} {B : Nat} {A : Option Addr} {n : Nat} {L : List Row} (h : Rws w B A n L) (hb : Below B w w') : Rws w' B A n L :=
  ⟨h.1.below hb, fun x hx => ⟨(h.2 x hx).1.below hb, (h.2 x hx).2⟩⟩
set_option maxRecDepth 100000 in
set_option maxHeartbeats 1000000 in
theorem parts_c (A : Option Addr) (n c : Nat) (L : List Row) (w : World) (hR : Rws w w.heap.size A n L) (hn : n ≤ 9223372036854775807) :
    Calls Try.prog 89 #[.slice A n c] w fun e w' => e = .returned (.int .u32 (n32 (of (all L)))) ∧ Below w.heap.size w w' := by
  have hLn : L.length = n := by have := hR.1.1; simpa using this
  go_enter Try.func89, Try.ntmps89
  go_wp2_with (first
    | (go_at_call 96; refine (table_c _).mono ?_; rintro e w1 ⟨rfl, hb1⟩)
    | (refine wpList_store_row rfl _ _ _ rfl w1.heap.size (tabCells 16) rfl rfl _ _ (heap_alloc_new _ _) (by kernel_rfl) (by rw [tabCells_size]; rfl) (tabCells_one _) ?_))
  have hz1 := hb1.size
  have hT : Mem.Blk ((w1.alloc (.cells (tabCells 0) 134)).setRow w1.heap.size (tabCells 16)) w1.heap.size 134 (tabCells 16) := setRow_heap _ _ _ _ _ _ (heap_alloc_new _ _)
  have hb2 : Below w.heap.size w ((w1.alloc (.cells (tabCells 0) 134)).setRow w1.heap.size (tabCells 16)) :=
    (hb1.alloc hz1 _).trans ⟨rfl, rfl, rfl, by simp [World.setRow], fun i hi => setRow_other _ _ _ _ (by omega)⟩
  have hR2 := hR.below hb2
  rw [show (tabCells 0) = #[Value.int IntKind.u32 0, .int .u32 0, .int .u32 0, .int .u32 0, .int .u32 0, .int .u32 0, .int .u32 0, .int .u32 0, .int .u32 0, .int .u32 0, .int .u32 0, .int .u32 0, .int .u32 0, .int .u32 0, .int .u32 0, .int .u32 0] from rfl] at hT hb2 hR2
  generalize World.setRow _ _ _ = wt at *
  generalize w1.heap.size = g at *
  clear hb1 hR
  go_loop [4, 12] (fun v4 v12 => ∃ k : Nat, k ≤ n ∧ v12 = .int .i64 k ∧ v4 = .int .u32 (n32 (crc ones (all (L.take k))))) (fun _ i => n - (intOf i).toNat)
  case atStart => exact ⟨0, by omega, rfl, rfl⟩
  case round =>
    obtain ⟨k, hk, rfl, rfl⟩ := hrel
    by_cases hlt : k < n
    · obtain ⟨ad, hl, rfl, hadb, hc⟩ := hR2.1.at_ hlt
      have hlk : k < L.length := by omega
      obtain ⟨hrow, hrn⟩ := hR2.2 _ (List.getElem_mem hlk)
      have hst : Hid (all (L.take (k + 1)) = all (L.take k) ++ L[k].2.2.2) := by
        show all _ = _
        unfold all
        rw [Mem.take_snoc _ _ hlk, List.flatMap_append]; simp
      rw [List.getElem_map] at hc
      generalize all (L.take k) = pre at *
      obtain ⟨pre', hpre⟩ : ∃ p, p = all (L.take (k + 1)) := ⟨_, rfl⟩
      rw [← hpre] at hst
      have Hpre := Lib.hid hpre
      clear hpre
      generalize L[k] = x at *
      obtain ⟨A', n', c', bs⟩ := x
      simp only at hc hrow hrn hst
      go_wp2
      go_loop [4, 18] (fun v4 v18 => ∃ j : Nat, j ≤ n' ∧ v18 = .int .i64 j ∧ v4 = .int .u32 (n32 (crc ones (pre ++ bs.take j)))) (fun _ i => n' - (intOf i).toNat)
      case atStart => exact ⟨0, by omega, rfl, by simp⟩
      case round =>
        obtain ⟨j, hj, rfl, rfl⟩ := hrel
        by_cases hjt : j < n'
        · obtain ⟨ad2, b, hbl, rfl, _, hbe, hcb⟩ := hrow.at_ hjt
          have HS : Hid (crc ones (pre ++ bs.take (j + 1)) = nib (nib (crc ones (pre ++ bs.take j) ^^^ b.setWidth 32))) := by
            show crc _ _ = _
            rw [Mem.take_snoc _ _ hbl, hbe, ← List.append_assoc, crc_append _ (pre ++ bs.take j), ← stepB_nib]; rfl
          clear hbe
          generalize crc ones (pre ++ bs.take j) = st at *
          obtain ⟨b0, b1⟩ := n8_bd b
          obtain ⟨s0, s1⟩ := n32_bd st
          have f1 : bits .xor .u32 (n32 st) (n8 b) = n32 (st ^^^ b.setWidth 32) := by rw [← set32]; exact xor32 _ _
          generalize st ^^^ b.setWidth 32 = x1 at *
          obtain ⟨I, T, S, g1, g2, g3, g4, g5, g6⟩ := nib_facts x1 hT
          generalize nib x1 = x2 at *
          obtain ⟨I2, T2, S2, k1, k2, k3, k4, k5, k6⟩ := nib_facts x2 hT
          generalize nib x2 = x3 at *
          generalize n32 st = X0 at *
          generalize n32 x1 = X1 at *
          generalize n32 x2 = X2 at *
          obtain ⟨X3, hX3⟩ : ∃ X3, X3 = n32 x3 := ⟨_, rfl⟩
          rw [← hX3] at k6
          have HX3 := Lib.hid hX3
          clear hX3
          go_wp2
          go_round
          case rel => exact ⟨j + 1, by omega, by go_num, by rw [HS.out, HX3.out]⟩
          case measure => simp [intOf]; omega
        · obtain rfl : j = n' := by omega
          have hln := hrow.len
          have HS : Hid (crc ones (pre ++ bs.take j) = crc ones pre') := by
            show crc _ _ = _
            rw [hst.out, List.take_of_length_le (by omega)]
          clear hln
          rw [HS.out]
          go_wp2
          go_round
          case rel => exact ⟨k + 1, by omega, by go_num, by rw [Hpre.out]⟩
          case measure => simp [intOf]; omega
    · obtain rfl : k = n := by omega
      have f1 := xor1s (crc ones (all (L.take k)))
      rw [List.take_of_length_le (by omega)] at *
      have f2 : Hid (crc ones (all L) ^^^ ones = of (all L)) := rfl
      rw [f2.out] at f1
      go_wp2
      go_ret
      exact ⟨rfl, hb2⟩
theorem of_c (A : Option Addr) (n c : Nat) (bs : List Byte) (w : World) (h : Bs w w.heap.size A n bs) (hn : n ≤ 9223372036854775807) :
    Calls Try.prog 75 #[.slice A n c] w fun e w' => e = .returned (.int .u32 (n32 (of bs))) ∧ Below w.heap.size w w' := by
  have e1 : all [(A, n, c, bs)] = bs := by simp [all]
  go_enter Try.func75, Try.ntmps75
  go_wp2_with fail
  refine (parts_c _ 1 1 [(A, n, c, bs)] _ ⟨(Mem.new_sl (n := 1) (xs := [.slice A n c]) rfl (by simp) rfl).more (by simp), fun x hx => ?_⟩ (by decide)).mono ?_
  · simp at hx
    subst hx
    exact ⟨(h.alloc (Nat.le_refl _) _).more (by simp), hn⟩
  · rw [e1]
    rintro e w' ⟨rfl, hb⟩
    go_wp2
    go_ret
    exact ⟨rfl, ((Below.refl _ _).alloc (Nat.le_refl _) _).trans (hb.mono (by simp))⟩
theorem elb : Mem.El Try.prog 27 5 (.int .u8 0) 1 1 := ⟨Try.underlying27, by kernel_rfl, rfl, by decide⟩
/-- new memory of the call's own -/
abbrev Own (w : World) (B : Nat) (A : Option Addr) (n c : Nat) (bs : List Byte) : Prop := w.ownsRow B 5 1 (.slice A n c) n (bs.map bv)
theorem Own.bs {w : World} {B : Nat} {A : Option Addr} {n c : Nat} {bs : List Byte} (h : Own w B A n c bs) : Bs w w.heap.size A n bs := by
  obtain ⟨A', c', e, hs, _⟩ := Mem.own_form h
  obtain ⟨rfl, _, rfl⟩ : A = A' ∧ n = n ∧ c = c' := by simpa using e
  exact hs
def OwnSaid (n : Nat) (bs : List Byte) (W : World) (e : Ending) (w' : World) : Prop := ∃ A' c', e = .returned (.slice A' n c') ∧ Own w' W.heap.size A' n c' bs ∧ Below W.heap.size W w'
theorem clone_c (A : Option Addr) (n c : Nat) (bs : List Byte) (w : World) (h : Bs w w.heap.size A n bs) (hn : n ≤ 140737488355328) :
    Calls Try.prog 39 #[.slice A n c] w (OwnSaid n bs w) := by
  rcases A with _ | ad
  · have h0 : n = 0 := by
      rcases Nat.eq_zero_or_pos n with h0 | h0
      · exact h0
      · obtain ⟨_, e, _⟩ := h.2 h0; cases e
    subst h0
    have hb : bs = [] := List.eq_nil_of_length_eq_zero (by have := h.len; omega)
    subst hb
    have hq := Lib.run_eql_slice_nil (P := Try.prog) w 27 5 none 0 c 0 0 Try.underlying27
    go_enter Try.func39, Try.ntmps39
    go_wp2
    go_ret
    exact ⟨none, 0, rfl, Mem.own_nil, Below.refl _ _⟩
  · have hq := Lib.run_eql_slice_nil (P := Try.prog) w 27 5 (some ad) n c 0 0 Try.underlying27
    go_enter Try.func39, Try.ntmps39
    go_wp2_with (at_builtin
                 refine Mem.wpList_app rfl rfl elb (base := w.heap.size) (Mem.own_lit (by simp) (by omega) (by simp) rfl rfl) rfl rfl (Mem.Sl.alloc h (Nat.le_refl _) _) (one_bs _) (N := n) (ys := bs.map bv) (by omega) (by simp) (by unfold maxLen; omega) (by omega) (by simp) ?_
                 intro A2 c2 w2 hown2 hg2 hat2)
    go_ret
    exact ⟨A2, c2, rfl, hown2, ((Below.refl _ _).alloc (Nat.le_refl _) _).grown hg2 (by simp) (by intro k hk; simp [Value.ownBlock] at hk; omega)⟩
theorem ret_bool {a b : Bool} (h : a = b) : Ending.returned (.bool a) = .returned (.bool b) := by rw [h]
theorem equal_c (A A2 : Option Addr) (n c m d B B2 : Nat) (xs bs : List Byte) (w : World) (h : Bs w B A n xs) (h2 : Bs w B2 A2 m bs) (hn : n ≤ 9223372036854775807) (hm : m ≤ 9223372036854775807) :
    Calls Try.prog 73 #[.slice A n c, .slice A2 m d] w fun e w' => e = .returned (.bool (decide (xs = bs))) ∧ Below w.heap.size w w' := by
  have hla := h.len
  have hlb := h2.len
  by_cases hnm : n = m
  · subst hnm
    have Hla := Lib.hid hla
    have Hlb := Lib.hid hlb
    clear hla hlb
    go_enter Try.func73, Try.ntmps73
    go_wp2
    go_loopw [13] (fun vi wr => ∃ k : Nat, k ≤ n ∧ vi = .int .i64 k ∧ Below w.heap.size w wr ∧ Bs wr B A n xs ∧ Bs wr B2 A2 n bs ∧ xs.take k = bs.take k) (fun i _ => n - (intOf i).toNat)
    case atStart => exact ⟨0, by omega, rfl, Below.refl _ _, h, h2, rfl⟩
    case round =>
      obtain ⟨k, hk, rfl, hb, h3, h4, heq⟩ := hrel
      have Heq := Lib.hid heq
      clear heq
      by_cases hlt : k < n
      · obtain ⟨ad, a, hal, rfl, _, hae, hac⟩ := h3.at_ hlt
        obtain ⟨ad2, b, hbl, rfl, _, hbe, hbc⟩ := h4.at_ hlt
        have Hae := Lib.hid hae
        have Hbe := Lib.hid hbe
        clear hae hbe
        by_cases hab : a = b
        · have hx : (n8 a != n8 b) = false := by simp [hab]
          have hnext : Hid (xs.take (k + 1) = bs.take (k + 1)) := by
            show _ = _
            rw [Mem.take_snoc _ _ hal, Mem.take_snoc _ _ hbl, Heq.out, Hae.out, Hbe.out, hab]
          clear hab
          go_wp2
          go_quiet (fail)
          go_wp2
          go_roundw
          case rel => exact ⟨k + 1, by omega, by go_num, Mem.below_drewN hb _, h3.drewN _, h4.drewN _, hnext⟩
          case measure => simp [intOf]; omega
        · have hx : (n8 a != n8 b) = true := by simp; exact fun e => hab (n8_inj e)
          have hfin : Hid (decide (xs = bs) = false) := by
            show _ = _
            simp only [decide_eq_false_iff_not]
            intro e
            subst e
            rw [Hae.out] at Hbe
            exact hab Hbe
          clear hab
          go_wp2
          go_quiet (fail)
          go_wp2
          go_ret
          exact ⟨ret_bool hfin.out.symm, Mem.below_drewN hb _⟩
      · obtain rfl : k = n := by omega
        have hfin : Hid (decide (xs = bs) = true) := by
          show _ = _
          have := Heq.out
          rw [List.take_of_length_le (by have := Hla.out; omega), List.take_of_length_le (by have := Hlb.out; omega)] at this
          simp [this]
        go_wp2
        go_ret
        exact ⟨ret_bool hfin.out.symm, hb⟩
  · have hne : ((n : Int) != m) = true := by simp; omega
    have hfin : Hid (decide (xs = bs) = false) := by
      show _ = _
      simp only [decide_eq_false_iff_not]
      rintro rfl
      omega
    clear hnm hla hlb
    go_enter Try.func73, Try.ntmps73
    go_wp2
    go_ret
    exact ⟨ret_bool hfin.out.symm, Below.refl _ _⟩
set_option maxRecDepth 8000 in
theorem same_c (A A2 : Option Addr) (n c m d B B2 : Nat) (xs bs : List Byte) (w : World) (h : Bs w B A n xs) (h2 : Bs w B2 A2 m bs) :
    Calls Try.prog 33 #[.slice A n c, .slice A2 m d] w fun e w' => e = .returned (.bool (decide (xs = bs))) ∧ w = w' := by
  have q1 := run_str (P := Try.prog) (c := c) h (src := 27) (e := 5) (dst := 9) Try.underlying27 Try.underlying5 Try.underlying9
  have q2 := run_str (P := Try.prog) (c := d) h2 (src := 27) (e := 5) (dst := 9) Try.underlying27 Try.underlying5 Try.underlying9
  have hfin : Hid (((strOf xs).toList == (strOf bs).toList) = decide (xs = bs)) := by
    show _ = _
    rw [Lib.toList_data, Lib.toList_data]
    by_cases e : xs = bs
    · subst e; simp
    · simp only [e, decide_false, beq_eq_false_iff_ne, ne_eq]
      intro h
      refine e (strOf_inj ?_)
      cases h1 : strOf xs; cases h2 : strOf bs
      rw [h1, h2] at h
      congr 1
      exact Array.toList_inj.1 h
  generalize strOf xs = sa at *
  generalize strOf bs = sb at *
  go_enter Try.func33, Try.ntmps33
  go_wp2
  go_ret
  exact ⟨ret_bool hfin.out, rfl⟩
theorem own_below {w w' : World} {B B' : Nat} {e : TypeId} {size : Nat} {v : Value} {n : Nat} {xs : List Value} (h : w.ownsRow B e size v n xs) (hb : Below B' w w') (hB : w.heap.size ≤ B') : w'.ownsRow B e size v n xs := by
  obtain ⟨h1, h2⟩ := h
  refine ⟨h1, ?_⟩
  rcases h2 with h2 | ⟨g, cap, cur, hv, hg, hh, r⟩
  · exact .inl h2
  · have hlt := (Array.getElem?_eq_some_iff.1 hh).1
    exact .inr ⟨g, cap, cur, hv, hg, (hb.block g (by omega)).trans hh, r⟩
theorem own_low {w : World} {B B' : Nat} {e : TypeId} {size : Nat} {v : Value} {n : Nat} {xs : List Value} (h : w.ownsRow B' e size v n xs) (hb : B ≤ B') : w.ownsRow B e size v n xs := by
  obtain ⟨h1, h2⟩ := h
  refine ⟨h1, ?_⟩
  rcases h2 with h2 | ⟨g, cap, cur, hv, hg, r⟩
  · exact .inl h2
  · exact .inr ⟨g, cap, cur, hv, by omega, r⟩
theorem b0 (x : W) : IntKind.u8.wrap (n32 x) = n8 (x.setWidth 8) := by
  unfold n32 n8
  rw [BitVec.toNat_setWidth]
  simp only [IntKind.wrap, IntKind.bits, IntKind.signed]
  simp only [Bool.false_eq_true, if_false, Bool.false_and]
  omega
theorem bk (x : W) (k : Nat) : IntKind.u8.wrap (n32 x / (2 ^ k : Nat)) = n8 ((x >>> k).setWidth 8) := by rw [shr32]; exact b0 _
theorem put_c (A : Option Addr) (n c : Nat) (bs : List Byte) (w : World) (h : Bs w w.heap.size A n bs) (hn : n ≤ 140737488355324) :
    Calls Try.prog 64 #[.slice A n c] w (OwnSaid (n + 4) (put bs) w) := by
  have hln := h.len
  go_enter Try.func64, Try.ntmps64
  go_wp2_with fail
  refine (of_c A n c bs _ h (by omega)).mono ?_
  rintro e w1 ⟨rfl, hb1⟩
  have h1 := h.below hb1
  have hz1 := hb1.size
  go_wp2_with fail
  refine (clone_c A n c bs _ (h1.more hz1) (by omega)).mono ?_
  rintro e w2 ⟨A2, c2, rfl, hown, hb2⟩
  have hz2 := hb2.size
  have k0 := b0 (of bs)
  have k1 := bk (of bs) 8
  have k2 := bk (of bs) 16
  have k3 := bk (of bs) 24
  have hput : Hid (bs.map bv ++ [.int .u8 (n8 ((of bs).setWidth 8)), .int .u8 (n8 ((of bs >>> 8).setWidth 8)), .int .u8 (n8 ((of bs >>> 16).setWidth 8)), .int .u8 (n8 ((of bs >>> 24).setWidth 8))] = (put bs).map bv) := by
    show _ = _
    unfold put; rw [List.map_append]; rfl
  generalize n8 ((of bs).setWidth 8) = y0 at *
  generalize n8 ((of bs >>> 8).setWidth 8) = y1 at *
  generalize n8 ((of bs >>> 16).setWidth 8) = y2 at *
  generalize n8 ((of bs >>> 24).setWidth 8) = y3 at *
  generalize n32 (of bs) = X at *
  have e1 : ((2 ^ 8 : Nat) : Int) = 256 := by decide
  have e2 : ((2 ^ 16 : Nat) : Int) = 65536 := by decide
  have e3 : ((2 ^ 24 : Nat) : Int) = 16777216 := by decide
  rw [e1] at k1; rw [e2] at k2; rw [e3] at k3
  clear e1 e2 e3
  go_wp2_with (at_builtin; refine Mem.wpList_app rfl rfl elb (base := w1.heap.size) (hown.alloc _) rfl rfl (Mem.new_sl (n := 4) (xs := [.int .u8 y0, .int .u8 y1, .int .u8 y2, .int .u8 y3]) rfl rfl rfl) (by simp [Value.oneCell']) (N := n + 4) (ys := (put bs).map bv) (by omega) hput.out (by unfold maxLen; omega) (by omega) (by simp; omega) ?_; intro A3 c3 w3 hown3 hg3 hat3)
  go_ret
  refine ⟨A3, c3, rfl, own_low hown3 hz1, ?_⟩
  exact ((hb1.trans (hb2.mono hz1)).alloc (by omega) _).grown hg3 (by simp; omega) (fun k hk => by have := (hown.lt k hk).1; omega)
/-- have bytes a sum behind -/
def cutOK (bs : List Byte) : Bool := decide (4 ≤ bs.length) && decide (put (bs.take (bs.length - 4)) = bs)
/-- what a cut answers -/
def CutSaid (n : Nat) (bs : List Byte) (W : World) (e : Ending) (w' : World) : Prop :=
  ∃ A' n' c', e = .returned (.tuple #[.slice A' n' c', .bool (cutOK bs)]) ∧ n' = (if cutOK bs then n - 4 else 0) ∧ Own w' W.heap.size A' n' c' (if cutOK bs then bs.take (n - 4) else []) ∧ Below W.heap.size W w'
theorem cut_c (A : Option Addr) (n c : Nat) (bs : List Byte) (w : World) (h : Bs w w.heap.size A n bs) (hn : n ≤ 140737488355328) (hnc : n ≤ c) (hc : c ≤ maxLen) :
    Calls Try.prog 61 #[.slice A n c] w (CutSaid n bs w) := by
  unfold maxLen at hc
  have hln := h.len
  have Hln := Lib.hid hln
  clear hln
  by_cases h4 : n < 4
  · have hno : Hid (cutOK bs = false) := by show _ = _; unfold cutOK; rw [Hln.out]; simp; omega
    go_enter Try.func61, Try.ntmps61
    go_wp2
    go_ret2
    exact ⟨none, 0, 0, by rw [hno.out]; rfl, by rw [hno.out]; rfl, by rw [hno.out]; exact Mem.own_nil, Below.refl _ _⟩
  · obtain ⟨m, rfl⟩ : ∃ m, n = m + 4 := ⟨n - 4, by omega⟩
    have hcut : Bs w w.heap.size A m (bs.take m) := by
      have := h.cut (l := 0) (k := m) (by omega) (by omega)
      simp only [Nat.sub_zero, List.drop_zero] at this
      have e : (A.map fun a => a.add 0) = A := by cases A <;> simp [Addr.add]
      rw [e] at this; exact this
    have hok : Hid (cutOK bs = decide (put (bs.take m) = bs)) := by
      show _ = _; unfold cutOK; rw [Hln.out]; simp
    rcases A with _ | ad
    · obtain ⟨_, e, _⟩ := h.2 (by omega); cases e
    · go_enter Try.func61, Try.ntmps61
      go_wp2_with fail
      refine (clone_c (some ad) m c (bs.take m) _ hcut (by omega)).mono ?_
      rintro e w1 ⟨A2, c2, rfl, hown, hb1⟩
      have hz1 := hb1.size
      go_wp2_with fail
      refine (put_c A2 m c2 (bs.take m) _ hown.bs (by omega)).mono ?_
      rintro e w2 ⟨A3, c3, rfl, hown2, hb2⟩
      have hz2 := hb2.size
      have hown1 := own_below hown hb2 (Nat.le_refl _)
      have hb12 : Below w.heap.size w w2 := hb1.trans (hb2.mono hz1)
      go_wp2_with fail
      refine (equal_c A3 (some ad) (m + 4) c3 (m + 4) c _ _ (put (bs.take m)) bs _ hown2.bs (h.below hb12) (by omega) (by omega)).mono ?_
      rintro e w3 ⟨rfl, hb3⟩
      have hown3 := own_below hown1 hb3 (Nat.le_refl _)
      have hb13 : Below w.heap.size w w3 := hb12.trans (hb3.mono (by omega))
      rw [← hok.out]
      cases hcok : cutOK bs with
      | true =>
        have Hc := Lib.hid hcok
        clear hcok
        go_wp2
        go_ret2
        refine ⟨A2, m, c2, by rw [Hc.out]; rfl, by rw [Hc.out]; rfl, ?_, hb13⟩
        rw [Hc.out]; exact hown3
      | false =>
        have Hc := Lib.hid hcok
        clear hcok
        go_wp2
        go_ret2
        refine ⟨none, 0, 0, by rw [Hc.out]; rfl, by rw [Hc.out]; rfl, ?_, hb13⟩
        rw [Hc.out]; exact Mem.own_nil
end Crc
end Go.Proofs.Ytnaidihoijociaa
