/- The walks of layer 15 (image): where an image stands: the closure, the search. -/
import Derived.Test.YthccojfflmfggaaRows
import Derived.WalkKit
import Derived.BigQuiet
import Derived.Deep.QuietTactic
import Derived.WalkLawsBesides
import Derived.WalkSpells
import Derived.OwnWalk
import Derived.Lib.Hide
import Derived.Laws.Externs
import Derived.Test.YthccojfflmfggaaMgW0
import Derived.Test.YthccojfflmfggaaMgW1
import Derived.Calls
namespace Go.Proofs.Ythccojfflmfggaa
open Go.RowKit
namespace Wo
set_option maxRecDepth 100000 in
theorem iclos_c (p : ImgV) (s : ByteArray) (w : World) : Calls Try.prog 73 #[.agg p.arr, .string s] w fun e w' => e = .returned (.int .i64 (Str.cmp p.name s)) ∧ Below w.heap.size w w' := by
  obtain ⟨name, size, last⟩ := p
  unfold ImgV.arr
  dsimp only
  go_enter Try.func73, Try.ntmps73
  go_wp2_with fail
  refine (compare_c _ _ _).mono ?_
  rintro e w' ⟨rfl, rfl⟩
  go_wp2_with fail
  go_ret
  exact ⟨rfl, (Below.refl _ _).alloc (Nat.le_refl _) _⟩
/-- their names -/
def nms (bx : List ImgV) : List ByteArray := bx.map fun p => p.name
theorem nms_len (bx : List ImgV) : (nms bx).length = bx.length := by simp [nms]
theorem nms_at {bx : List ImgV} {k : Nat} (h : k < bx.length) (h2 : k < (nms bx).length) : (nms bx)[k] = bx[k].name := by simp [nms]
set_option maxRecDepth 100000 in
set_option maxHeartbeats 2000000 in
theorem isearch_c (A : Option Addr) (n c : Nat) (bx : List ImgV) (s : ByteArray) (w : World) (h : Mem.Sl w w.heap.size 3 A n (ImgV.flat bx)) (hr : Str.Rises (nms bx)) (hlen : bx.length = n) (hn : n ≤ 1000000) :
    Calls Try.prog 72 #[.slice A n c, .string s, .func (.func 73) #[] #[]] w fun e w' => e = .returned (.tuple #[.int .i64 (Str.pos (nms bx) s), .bool (Str.has (nms bx) s)]) ∧ Below w.heap.size w w' := by
  have HR := Lib.hid hr
  clear hr
  obtain ⟨P, hP⟩ : ∃ P, P = Str.pos (nms bx) s := ⟨_, rfl⟩
  obtain ⟨F, hF⟩ : ∃ F, F = Str.has (nms bx) s := ⟨_, rfl⟩
  rw [← hP, ← hF]
  have HP := Lib.hid hP
  have HF := Lib.hid hF
  clear hP hF
  go_enter Try.func72, Try.ntmps72
  go_wp2_with fail
  go_loopw [9, 10] (fun vi vj wr => ∃ i j : Nat, i ≤ j ∧ j ≤ n ∧ vi = .int .i64 i ∧ vj = .int .i64 j ∧ Below w.heap.size w wr ∧ Hid (∀ (t : Nat) (ht : t < (nms bx).length), t < i → Str.cmp (nms bx)[t] s < 0) ∧ Hid (∀ (t : Nat) (ht : t < (nms bx).length), j ≤ t → 0 ≤ Str.cmp (nms bx)[t] s)) (fun i j _ => (intOf j - intOf i).toNat)
  case atStart => exact ⟨0, n, by omega, by omega, rfl, rfl, Below.refl _ _, fun t _ h => absurd h (by omega), fun t ht h => absurd ht (by rw [nms_len]; omega)⟩
  case round =>
    obtain ⟨i, j, hij, hjn, rfl, rfl, hbr, Hl, Hh⟩ := hrel
    by_cases hlt : i < j
    · obtain ⟨m, hm⟩ : ∃ m : Nat, m = (i + j) / 2 := ⟨_, rfl⟩
      have hm1 : i ≤ m := by omega
      have hm2 : m < j := by omega
      have hmi : ((i : Int) + j) / 2 = m := by omega
      have d0 : decide ((i : Int) < j) = true := decide_eq_true (by omega)
      have hsh : ∀ w, (binOp .shr 123 (.int .u64 ((i : Int) + j)) (.int .u64 1)).run Try.prog w = .ok (.int .u64 (m : Int)) w := by
        intro w
        rw [binOp_shr, shift_shr _ _ _ _ (by decide) (by decide), show (2 : Int) ^ (Int.toNat 1) = 2 from rfl, hmi]
        rfl
      obtain ⟨ad, hl, rfl, _, _, hat⟩ := ImgV.at_ (h.below hbr) (k := m) (by omega)
      have hx : m < (nms bx).length := by rw [nms_len]; exact hl
      have he : (nms bx)[m] = bx[m].name := nms_at hl hx
      obtain ⟨q, hq⟩ : ∃ q, q = bx[m] := ⟨_, rfl⟩
      rw [← hq] at hat he
      clear hq
      obtain ⟨c0, c1, c2⟩ := hat
      obtain ⟨qi, qs, ql⟩ := q
      dsimp only at c0 c1 c2 he
      have hcl := Lib.hid (fun w => iclos_c ⟨qi, qs, ql⟩ s w)
      have He := Lib.hid he
      clear hm he
      go_wp2_with fail
      refine (hcl.out _).mono ?_
      rintro e w1 ⟨rfl, hb1⟩
      have hbr1 : Below w.heap.size w w1 := hbr.trans (hb1.mono hbr.size)
      clear hcl hb1 c0 c1 c2 hsh hmi
      dsimp only
      have he := He.out
      have hc : Str.cmp qi s = Str.cmp (nms bx)[m] s := by rw [he]
      have Hrise := HR.out
      by_cases hneg : Str.cmp qi s < 0
      · have d1 : decide (Str.cmp qi s < 0) = true := decide_eq_true hneg
        have Hl2 : Hid (∀ (t : Nat) (ht : t < (nms bx).length), t < m + 1 → Str.cmp (nms bx)[t] s < 0) := by
          intro t ht htm
          rcases Nat.lt_or_eq_of_le (Nat.le_of_lt_succ htm) with h | rfl
          · exact Str.cmp_trans (List.pairwise_iff_getElem.1 Hrise t m ht hx h) (by rw [← hc]; omega)
          · rw [← hc]; exact hneg
        clear hc he Hrise hneg
        generalize Str.cmp qi s = y at *
        go_wp2_with fail
        go_roundw
        case rel => exact ⟨m + 1, j, by omega, by omega, by go_num, rfl, hbr1, Hl2, Hh⟩
        case measure => simp [intOf]; omega
      · have d1 : decide (Str.cmp qi s < 0) = false := decide_eq_false hneg
        have Hh2 : Hid (∀ (t : Nat) (ht : t < (nms bx).length), m ≤ t → 0 ≤ Str.cmp (nms bx)[t] s) := by
          intro t ht htm
          refine Int.not_lt.1 fun hlt2 => ?_
          rcases Nat.lt_or_eq_of_le htm with h | rfl
          · have h1 := List.pairwise_iff_getElem.1 Hrise m t hx ht h
            have h2 := Str.cmp_trans h1 (show Str.cmp (nms bx)[t] s ≤ 0 by omega)
            rw [← hc] at h2
            exact hneg h2
          · rw [← hc] at hlt2; exact hneg hlt2
        clear hc he Hrise hneg
        generalize Str.cmp qi s = y at *
        go_wp2_with fail
        go_roundw
        case rel => exact ⟨i, m, by omega, by omega, rfl, rfl, hbr1, Hl, Hh2⟩
        case measure => simp [intOf]; omega
    · obtain rfl : i = j := by omega
      have hpos : Str.pos (nms bx) s = i := Str.pos_at HR.out i (by rw [nms_len]; omega) Hl.out (fun t ht h => Int.not_lt.2 (Hh.out t ht h))
      have d0 : decide ((i : Int) < i) = false := decide_eq_false (by omega)
      by_cases hin : i < n
      · have d2 : decide ((i : Int) < n) = true := decide_eq_true (by omega)
        obtain ⟨ad, hl, rfl, _, _, hat⟩ := ImgV.at_ (h.below hbr) (k := i) hin
        have hx : i < (nms bx).length := by rw [nms_len]; exact hl
        have he : (nms bx)[i] = bx[i].name := nms_at hl hx
        have hhas : Hid (Str.has (nms bx) s = (Str.cmp bx[i].name s == 0)) := by
          show _ = _
          subst hpos
          rw [Str.has_pos HR.out (by rw [nms_len]; omega), he]
        obtain ⟨q, hq⟩ : ∃ q, q = bx[i] := ⟨_, rfl⟩
        rw [← hq] at hat hhas
        have HPi : Hid (P = i) := HP.out.trans hpos
        have HFi : Hid (F = (Str.cmp q.name s == 0)) := HF.out.trans hhas.out
        clear hq he hpos hhas
        obtain ⟨c0, c1, c2⟩ := hat
        obtain ⟨qi, qs, ql⟩ := q
        dsimp only at c0 c1 c2 HFi
        have hcl := Lib.hid (fun w => iclos_c ⟨qi, qs, ql⟩ s w)
        go_wp2_with fail
        refine (hcl.out _).mono ?_
        rintro e w1 ⟨rfl, hb1⟩
        have hbr1 : Below w.heap.size w w1 := hbr.trans (hb1.mono hbr.size)
        clear hcl hb1 c0 c1 c2
        dsimp only
        generalize Str.cmp qi s = y at *
        go_wp2_with fail
        go_ret2
        exact ⟨by rw [HFi.out, HPi.out]; rfl, hbr1⟩
      · have d2 : decide ((i : Int) < n) = false := decide_eq_false (by omega)
        have hhas : Str.has (nms bx) s = false := Str.has_end (by rw [hpos, nms_len]; omega)
        have HPi : Hid (P = i) := HP.out.trans hpos
        have HFi : Hid (F = false) := HF.out.trans hhas
        clear hpos hhas
        go_wp2_with fail
        go_ret2
        exact ⟨by rw [HFi.out, HPi.out]; rfl, hbr⟩
end Wo
end Go.Proofs.Ythccojfflmfggaa
/- The walks of layer 16 (world): slices.Insert at images. -/
namespace Go.Proofs.Ythccojfflmfggaa
open Go.RowKit
namespace Wo
def zI : Value := .agg #[.string ⟨#[]⟩, .int .i64 0, .int .i64 0]
theorem eli : Mem.El Try.prog 31 54 zI 3 32 := ⟨Try.underlying31, by kernel_rfl, rfl, by decide⟩
abbrev IRow (w : World) (A : Option Addr) (n c : Nat) (bx : List ImgV) : Prop := Ro.Row w 54 3 A n c (ImgV.flat bx)
/-- what an insertion answers -/
def InsISaid (A : Option Addr) (n : Nat) (bx : List ImgV) (w : World) (e : Ending) (w' : World) : Prop := ∃ A' c', e = .returned (.slice A' (n + 1) c') ∧ IRow w' A' (n + 1) c' bx ∧ Ro.Only (fun b => Ro.blk A = some b) w w' ∧ (Ro.blk A' = Ro.blk A ∨ ∃ b, Ro.blk A' = some b ∧ w.heap.size ≤ b)
theorem flat_insi (bx : List ImgV) (p : ImgV) (i : Nat) : (ImgV.flat bx).take (i * 3) ++ p.cells ++ (ImgV.flat bx).drop (i * 3) = ImgV.flat (bx.take i ++ p :: bx.drop i) := by
  rw [ImgV.flat_take, ImgV.flat_drop, ImgV.flat_app, ImgV.flat_cons, List.append_assoc]
set_option maxRecDepth 100000 in
set_option maxHeartbeats 4000000 in
theorem inserti_c (A : Option Addr) (n c i vb : Nat) (bx : List ImgV) (p : ImgV) (w : World) (h : IRow w A n c bx) (hi : i ≤ n) (hv : Mem.Blk w vb 54 p.arr) (hvb : ¬ Ro.blk A = some vb) (hn : n ≤ 1000000) :
    Calls Try.prog 57 #[.slice A n c, .int .i64 i, .slice (some ⟨vb, 0, none⟩) 1 1] w (InsISaid A n (bx.take i ++ p :: bx.drop i) w) := by
  have hlen : bx.length = n := by have := h.1; rw [ImgV.flat_len] at this; omega
  have hvs : Mem.Sl w w.heap.size 3 (some ⟨vb, 0, none⟩) 1 p.cells := ⟨rfl, fun _ => ⟨_, rfl, hv.lt, Mem.Cells.of_block hv⟩⟩
  have hp1 : ∀ u ∈ p.cells, u.oneCell' = true := by have := ImgV.flat_one [p]; simpa [ImgV.flat] using this
  have hle := h.le
  have hcm := hle.2
  unfold maxLen at hcm
  rcases Nat.lt_or_eq_of_le hi with hlt | rfl
  · obtain ⟨g, off, rfl⟩ := h.some_of (by omega)
    have hg : ¬ vb = g := fun e => hvb (by rw [e]; rfl)
    have hdl : ((ImgV.flat bx).drop (i * 3)).length = (n - i) * 3 := by rw [List.length_drop, h.1]; omega
    have hone : ∀ u ∈ (ImgV.flat bx).drop (i * 3), u.oneCell' = true := fun u hu => ImgV.flat_one bx u (List.mem_of_mem_drop hu)
    have hfrom := h.from_ i hi
    rw [if_neg (show ¬ c = i by omega)] at hfrom
    have hsrc := hfrom.sl
    by_cases hroom : n + 1 ≤ c
    · -- there is room
      obtain ⟨zs, hzs, hext⟩ : ∃ zs : List Value, zs.length = 3 ∧ Ro.Row w 54 3 (some ⟨g, off, none⟩) (n + 1) c (ImgV.flat bx ++ zs) := by
        obtain ⟨ys, hy, ht⟩ := h.full
        have h2 := hy.cut (n + 1) hroom
        have hyl := hy.1
        refine ⟨(ys.drop (n * 3)).take 3, by simp; omega, ?_⟩
        have e : ImgV.flat bx ++ (ys.drop (n * 3)).take 3 = ys.take ((n + 1) * 3) := by
          rw [← ht, show (n + 1) * 3 = n * 3 + 3 by omega, List.take_add]
        rw [e]; exact h2
      obtain ⟨w1, hr1, hR1, hO1⟩ := Ro.copy_row (P := Try.prog) (t := 31) (ty := 3) (A2 := some ⟨g, off + i * 3, none⟩) (w := w.drew) eli (show Ro.Row w.drew _ 3 _ _ _ _ from hext) (i + 1) (n + 1 - (i + 1)) (c - (i + 1)) (n - i) (n + 1 - i) (c - i) ((ImgV.flat bx).drop (i * 3)) (by simp only [Nat.min_def]; split <;> omega) (by omega) (show Mem.Sl w.drew _ 3 _ _ _ from hsrc) (by omega) hone
      have hv1 : Mem.Blk w1 vb 54 p.arr := (hO1.block vb hv.lt (fun e => hg e)).trans hv
      have hvs1 : Mem.Sl w1 w1.heap.size 3 (some ⟨vb, 0, none⟩) 1 p.cells := ⟨rfl, fun _ => ⟨_, rfl, hv1.lt, Mem.Cells.of_block hv1⟩⟩
      obtain ⟨w2, hr2, hR2, hO2⟩ := Ro.copy_row (P := Try.prog) (t := 31) (ty := 3) (A2 := some ⟨vb, 0, none⟩) (w := w1) eli hR1 i (n + 1 - i) (c - i) 1 1 1 p.cells (by simp only [Nat.min_def]; split <;> omega) (by omega) hvs1 (by omega) hp1
      have hfin : Hid (InsISaid (some ⟨g, off, none⟩) n (bx.take i ++ p :: bx.drop i) w (.returned (.slice (some ⟨g, off, none⟩) (n + 1) c)) w2) := by
        refine ⟨_, _, rfl, ?_, ?_, .inl rfl⟩
        · unfold IRow
          rw [← flat_insi]
          have e := Ro.over_in (xs := ImgV.flat bx) (zs := zs) (v := p.cells) (a := i * 3) (k := 3) (by rw [h.1]; omega) rfl hzs
          rw [show i * 3 + 3 = (i + 1) * 3 by omega] at e
          rw [← e]
          exact hR2
        · exact (hO1.undrew.trans hO2 (fun _ _ c => c)).mono (fun b _ hb => by rw [hb]; rfl)
      have hov : ∀ lb cb, (callFunc 75 #[.slice (some ⟨vb, 0, none⟩) 1 1, .slice (some ⟨g, off + (i + 1) * 3, none⟩) lb cb]).run Try.prog w = .ok (.value (.bool false)) w := fun lb cb => by
        obtain ⟨cur, hcur⟩ := h.type (g := g) rfl
        rw [run_callFunc_extern Try.func75 (by kernel_rfl) (by kernel_rfl) (by kernel_rfl) (e := Extern.SlicesOverlaps.overlaps #[31, 31] #[4]) (by kernel_rfl),
          Lib.run_overlaps_apart w 31 4 54 Try.underlying31 3 (fun w => by rw [Try.sizeOf54]) ⟨vb, 0, none⟩ ⟨g, off + (i + 1) * 3, none⟩ 1 1 lb cb hg _ _ _ _ (Ro.shape_of hv) (Ro.shape_of hcur) (by
            have hc0 := h.cell 0 (by rw [h.1]; omega)
            intro hz
            have hz : cur = #[] := Array.eq_empty_of_size_eq_zero hz
            subst hz
            rw [Nat.add_zero, cell_of_row w g off #[] _ (0, 0) hcur] at hc0
            simp at hc0) (hv.frozen 0) (hv.frozen _)]
        rfl
      clear hR1 hO1 hR2 hO2 hvs1 hv1 hext hfrom hsrc hone hdl hvs hp1 hv h hvb
      have HR1 := hr1
      have hci : ¬ (c = i) := by omega
      have hci1 : ¬ (c = i + 1) := by omega
      have hw1 : IntKind.i64.wrap ((i : Int) + 1) = (i : Int) + 1 := by rw [IntKind.wrap_i64]; omega
      have hw2 : IntKind.i64.wrap ((n : Int) + 1) = (n : Int) + 1 := by rw [IntKind.wrap_i64]; omega
      have htn : ((i : Int) + 1).toNat = i + 1 := by omega
      have hb1 : (0 : Int) ≤ (i : Int) + 1 := by omega
      have hb3 : (i : Int) ≤ (n : Int) + 1 := by omega
      have hz2 : ¬ ((i : Int) = (n : Int)) := by omega
      go_enter Try.func57, Try.ntmps57
      go_wp2_with (simp only [hov])
      go_region_law (refine Ro.step_copy rfl _ _ 31 31 rfl (.slice (some ⟨g, off + (i + 1) * 3, none⟩) (n + 1 - (i + 1)) (c - (i + 1))) (.slice (some ⟨g, off + i * 3, none⟩) (n + 1 - i) (c - i)) (by simp [Act.eval, Act.put]) (by simp [Act.eval, Act.put]) hr1 ?_)
      go_wp2_with (at_builtin; refine Ro.wpList_copy rfl _ _ 31 31 rfl _ _ rfl rfl hr2 ?_)
      go_ret
      exact hfin.out
    · -- there is none
      have hcut := h.cut i hi
      have hq : i + (n + 1 - i) = n + 1 := by omega
      obtain ⟨c1, w1, zs, hr1, hzs, hR1, hO1⟩ := Ro.app_zeros (P := Try.prog) (t := 31) (tn := 3) (ty := 31) eli Try.underlying3 hcut (n + 1 - i) (by omega) (by omega) (by unfold maxLen; omega) (by omega)
      rw [hq] at hr1 hR1
      have hle1 := hR1.le
      have hcm1 := hle1.2
      unfold maxLen at hcm1
      obtain ⟨N, hN⟩ : ∃ N, N = w.heap.size := ⟨_, rfl⟩
      rw [← hN] at hr1 hR1
      have hgN : g < N := by rw [hN]; exact h.lt rfl
      have hvN : vb < N := by rw [hN]; exact hv.lt
      have hz0 : zs.length = 3 + ((ImgV.flat bx).length - i * 3) := by rw [hzs, h.1]; omega
      have hv1 : Mem.Blk w1 vb 54 p.arr := (hO1.block vb hv.lt (fun c => c)).trans hv
      have hvs1 : Mem.Sl w1 w1.heap.size 3 (some ⟨vb, 0, none⟩) 1 p.cells := ⟨rfl, fun _ => ⟨_, rfl, hv1.lt, Mem.Cells.of_block hv1⟩⟩
      obtain ⟨w2, hr2, hR2, hO2⟩ := Ro.copy_row (P := Try.prog) (t := 31) (ty := 3) (A2 := some ⟨vb, 0, none⟩) (w := w1) eli hR1 i (n + 1 - i) (c1 - i) 1 1 1 p.cells (by simp only [Nat.min_def]; split <;> omega) (by omega) hvs1 (by omega) hp1
      have hs1 : Ro.Row w2 54 3 (some ⟨g, off + i * 3, none⟩) (n - i) (c - i) ((ImgV.flat bx).drop (i * 3)) := (hfrom.only hO1 (fun _ _ c => c)).only hO2 (fun b hb e => by
        have : g = b := by simpa [Ro.blk] using hb
        omega)
      obtain ⟨w3, hr3, hR3, hO3⟩ := Ro.copy_row (P := Try.prog) (t := 31) (ty := 3) (A2 := some ⟨g, off + i * 3, none⟩) (w := w2.drew) eli (show Ro.Row w2.drew _ 3 _ _ _ _ from hR2) (i + 1) (n + 1 - (i + 1)) (c1 - (i + 1)) (n - i) (n - i) (c - i) ((ImgV.flat bx).drop (i * 3)) (by simp only [Nat.min_def]; split <;> omega) (by omega) (show Mem.Sl w2.drew _ 3 _ _ _ from hs1.sl) (by omega) hone
      simp only [Nat.zero_add] at hr2 hr3
      have hfin : Hid (InsISaid (some ⟨g, off, none⟩) n (bx.take i ++ p :: bx.drop i) w (.returned (.slice (some ⟨N, 0, none⟩) (n + 1) c1)) w3) := by
        refine ⟨_, _, rfl, ?_, ?_, .inr ⟨N, rfl, by omega⟩⟩
        · unfold IRow
          rw [← flat_insi]
          have e := Ro.over_new (xs := ImgV.flat bx) (zs := zs) (v := p.cells) (a := i * 3) (k := 3) (by rw [h.1]; omega) rfl hz0
          rw [show i * 3 + 3 = (i + 1) * 3 by omega] at e
          rw [← e]
          exact hR3
        · exact ((hO1.trans hO2 (T := fun b => b = N) (fun b hb e => by omega)).trans hO3.undrew (fun b hb e => by omega)).mono (fun b _ c => c.elim)
      have hci : ¬ (c = i) := by omega
      have hci1 : ¬ (c1 = i) := by omega
      have hci2 : ¬ (c1 = i + 1) := by omega
      have hz2 : ¬ ((i : Int) = (n : Int)) := by omega
      have hkk : (n : Int) + 1 - (i : Int) = ((n + 1 - i : Nat) : Int) := by omega
      rw [← hkk] at hr1
      have hw1 : IntKind.i64.wrap ((i : Int) + 1) = (i : Int) + 1 := by rw [IntKind.wrap_i64]; omega
      have htn : ((i : Int) + 1).toNat = i + 1 := by omega
      have hb1 : (0 : Int) ≤ (i : Int) + 1 := by omega
      have hb3 : (i : Int) ≤ (n : Int) := by omega
      clear hkk hR1 hO1 hR2 hO2 hR3 hO3 hvs1 hv1 hs1 hfrom hsrc hone hdl hvs hp1 hv h hvb hN hcut hz0 hzs hq hle1
      go_enter Try.func57, Try.ntmps57
      go_wp2_with (at_builtin; first
        | refine Ro.wpList_app rfl _ _ _ _ rfl _ _ rfl rfl hr1 ?_
        | refine Ro.wpList_copy rfl _ _ 31 31 rfl _ _ rfl rfl hr2 ?_)
      go_region_law (refine Ro.step_copy rfl _ _ 31 31 rfl (.slice (some ⟨N, (i + 1) * 3, none⟩) (n + 1 - (i + 1)) (c1 - (i + 1))) (.slice (some ⟨g, off + i * 3, none⟩) (n - i) (c - i)) (by simp [Act.eval, Act.put]) (by simp [Act.eval, Act.put]) hr3 ?_)
      go_wp2_with fail
      go_ret
      exact hfin.out
  · obtain ⟨A', c', w', hr, hR, hO, hb⟩ := Ro.app (P := Try.prog) (ty := 31) (c2 := 1) eli h hvs hp1 (by unfold maxLen; omega) (by omega)
    have hfin : Hid (InsISaid A i (bx.take i ++ p :: bx.drop i) w (.returned (.slice A' (i + 1) c')) w') := by
      refine ⟨A', c', rfl, ?_, hO, hb.imp id (fun e => ⟨_, e, Nat.le_refl _⟩)⟩
      rw [List.take_of_length_le (by omega), List.drop_of_length_le (by omega)]
      unfold IRow
      rw [ImgV.flat_app, show ImgV.flat [p] = p.cells from by simp [ImgV.flat]]
      exact hR
    clear h hv hvs hp1 hR hO hb hvb hlen
    rcases A with _ | ⟨g, off, sp⟩
    · go_enter Try.func57, Try.ntmps57
      go_wp2_with (at_builtin; refine Ro.wpList_app rfl _ _ _ _ rfl _ _ rfl rfl hr ?_)
      go_ret
      exact hfin.out
    · go_enter Try.func57, Try.ntmps57
      go_wp2_with (at_builtin; refine Ro.wpList_app rfl _ _ _ _ rfl _ _ rfl rfl hr ?_)
      all_goals
        go_ret
        exact hfin.out
end Wo
end Go.Proofs.Ythccojfflmfggaa
/- The walks of layer 16 (world): slices.Delete, slices.Clone at images. -/
namespace Go.Proofs.Ythccojfflmfggaa
open Go.RowKit
namespace Wo
theorem zero_i : ∀ v ∈ zI.cells.toList, v.oneCell' = true := by
  intro v hv
  simp [zI, Value.cells] at hv
  rcases hv with rfl | rfl <;> rfl
/-- what a deletion answers -/
def DelISaid (A : Option Addr) (n c : Nat) (bx : List ImgV) (w : World) (e : Ending) (w' : World) : Prop := e = .returned (.slice A n c) ∧ IRow w' A n c bx ∧ Ro.Only (fun b => Ro.blk A = some b) w w'
set_option maxRecDepth 100000 in
set_option maxHeartbeats 4000000 in
theorem deletei_c (A : Option Addr) (n c i : Nat) (bx : List ImgV) (w : World) (h : IRow w A n c bx) (hi : i < n) (hn : n ≤ 1000000) :
    Calls Try.prog 58 #[.slice A n c, .int .i64 i, .int .i64 ((i : Int) + 1)] w (DelISaid A (n - 1) c (bx.take i ++ bx.drop (i + 1)) w) := by
  have hlen : bx.length = n := by have := h.1; rw [ImgV.flat_len] at this; omega
  have hle := h.le
  have hcm := hle.2
  unfold maxLen at hcm
  obtain ⟨g, off, rfl⟩ := h.some_of (by omega)
  have hcut : Ro.Row w.drew 54 3 (some ⟨g, off, none⟩) i c ((ImgV.flat bx).take (i * 3)) := h.cut i (by omega)
  have hfrom := h.from_ (i + 1) (by omega)
  obtain ⟨w1, hr1, hR1, hO1⟩ := Ro.app_room0 (P := Try.prog) (t := 31) (ty := 31) (c2 := c - (i + 1)) eli hcut (show Mem.Sl w.drew _ 3 _ _ _ from hfrom.sl) (fun u hu => ImgV.flat_one bx u (List.mem_of_mem_drop hu)) (by omega)
  rw [show i + (n - (i + 1)) = n - 1 by omega] at hr1 hR1
  obtain ⟨w2, hr2, hR2, hO2⟩ := Ro.clear_row (P := Try.prog) (t := 31) (ty := 0) (m := 1) (cc := c - (n - 1)) eli zero_i hR1 (by omega) (by omega)
  have hfin : Hid (DelISaid (some ⟨g, off, none⟩) (n - 1) c (bx.take i ++ bx.drop (i + 1)) w (.returned (.slice (some ⟨g, off, none⟩) (n - 1) c)) w2) := by
    refine ⟨rfl, ?_, (hO1.undrew.trans hO2 (fun b _ e => by rw [e]; rfl))⟩
    unfold IRow
    rw [ImgV.flat_app, ← ImgV.flat_take, ← ImgV.flat_drop]
    exact hR2
  have hci : ¬ (c = n - 1) := by omega
  have hz2 : ¬ ((i : Int) = (i : Int) + 1) := by omega
  have htn : ((i : Int) + 1).toNat = i + 1 := by omega
  have hb3 : (i : Int) + 1 ≤ (n : Int) := by omega
  have hnn : (n : Int) - ((n - 1 : Nat) : Int) = 1 := by omega
  clear hR1 hO1 hR2 hO2 hfrom hcut h
  by_cases hc1 : c = i + 1
  · obtain rfl : n = i + 1 := by omega
    subst hc1
    simp only [if_true, Nat.sub_self, Nat.add_sub_cancel] at hr1 hr2 hfin hnn hci
    rw [show i + 1 - i = 1 by omega] at hr2
    clear hci
    have f1 : (i : Int) ≤ (i : Int) + 1 := by omega
    have f2 : i ≤ i + 1 := by omega
    have f5 : (0 : Int) ≤ (i : Int) + 1 := by omega
    go_enter Try.func58, Try.ntmps58
    go_wp2_with fail
    go_region_law (refine Ro.step_app rfl _ _ 31 31 rfl (.slice (some ⟨g, off, none⟩) i (i + 1)) (.slice (some ⟨g, off, none⟩) 0 0) (by simp [Act.eval, Act.put]) (by simp [Act.eval, Act.put]) hr1 ?_)
    go_wp2_with fail
    go_ret
    exact hfin.out
  · rw [if_neg hc1] at hr1
    have hr3 : (Builtin.clear_ #[31] 0 #[.slice (some ⟨g, off + (n - 1) * 3, none⟩) (n - (n - 1)) (c - (n - 1))]).run Try.prog w1 = .ok (.tuple #[]) w2 := by
      rw [show n - (n - 1) = 1 by omega]; exact hr2
    clear hr2
    have f1 : (i : Int) ≤ (c : Int) := by omega
    have f2 : i ≤ c := by omega
    have f5 : (0 : Int) ≤ (i : Int) + 1 := by omega
    have f3 : i ≤ n := by omega
    have f4 : i + 1 ≤ n := by omega
    go_enter Try.func58, Try.ntmps58
    go_wp2_with fail
    go_region_law (refine Ro.step_app rfl _ _ 31 31 rfl (.slice (some ⟨g, off, none⟩) i c) (.slice (some ⟨g, off + (i + 1) * 3, none⟩) (n - (i + 1)) (c - (i + 1))) (by simp [Act.eval, Act.put]) (by simp [Act.eval, Act.put]) hr1 ?_)
    go_wp2_with fail
    go_ret
    exact hfin.out
/-- what a clone is -/
def CloneISaid (n : Nat) (bx : List ImgV) (w : World) (e : Ending) (w' : World) : Prop := ∃ A' c', e = .returned (.slice A' n c') ∧ IRow w' A' n c' bx ∧ Below w.heap.size w w' ∧ ∀ b, Ro.blk A' = some b → w.heap.size ≤ b
set_option maxRecDepth 100000 in
set_option maxHeartbeats 4000000 in
theorem clonei_c (A : Option Addr) (n c : Nat) (bx : List ImgV) (w : World) (h : Mem.Sl w w.heap.size 3 A n (ImgV.flat bx)) (hn : n ≤ 1000000) (hA : A = none → n = 0 ∧ c = 0) :
    Calls Try.prog 37 #[.slice A n c] w (CloneISaid n bx w) := by
  cases A with
  | none =>
    obtain ⟨rfl, rfl⟩ := hA rfl
    have hb : bx = [] := by
      have := h.1
      rw [ImgV.flat_len] at this
      exact List.eq_nil_of_length_eq_zero (by omega)
    subst hb
    have hnil : ∀ w, (binOp .eql 31 (.slice none 0 0) (.slice none 0 0)).run Try.prog w = .ok (.bool true) w := fun w => by kernel_rfl
    go_enter Try.func37, Try.ntmps37
    go_wp2_with fail
    go_ret
    exact ⟨_, _, rfl, Ro.Row.nil, Below.refl _ _, fun b hb => by cases hb⟩
  | some ad =>
    have hnew : Ro.Row (w.alloc (.cells #[] 54)) 54 3 (some ⟨w.heap.size, 0, none⟩) 0 0 [] := Ro.Row.new (cs := #[]) rfl (by decide)
    obtain ⟨A', c', w', hr, hR, hO, hb⟩ := Ro.app (P := Try.prog) (ty := 31) (c2 := c) eli hnew (h.alloc (Nat.le_refl _) _) (ImgV.flat_one bx) (by unfold maxLen; omega) (by omega)
    simp only [Nat.zero_add, List.nil_append] at hr hR
    have hfin : Hid (CloneISaid n bx w (.returned (.slice A' n c')) w') := by
      refine ⟨A', c', rfl, hR, ((Ro.Only.refl (fun _ => False) w).alloc _ |>.trans hO (T := fun b => Ro.blk (some ⟨w.heap.size, 0, none⟩) = some b) (fun k hk e => ?_)).below (Nat.le_refl _) (fun _ _ c => c), fun b hb2 => ?_⟩
      · have : w.heap.size = k := by simpa [Ro.blk] using e
        omega
      · rcases hb with hb | hb
        · rw [hb] at hb2
          have : w.heap.size = b := by simpa [Ro.blk] using hb2
          omega
        · rw [hb] at hb2
          have : (w.alloc (.cells #[] 54)).heap.size = b := by simpa using hb2
          simp at this
          omega
    clear h hnew hR hO hb hA
    have hnil : ∀ w, (binOp .eql 31 (.slice (some ad) n c) (.slice none 0 0)).run Try.prog w = .ok (.bool false) w := fun w => by kernel_rfl
    go_enter Try.func37, Try.ntmps37
    go_wp2_with (at_builtin; refine Ro.wpList_app rfl _ _ _ _ rfl _ _ rfl rfl hr ?_)
    go_ret
    exact hfin.out
end Wo
end Go.Proofs.Ythccojfflmfggaa
/- Words of layer 16 (world): a runtime in memory; the outcomes that wait. -/
namespace Go.Proofs.Ythccojfflmfggaa
open Go.RowKit
namespace Wo
theorem elb : Mem.El Try.prog 22 4 (.bool false) 1 1 := ⟨Try.underlying22, by kernel_rfl, rfl, by decide⟩
abbrev QRow (w : World) (A : Option Addr) (n c : Nat) (bs : List Bool) : Prop := Ro.Row w 4 1 A n c (bs.map Value.bool)
/-- a runtime: its retries, the outcomes that wait, its containers, its images -/
structure St where
  rt : Int
  outs : List Bool
  bx : List ConV
  im : List ImgV
/-- where its parts lie -/
structure AtL (w : World) (g : Nat) (s : St) (S : Nat → Prop) (AQ : Option Addr) (nq cq : Nat) (AB : Option Addr) (nb cb : Nat) (AI : Option Addr) (ni ci : Nat) : Prop where
  blk : Mem.Blk w g 33 #[.slice AQ nq cq, .int .i64 s.rt, .slice AB nb cb, .slice AI ni ci]
  q : QRow w AQ nq cq s.outs
  b : CRow w AB nb cb s.bx
  i : IRow w AI ni ci s.im
  sg : S g
  sq : ∀ k, Ro.blk AQ = some k → S k
  sb : ∀ k, Ro.blk AB = some k → S k
  si : ∀ k, Ro.blk AI = some k → S k
def At (w : World) (g : Nat) (s : St) (S : Nat → Prop) : Prop := ∃ AQ nq cq AB nb cb AI ni ci, AtL w g s S AQ nq cq AB nb cb AI ni ci
/-- what is the runtime's then: what was, and what was made -/
def ext (S : Nat → Prop) (w w' : World) (k : Nat) : Prop := S k ∨ (w.heap.size ≤ k ∧ k < w'.heap.size)
structure Post (S : Nat → Prop) (w w' : World) (g : Nat) (s : St) : Prop where
  at_ : At w' g s (ext S w w')
  only : Ro.Only S w w'
section
variable {w w' w1 : World} {g : Nat} {s : St} {S T : Nat → Prop} {AQ AB AI : Option Addr} {nq cq nb cb ni ci : Nat}
theorem AtL.mono (h : AtL w g s S AQ nq cq AB nb cb AI ni ci) (hS : ∀ k, k < w.heap.size → S k → T k) : AtL w g s T AQ nq cq AB nb cb AI ni ci :=
  ⟨h.blk, h.q, h.b, h.i, hS _ h.blk.lt h.sg, fun k hk => hS k (h.q.lt hk) (h.sq k hk), fun k hk => hS k (h.b.lt hk) (h.sb k hk), fun k hk => hS k (h.i.lt hk) (h.si k hk)⟩
theorem AtL.keep (h : AtL w g s S AQ nq cq AB nb cb AI ni ci) (hk : ∀ k, k < w.heap.size → S k → w'.heap[k]? = w.heap[k]?) : AtL w' g s S AQ nq cq AB nb cb AI ni ci :=
  ⟨(hk g h.blk.lt h.sg).trans h.blk, h.q.keep fun k e => hk k (h.q.lt e) (h.sq k e), h.b.keep fun k e => hk k (h.b.lt e) (h.sb k e), h.i.keep fun k e => hk k (h.i.lt e) (h.si k e), h.sg, h.sq, h.sb, h.si⟩
theorem At.keep (h : At w g s S) (hk : ∀ k, k < w.heap.size → S k → w'.heap[k]? = w.heap[k]?) : At w' g s S := by
  obtain ⟨_, _, _, _, _, _, _, _, _, h⟩ := h
  exact ⟨_, _, _, _, _, _, _, _, _, h.keep hk⟩
theorem At.mono (h : At w g s S) (hS : ∀ k, k < w.heap.size → S k → T k) : At w g s T := by
  obtain ⟨_, _, _, _, _, _, _, _, _, h⟩ := h
  exact ⟨_, _, _, _, _, _, _, _, _, h.mono hS⟩
theorem At.below (h : At w g s S) (hb : Below w.heap.size w w') : At w' g s S := h.keep fun k hk _ => hb.block k hk
theorem At.lt (h : At w g s S) : g < w.heap.size := by
  obtain ⟨_, _, _, _, _, _, _, _, _, h⟩ := h
  exact h.blk.lt
theorem Post.of_below (h : At w g s S) (hb : Below w.heap.size w w') : Post S w w' g s := ⟨(h.below hb).mono fun _ _ c => .inl c, .of_below hb⟩
theorem ext_trans {k : Nat} (h1 : w.heap.size ≤ w1.heap.size) (h2 : w1.heap.size ≤ w'.heap.size) (h : ext (ext S w w1) w1 w' k) : ext S w w' k := by
  rcases h with (h | h) | h
  · exact .inl h
  · exact .inr ⟨h.1, by omega⟩
  · exact .inr ⟨by omega, h.2⟩
theorem Post.trans {s1 : St} (h : Post S w w1 g s1) (h2 : Post (ext S w w1) w1 w' g s) : Post S w w' g s :=
  ⟨h2.at_.mono fun _ _ c => ext_trans h.only.size h2.only.size c, h.only.trans h2.only fun k hk c => by
    rcases c with c | c
    · exact c
    · omega⟩
theorem Post.mono_S (h : Post S w w' g s) (hS : ∀ k, S k → T k) : Post T w w' g s :=
  ⟨h.at_.mono fun k _ c => c.imp (hS k) id, h.only.mono fun k _ c => hS k c⟩
theorem Post.of_only {s1 : St} (h : At w' g s1 (ext S w w')) (ho : Ro.Only S w w') : Post S w w' g s1 := ⟨h, ho⟩
/-- a field is stored -/
theorem AtL.setQ (h : AtL w g s S AQ nq cq AB nb cb AI ni ci) {A : Option Addr} {n c : Nat} {outs : List Bool} (hR : QRow w A n c outs) (hS : ∀ k, Ro.blk A = some k → S k) :
    AtL (w.setCell ⟨g, 0, none⟩ (.slice A n c)) g { s with outs := outs } S A n c AB nb cb AI ni ci :=
  ⟨h.blk.set_ 0 _, hR.only (Ro.Only.setCell _ _ _) (hR.apartB h.blk (by decide)), h.b.only (Ro.Only.setCell _ _ _) (h.b.apartB h.blk (by decide)), h.i.only (Ro.Only.setCell _ _ _) (h.i.apartB h.blk (by decide)), h.sg, hS, h.sb, h.si⟩
theorem AtL.setB (h : AtL w g s S AQ nq cq AB nb cb AI ni ci) {A : Option Addr} {n c : Nat} {bx : List ConV} (hR : CRow w A n c bx) (hS : ∀ k, Ro.blk A = some k → S k) :
    AtL (w.setCell ⟨g, 2, none⟩ (.slice A n c)) g { s with bx := bx } S AQ nq cq A n c AI ni ci :=
  ⟨h.blk.set_ 2 _, h.q.only (Ro.Only.setCell _ _ _) (h.q.apartB h.blk (by decide)), hR.only (Ro.Only.setCell _ _ _) (hR.apartB h.blk (by decide)), h.i.only (Ro.Only.setCell _ _ _) (h.i.apartB h.blk (by decide)), h.sg, h.sq, hS, h.si⟩
theorem AtL.setI (h : AtL w g s S AQ nq cq AB nb cb AI ni ci) {A : Option Addr} {n c : Nat} {im : List ImgV} (hR : IRow w A n c im) (hS : ∀ k, Ro.blk A = some k → S k) :
    AtL (w.setCell ⟨g, 3, none⟩ (.slice A n c)) g { s with im := im } S AQ nq cq AB nb cb A n c :=
  ⟨h.blk.set_ 3 _, h.q.only (Ro.Only.setCell _ _ _) (h.q.apartB h.blk (by decide)), h.b.only (Ro.Only.setCell _ _ _) (h.b.apartB h.blk (by decide)), hR.only (Ro.Only.setCell _ _ _) (hR.apartB h.blk (by decide)), h.sg, h.sq, h.sb, hS⟩
/-- the queue's block is turned, or a new one is made: the rest stays -/
theorem AtL.onlyQ (h : AtL w g s S AQ nq cq AB nb cb AI ni ci) (ho : Ro.Only (fun k => Ro.blk AQ = some k) w w') :
    Mem.Blk w' g 33 #[.slice AQ nq cq, .int .i64 s.rt, .slice AB nb cb, .slice AI ni ci] ∧ CRow w' AB nb cb s.bx ∧ IRow w' AI ni ci s.im :=
  ⟨(ho.block g h.blk.lt (fun e => h.q.apartB h.blk (by decide) g e rfl)).trans h.blk, h.b.only ho (h.b.apart h.q (by decide)), h.i.only ho (h.i.apart h.q (by decide))⟩
theorem AtL.onlyB (h : AtL w g s S AQ nq cq AB nb cb AI ni ci) (ho : Ro.Only (fun k => Ro.blk AB = some k) w w') :
    Mem.Blk w' g 33 #[.slice AQ nq cq, .int .i64 s.rt, .slice AB nb cb, .slice AI ni ci] ∧ QRow w' AQ nq cq s.outs ∧ IRow w' AI ni ci s.im :=
  ⟨(ho.block g h.blk.lt (fun e => h.b.apartB h.blk (by decide) g e rfl)).trans h.blk, h.q.only ho (h.q.apart h.b (by decide)), h.i.only ho (h.i.apart h.b (by decide))⟩
theorem AtL.lens (h : AtL w g s S AQ nq cq AB nb cb AI ni ci) : s.outs.length = nq ∧ s.bx.length = nb ∧ s.im.length = ni := by
  have h1 := h.q.1
  have h2 := h.b.1
  have h3 := h.i.1
  rw [ConV.flat_len] at h2
  rw [ImgV.flat_len] at h3
  simp at h1
  omega
end
/-- the first outcome -/
def tk : List Bool → Bool
  | [] => true
  | x :: _ => x
set_option maxRecDepth 100000 in
set_option maxHeartbeats 4000000 in
theorem take_c (g : Nat) (s : St) (S : Nat → Prop) (w : World) (h : At w g s S) :
    Calls Try.prog 32 #[.pointer (some ⟨g, 0, none⟩)] w fun e w' => e = .returned (.bool (tk s.outs)) ∧ Post S w w' g { s with outs := s.outs.tail } := by
  obtain ⟨AQ, nq, cq, AB, nb, cb, AI, ni, ci, h⟩ := h
  obtain ⟨l1, _, _⟩ := h.lens
  have m0 : w.cell? ⟨g, 0, none⟩ = some (.slice AQ nq cq) := h.blk.cell 0
  have f0 := h.blk.frozen 0
  have hle := h.q.le
  have hcm := hle.2
  unfold maxLen at hcm
  obtain ⟨rt, outs, bx, im⟩ := s
  dsimp only at *
  cases outs with
  | nil =>
    obtain rfl : nq = 0 := by simpa using l1.symm
    have hp : Hid (Post S w w g ⟨rt, [], bx, im⟩) := Post.of_below ⟨_, _, _, _, _, _, _, _, _, h⟩ (Below.refl _ _)
    clear h
    go_enter Try.func32, Try.ntmps32
    go_wp2_with fail
    go_ret
    exact ⟨rfl, hp.out⟩
  | cons x outs =>
    have hn : 0 < nq := by simp at l1; omega
    obtain ⟨g', off, rfl⟩ := h.q.some_of (by omega)
    have hc0 : w.cell? ⟨g', off, none⟩ = some (.bool x) := h.q.cell 0 (by simp)
    have hfrom := h.q.from_ 1 (by omega)
    have hsl : Hid (∀ A, A = (if cq = 1 then some (⟨g', off, none⟩ : Addr) else some ⟨g', off + 1, none⟩) → Post S w (w.setCell ⟨g, 0, none⟩ (.slice A (nq - 1) (cq - 1))) g ⟨rt, outs, bx, im⟩) := by
      rintro A rfl
      have hR : QRow w (if cq = 1 then some (⟨g', off, none⟩ : Addr) else some ⟨g', off + 1, none⟩) (nq - 1) (cq - 1) outs := by
        have e : ((x :: outs).map Value.bool).drop (1 * 1) = outs.map Value.bool := by simp
        rw [Nat.one_mul] at hfrom e
        rw [e] at hfrom
        exact hfrom
      have hS := h.sq
      have h2 := h.setQ hR (fun k hk => hS k (by split at hk <;> exact hk))
      refine ⟨(show At _ g ⟨rt, outs, bx, im⟩ S from ⟨_, _, _, _, _, _, _, _, _, h2⟩).mono fun _ _ c => .inl c, (Ro.Only.setCell _ _ _).mono fun k _ e => by rw [e]; exact h.sg⟩
    have d : ((nq : Int) == 0) = false := beq_eq_false_iff_ne.2 (by omega)
    clear hfrom h
    by_cases hc1 : cq = 1
    · subst hc1
      have hp := Lib.hid (hsl.out _ rfl)
      obtain rfl : nq = 1 := by omega
      simp only [if_true, Nat.sub_self] at hp
      clear hsl
      go_enter Try.func32, Try.ntmps32
      go_wp2_with fail
      go_ret
      exact ⟨rfl, hp.out⟩
    · have hp := Lib.hid (hsl.out _ rfl)
      rw [if_neg hc1] at hp
      clear hsl
      go_enter Try.func32, Try.ntmps32
      go_wp2_with fail
      go_ret
      exact ⟨rfl, hp.out⟩
set_option maxRecDepth 100000 in
set_option maxHeartbeats 4000000 in
theorem feed_c (g : Nat) (s : St) (S : Nat → Prop) (A : Option Addr) (n c : Nat) (bs : List Bool) (w : World) (h : At w g s S) (hw : Mem.Sl w w.heap.size 1 A n (bs.map Value.bool)) (hn : n ≤ 1000000) (ho : s.outs.length ≤ 4096) :
    Calls Try.prog 13 #[.pointer (some ⟨g, 0, none⟩), .slice A n c] w fun e w' => (4096 < s.outs.length + n → e = .returned (.int .i64 6) ∧ Post S w w' g s) ∧ (s.outs.length + n ≤ 4096 → e = .returned (.int .i64 0) ∧ Post S w w' g { s with outs := s.outs ++ bs }) := by
  obtain ⟨AQ, nq, cq, AB, nb, cb, AI, ni, ci, h⟩ := h
  obtain ⟨l1, _, _⟩ := h.lens
  have m0 : w.cell? ⟨g, 0, none⟩ = some (.slice AQ nq cq) := h.blk.cell 0
  have hle := h.q.le
  by_cases hf : 4096 < s.outs.length + n
  · have d : decide ((nq : Int) + (n : Int) > 4096) = true := decide_eq_true (by omega)
    have hp : Hid (Post S w w g s) := Post.of_below ⟨_, _, _, _, _, _, _, _, _, h⟩ (Below.refl _ _)
    have HF := Lib.hid hf
    clear h hw hf
    go_enter Try.func13, Try.ntmps13
    go_wp2_with fail
    go_ret
    exact ⟨fun _ => ⟨rfl, hp.out⟩, fun c => by have := HF.out; omega⟩
  · have d : decide ((nq : Int) + (n : Int) > 4096) = false := decide_eq_false (by omega)
    obtain ⟨A', c', w1, hr, hR, hO, hb⟩ := Ro.app (P := Try.prog) (ty := 22) (c2 := c) elb h.q hw (by intro u hu; obtain ⟨b, _, rfl⟩ := List.mem_map.1 hu; rfl) (by unfold maxLen; omega) (by omega)
    obtain ⟨hB, hb2, hi2⟩ := h.onlyQ hO
    have m1 : w1.cell? ⟨g, 0, none⟩ = some (.slice AQ nq cq) := hB.cell 0
    have f1 := hB.frozen 0
    have hlt : ∀ k, Ro.blk A' = some k → k < w1.heap.size := fun k hk => hR.lt hk
    have hsz := hO.size
    have hp : Hid (Post S w (w1.setCell ⟨g, 0, none⟩ (.slice A' (nq + n) c')) g { s with outs := s.outs ++ bs }) := by
      have h2 : AtL w1 g s (ext S w w1) AQ nq cq AB nb cb AI ni ci ∨ True := .inr trivial
      have hnew : ∀ k, Ro.blk A' = some k → ext S w w1 k := by
        intro k hk
        rcases hb with hb | hb
        · exact .inl (h.sq k (by rw [← hb]; exact hk))
        · rw [hb] at hk
          have : w.heap.size = k := by simpa using hk
          exact .inr ⟨by omega, hlt k (by rw [hb]; exact hk)⟩
      have hR' : QRow w1 A' (nq + n) c' (s.outs ++ bs) := by unfold QRow; rw [List.map_append]; exact hR
      have hat : AtL (w1.setCell ⟨g, 0, none⟩ (.slice A' (nq + n) c')) g { s with outs := s.outs ++ bs } (ext S w w1) A' (nq + n) c' AB nb cb AI ni ci :=
        ⟨hB.set_ 0 _, hR'.only (Ro.Only.setCell _ _ _) (hR'.apartB hB (by decide)), hb2.only (Ro.Only.setCell _ _ _) (hb2.apartB hB (by decide)), hi2.only (Ro.Only.setCell _ _ _) (hi2.apartB hB (by decide)), .inl h.sg, hnew, fun k hk => .inl (h.sb k hk), fun k hk => .inl (h.si k hk)⟩
      refine ⟨(show At _ g _ (ext S w w1) from ⟨_, _, _, _, _, _, _, _, _, hat⟩).mono fun k _ c => ?_, (hO.mono (fun k _ e => h.sq k e)).trans (Ro.Only.setCell _ _ _) fun k _ e => by rw [e]; exact h.sg⟩
      rcases c with c | c
      · exact .inl c
      · exact .inr ⟨c.1, by simpa using c.2⟩
    have HF := Lib.hid hf
    clear h hw hf hR hO hb hB hb2 hi2 hlt
    go_enter Try.func13, Try.ntmps13
    go_wp2_with (at_builtin; refine Ro.wpList_app rfl _ _ _ _ rfl _ _ rfl rfl hr ?_)
    go_ret
    exact ⟨fun c => absurd c HF.out, fun _ => ⟨rfl, hp.out⟩⟩
end Wo
end Go.Proofs.Ythccojfflmfggaa
/- The plain law of layer 1 (sat): numbers that stop at Most. No Go in sight. -/
namespace Go.Proofs.Ythccojfflmfggaa
namespace Sat
/-- what is handed in, as a number -/
def num (a : Int) : Int := if a < 0 then 0 else a
def cut (n : Int) : Int := if n ≤ 9223372036854775807 then n else 9223372036854775807
def add (a b : Int) : Int := cut (num a + num b)
def mul (a b : Int) : Int := cut (num a * num b)
def less (a b : Int) : Int := if num a < num b then 0 else num a - num b
def sum (l : List Int) : Int := l.foldl add 0
theorem num_nonneg (a : Int) : 0 ≤ num a := by unfold num; split <;> omega
theorem num_le (a : Int) (h : a ≤ 9223372036854775807) : num a ≤ 9223372036854775807 := by unfold num; split <;> omega
theorem num_id (a : Int) (h : 0 ≤ a) : num a = a := by unfold num; split <;> omega
theorem cut_bd (a : Int) (h : 0 ≤ a) : 0 ≤ cut a ∧ cut a ≤ 9223372036854775807 := by unfold cut; split <;> omega
theorem cut_cut (a : Int) : cut (cut a) = cut a := by unfold cut; split <;> simp_all
theorem add_bd (a b : Int) : 0 ≤ add a b ∧ add a b ≤ 9223372036854775807 := by
  have := num_nonneg a; have := num_nonneg b; unfold add; exact cut_bd _ (by omega)
theorem mul_bd (a b : Int) : 0 ≤ mul a b ∧ mul a b ≤ 9223372036854775807 := by
  have := num_nonneg a; have := num_nonneg b; unfold mul; exact cut_bd _ (Int.mul_nonneg (num_nonneg a) (num_nonneg b))
theorem less_bd (a b : Int) (ha : a ≤ 9223372036854775807) : 0 ≤ less a b ∧ less a b ≤ 9223372036854775807 := by
  have := num_nonneg a; have := num_nonneg b; have := num_le a ha; unfold less; split <;> omega

theorem mul_over {a b : Int} (hb : 0 < num b) (h : 9223372036854775807 / num b < num a) : mul a b = 9223372036854775807 := by
  have h1 := (Int.ediv_lt_iff_lt_mul hb).1 h
  unfold mul cut
  rw [if_neg (by omega)]
theorem mul_under {a b : Int} (hb : 0 < num b) (h : num a ≤ 9223372036854775807 / num b) : mul a b = num a * num b ∧ 0 ≤ num a * num b ∧ num a * num b ≤ 9223372036854775807 := by
  have h1 := (Int.le_ediv_iff_mul_le hb).1 h
  unfold mul cut
  rw [if_pos (by omega)]
  exact ⟨rfl, Int.mul_nonneg (num_nonneg a) (num_nonneg b), h1⟩
theorem mul_none {a b : Int} (hb : num b ≤ 0) : mul a b = 0 ∧ num a * num b = 0 := by
  have h0 : num b = 0 := by have := num_nonneg b; omega
  unfold mul cut
  rw [h0, Int.mul_zero]
  exact ⟨rfl, rfl⟩

/-- by doubling: what stays, round by round -/
theorem double_step {x y o : Int} (hx : 0 ≤ x) (hxm : x ≤ 9223372036854775807) (hy : 0 < y) (ho : 0 ≤ o) :
    cut (o + x * y) = cut ((if y % 2 = 1 then cut (o + x) else o) + cut (x + x) * (y / 2)) := by
  have e : y = 2 * (y / 2) + y % 2 := by omega
  have hq : 0 ≤ y / 2 := by omega
  generalize hk : y / 2 = k at *
  have hm : y % 2 = 0 ∨ y % 2 = 1 := by omega
  have exy : x * y = 2 * (x * k) + x * (y % 2) := by
    rw [e, Int.mul_add]
    have : x * (2 * k) = 2 * (x * k) := by rw [Int.mul_left_comm]
    rw [this]
    have : (2 * k + y % 2) % 2 = y % 2 := by omega
    rw [this]
  have hxk : 0 ≤ x * k := Int.mul_nonneg hx hq
  have e2 : (x + x) * k = 2 * (x * k) := by rw [← Int.two_mul, Int.mul_assoc]
  rcases Int.lt_or_le 9223372036854775807 (x + x) with hbig | hbig
  · have hc : cut (x + x) = 9223372036854775807 := by unfold cut; rw [if_neg (by omega)]
    rw [hc]
    rcases Int.lt_or_le 0 k with hk0 | hk0
    · have h1 : x + x ≤ 2 * (x * k) := by
        have : x * 1 ≤ x * k := Int.mul_le_mul_of_nonneg_left (by omega) hx
        omega
      have h2 : (9223372036854775807 : Int) ≤ 9223372036854775807 * k := by omega
      have h3 : 0 ≤ cut (o + x) := (cut_bd _ (by omega)).1
      have h4 : 0 ≤ x * (y % 2) := Int.mul_nonneg hx (by omega)
      have l : cut (o + x * y) = 9223372036854775807 := by unfold cut; split <;> omega
      rw [l]
      unfold cut at *
      split <;> split <;> first | omega | (split at h3 <;> omega)
    · have hk1 : k = 0 := by omega
      subst hk1
      have hy1 : y % 2 = 1 := by omega
      have ey : y = 1 := by omega
      subst ey
      simp only [Int.mul_zero, Int.add_zero, Int.mul_one]
      rw [if_pos (by omega), cut_cut]
  · have hc : cut (x + x) = x + x := by unfold cut; rw [if_pos hbig]
    rw [hc, e2, exy]
    rcases hm with hm | hm
    · rw [hm, Int.mul_zero, if_neg (by omega), Int.add_zero]
    · rw [hm, Int.mul_one, if_pos rfl]
      unfold cut
      split <;> split <;> (try split) <;> omega
theorem if_cut (a : Int) : (if a ≤ 9223372036854775807 then a else 9223372036854775807) = cut a := rfl
theorem cut_small {a : Int} (h : a ≤ 9223372036854775807) : cut a = a := by unfold cut; rw [if_pos h]

theorem sum_nil : sum [] = 0 := rfl
theorem sum_snoc (l : List Int) (a : Int) : sum (l ++ [a]) = add (sum l) a := by unfold sum; rw [List.foldl_append]; rfl
theorem sum_bd (l : List Int) : 0 ≤ sum l ∧ sum l ≤ 9223372036854775807 := by
  rcases List.eq_nil_or_concat l with h | ⟨l', a, h⟩
  · subst h; decide
  · subst h; rw [List.concat_eq_append, sum_snoc]; exact add_bd _ _
end Sat
end Go.Proofs.Ythccojfflmfggaa
/- The walks of layer 1 (sat). -/
namespace Go.Proofs.Ythccojfflmfggaa
open Go.RowKit
namespace Sat
theorem ret_int {k : IntKind} {a b : Int} (h : a = b) : Ending.returned (.int k a) = .returned (.int k b) := by rw [h]
theorem ret_bool {a b : Bool} (h : a = b) : Ending.returned (.bool a) = .returned (.bool b) := by rw [h]

theorem number_c (a : Int) (w : World) : Calls Try.prog 82 #[.int .i64 a] w fun e w' => e = .returned (.int .i64 (num a)) ∧ w = w' := by
  go_enter Try.func82, Try.ntmps82
  go_wp2
  · go_ret
    exact ⟨ret_int (by unfold num; split <;> omega), rfl⟩
  · go_ret
    exact ⟨ret_int (by unfold num; split <;> omega), rfl⟩

theorem add_c (a b : Int) (w : World) (ha : a ≤ 9223372036854775807) (hb : b ≤ 9223372036854775807) :
    Calls Try.prog 74 #[.int .i64 a, .int .i64 b] w fun e w' => e = .returned (.int .i64 (add a b)) ∧ w = w' := by
  have h1 := num_nonneg a
  have h2 := num_nonneg b
  have h3 := num_le a ha
  have h4 := num_le b hb
  go_enter Try.func74, Try.ntmps74
  go_wp2_with (go_at_call 82; refine (number_c _ _).mono ?_; rintro e w' ⟨rfl, rfl⟩)
  all_goals
    go_ret
    exact ⟨ret_int (by unfold add cut; split <;> omega), rfl⟩

theorem rnumber_c (a : Int) (w : World) (ha : a ≤ 9223372036854775807) : Calls Try.prog 87 #[.int .i64 a] w fun e w' => e = .returned (.int .u64 (num a)) ∧ w = w' := by
  by_cases h : a < 0
  · go_enter Try.func87, Try.ntmps87
    go_wp2
    go_ret
    exact ⟨ret_int (by unfold num; split <;> omega), rfl⟩
  · go_enter Try.func87, Try.ntmps87
    go_wp2
    go_ret
    exact ⟨ret_int (by unfold num; split <;> omega), rfl⟩

theorem rheld_c (a : Int) (w : World) (ha : 0 ≤ a) : Calls Try.prog 86 #[.int .u64 a] w fun e w' => e = .returned (.int .i64 (cut a)) ∧ w = w' := by
  by_cases h : 9223372036854775807 < a
  · go_enter Try.func86, Try.ntmps86
    go_wp2
    go_ret
    exact ⟨ret_int (by unfold cut; split <;> omega), rfl⟩
  · go_enter Try.func86, Try.ntmps86
    go_wp2
    go_ret
    exact ⟨ret_int (by unfold cut; split <;> omega), rfl⟩

theorem radd_c (a b : Int) (w : World) (ha : a ≤ 9223372036854775807) (hb : b ≤ 9223372036854775807) :
    Calls Try.prog 84 #[.int .i64 a, .int .i64 b] w fun e w' => e = .returned (.int .i64 (add a b)) ∧ w = w' := by
  have h1 := num_nonneg a
  have h2 := num_nonneg b
  have h3 := num_le a ha
  have h4 := num_le b hb
  go_enter Try.func84, Try.ntmps84
  go_wp2_with (first | (go_at_call 87; refine (rnumber_c _ _ (by omega)).mono ?_; rintro e w' ⟨rfl, rfl⟩) | (go_at_call 86; refine (rheld_c _ _ (by omega)).mono ?_; rintro e w' ⟨rfl, rfl⟩))
  go_ret
  exact ⟨rfl, rfl⟩

end Sat
end Go.Proofs.Ythccojfflmfggaa
