/- The walks of layer 16 (world): slices.Insert at images. -/
import Derived.Test.YthccojfflmfggaaRows
import Derived.WalkKit
import Derived.BigQuiet
import Derived.Deep.QuietTactic
import Derived.WalkLawsBesides
import Derived.WalkSpells
import Derived.OwnWalk
import Derived.Lib.Hide
import Derived.Laws.Externs
import Derived.Test.YthccojfflmfggaaRowP
import Derived.Test.YthccojfflmfggaaSearchI
namespace Go.Proofs.Ythccojfflmfggaa
open Go.RowKit
namespace Wo
def zI : Value := .agg #[.string ⟨#[]⟩, .int .i64 0, .int .i64 0]
theorem eli : Mem.El Try.prog 31 54 zI 3 32 := ⟨Try.underlying31, by kernel_rfl, rfl, by decide⟩
abbrev IRow (w : World) (A : Option Addr) (n c : Nat) (bx : List ImgV) : Prop := Ro.Row w 54 3 A n c (ImgV.flat bx)
/-- what an insertion answers -/
def InsISaid (A : Option Addr) (n : Nat) (bx : List ImgV) (w : World) (e : Ending) (w' : World) : Prop := ∃ A' c', e = .returned (.slice A' (n + 1) c') ∧ IRow w' A' (n + 1) c' bx ∧ Ro.Only (fun b => Ro.blk A = some b) w w' ∧ (Ro.blk A' = Ro.blk A ∨ ∃ b, Ro.blk A' = some b ∧ w.heap.size ≤ b)
theorem flat_insi (bx : List ImgV) (p : ImgV) (i : Nat) : (ImgV.flat bx).take (i * 3) ++ p.cells ++ (ImgV.flat bx).drop (i * 3) = ImgV.flat (bx.take i ++ p :: bx.drop i) := by
  rw [ImgV.flat_take, ImgV.flat_drop, ImgV.flat_app, ImgV.flat_cons, List.append_assoc]
set_option maxRecDepth 100000 in
set_option maxHeartbeats 4000000 in
theorem inserti_c (A : Option Addr) (n c i vb : Nat) (bx : List ImgV) (p : ImgV) (w : World) (h : IRow w A n c bx) (hi : i ≤ n) (hv : Mem.Blk w vb 54 p.arr) (hvb : ¬ Ro.blk A = some vb) (hn : n ≤ 1000000) :
    Calls Try.prog 57 #[.slice A n c, .int .i64 i, .slice (some ⟨vb, 0, none⟩) 1 1] w (InsISaid A n (bx.take i ++ p :: bx.drop i) w) := by
  have hlen : bx.length = n := by have := h.1; rw [ImgV.flat_len] at this; omega
  have hvs : Mem.Sl w w.heap.size 3 (some ⟨vb, 0, none⟩) 1 p.cells := ⟨rfl, fun _ => ⟨_, rfl, hv.lt, Mem.Cells.of_block hv⟩⟩
  have hp1 : ∀ u ∈ p.cells, u.oneCell' = true := by have := ImgV.flat_one [p]; simpa [ImgV.flat] using this
  have hle := h.le
  have hcm := hle.2
  unfold maxLen at hcm
  rcases Nat.lt_or_eq_of_le hi with hlt | rfl
  · obtain ⟨g, off, rfl⟩ := h.some_of (by omega)
    have hg : ¬ vb = g := fun e => hvb (by rw [e]; rfl)
    have hdl : ((ImgV.flat bx).drop (i * 3)).length = (n - i) * 3 := by rw [List.length_drop, h.1]; omega
    have hone : ∀ u ∈ (ImgV.flat bx).drop (i * 3), u.oneCell' = true := fun u hu => ImgV.flat_one bx u (List.mem_of_mem_drop hu)
    have hfrom := h.from_ i hi
    rw [if_neg (show ¬ c = i by omega)] at hfrom
    have hsrc := hfrom.sl
    by_cases hroom : n + 1 ≤ c
    · -- there is room
      obtain ⟨zs, hzs, hext⟩ : ∃ zs : List Value, zs.length = 3 ∧ Ro.Row w 54 3 (some ⟨g, off, none⟩) (n + 1) c (ImgV.flat bx ++ zs) := by
        obtain ⟨ys, hy, ht⟩ := h.full
        have h2 := hy.cut (n + 1) hroom
        have hyl := hy.1
        refine ⟨(ys.drop (n * 3)).take 3, by simp; omega, ?_⟩
        have e : ImgV.flat bx ++ (ys.drop (n * 3)).take 3 = ys.take ((n + 1) * 3) := by
          rw [← ht, show (n + 1) * 3 = n * 3 + 3 by omega, List.take_add]
        rw [e]; exact h2
      obtain ⟨w1, hr1, hR1, hO1⟩ := Ro.copy_row (P := Try.prog) (t := 31) (ty := 3) (A2 := some ⟨g, off + i * 3, none⟩) (w := w.drew) eli (show Ro.Row w.drew _ 3 _ _ _ _ from hext) (i + 1) (n + 1 - (i + 1)) (c - (i + 1)) (n - i) (n + 1 - i) (c - i) ((ImgV.flat bx).drop (i * 3)) (by simp only [Nat.min_def]; split <;> omega) (by omega) (show Mem.Sl w.drew _ 3 _ _ _ from hsrc) (by omega) hone
      have hv1 : Mem.Blk w1 vb 54 p.arr := (hO1.block vb hv.lt (fun e => hg e)).trans hv
      have hvs1 : Mem.Sl w1 w1.heap.size 3 (some ⟨vb, 0, none⟩) 1 p.cells := ⟨rfl, fun _ => ⟨_, rfl, hv1.lt, Mem.Cells.of_block hv1⟩⟩
      obtain ⟨w2, hr2, hR2, hO2⟩ := Ro.copy_row (P := Try.prog) (t := 31) (ty := 3) (A2 := some ⟨vb, 0, none⟩) (w := w1) eli hR1 i (n + 1 - i) (c - i) 1 1 1 p.cells (by simp only [Nat.min_def]; split <;> omega) (by omega) hvs1 (by omega) hp1
      have hfin : Hid (InsISaid (some ⟨g, off, none⟩) n (bx.take i ++ p :: bx.drop i) w (.returned (.slice (some ⟨g, off, none⟩) (n + 1) c)) w2) := by
        refine ⟨_, _, rfl, ?_, ?_, .inl rfl⟩
        · unfold IRow
          rw [← flat_insi]
          have e := Ro.over_in (xs := ImgV.flat bx) (zs := zs) (v := p.cells) (a := i * 3) (k := 3) (by rw [h.1]; omega) rfl hzs
          rw [show i * 3 + 3 = (i + 1) * 3 by omega] at e
          rw [← e]
          exact hR2
        · exact (hO1.undrew.trans hO2 (fun _ _ c => c)).mono (fun b _ hb => by rw [hb]; rfl)
      have hov : ∀ lb cb, (callFunc 75 #[.slice (some ⟨vb, 0, none⟩) 1 1, .slice (some ⟨g, off + (i + 1) * 3, none⟩) lb cb]).run Try.prog w = .ok (.value (.bool false)) w := fun lb cb => by
        obtain ⟨cur, hcur⟩ := h.type (g := g) rfl
        rw [run_callFunc_extern Try.func75 (by kernel_rfl) (by kernel_rfl) (by kernel_rfl) (e := Extern.SlicesOverlaps.overlaps #[31, 31] #[4]) (by kernel_rfl),
          Lib.run_overlaps_apart w 31 4 54 Try.underlying31 3 (fun w => by rw [Try.sizeOf54]) ⟨vb, 0, none⟩ ⟨g, off + (i + 1) * 3, none⟩ 1 1 lb cb hg _ _ _ _ (Ro.shape_of hv) (Ro.shape_of hcur) (by
            have hc0 := h.cell 0 (by rw [h.1]; omega)
            intro hz
            have hz : cur = #[] := Array.eq_empty_of_size_eq_zero hz
            subst hz
            rw [Nat.add_zero, cell_of_row w g off #[] _ (0, 0) hcur] at hc0
            simp at hc0) (hv.frozen 0) (hv.frozen _)]
        rfl
      clear hR1 hO1 hR2 hO2 hvs1 hv1 hext hfrom hsrc hone hdl hvs hp1 hv h hvb
      have HR1 := hr1
      have hci : ¬ (c = i) := by omega
      have hci1 : ¬ (c = i + 1) := by omega
      have hw1 : IntKind.i64.wrap ((i : Int) + 1) = (i : Int) + 1 := by rw [IntKind.wrap_i64]; omega
      have hw2 : IntKind.i64.wrap ((n : Int) + 1) = (n : Int) + 1 := by rw [IntKind.wrap_i64]; omega
      have htn : ((i : Int) + 1).toNat = i + 1 := by omega
      have hb1 : (0 : Int) ≤ (i : Int) + 1 := by omega
      have hb3 : (i : Int) ≤ (n : Int) + 1 := by omega
      have hz2 : ¬ ((i : Int) = (n : Int)) := by omega
      go_enter Try.func57, Try.ntmps57
      go_wp2_with (simp only [hov])
      go_region_law (refine Ro.step_copy rfl _ _ 31 31 rfl (.slice (some ⟨g, off + (i + 1) * 3, none⟩) (n + 1 - (i + 1)) (c - (i + 1))) (.slice (some ⟨g, off + i * 3, none⟩) (n + 1 - i) (c - i)) (by simp [Act.eval, Act.put]) (by simp [Act.eval, Act.put]) hr1 ?_)
      go_wp2_with (at_builtin; refine Ro.wpList_copy rfl _ _ 31 31 rfl _ _ rfl rfl hr2 ?_)
      go_ret
      exact hfin.out
    · -- there is none
      have hcut := h.cut i hi
      have hq : i + (n + 1 - i) = n + 1 := by omega
      obtain ⟨c1, w1, zs, hr1, hzs, hR1, hO1⟩ := Ro.app_zeros (P := Try.prog) (t := 31) (tn := 3) (ty := 31) eli Try.underlying3 hcut (n + 1 - i) (by omega) (by omega) (by unfold maxLen; omega) (by omega)
      rw [hq] at hr1 hR1
      have hle1 := hR1.le
      have hcm1 := hle1.2
      unfold maxLen at hcm1
      obtain ⟨N, hN⟩ : ∃ N, N = w.heap.size := ⟨_, rfl⟩
      rw [← hN] at hr1 hR1
      have hgN : g < N := by rw [hN]; exact h.lt rfl
      have hvN : vb < N := by rw [hN]; exact hv.lt
      have hz0 : zs.length = 3 + ((ImgV.flat bx).length - i * 3) := by rw [hzs, h.1]; omega
      have hv1 : Mem.Blk w1 vb 54 p.arr := (hO1.block vb hv.lt (fun c => c)).trans hv
      have hvs1 : Mem.Sl w1 w1.heap.size 3 (some ⟨vb, 0, none⟩) 1 p.cells := ⟨rfl, fun _ => ⟨_, rfl, hv1.lt, Mem.Cells.of_block hv1⟩⟩
      obtain ⟨w2, hr2, hR2, hO2⟩ := Ro.copy_row (P := Try.prog) (t := 31) (ty := 3) (A2 := some ⟨vb, 0, none⟩) (w := w1) eli hR1 i (n + 1 - i) (c1 - i) 1 1 1 p.cells (by simp only [Nat.min_def]; split <;> omega) (by omega) hvs1 (by omega) hp1
      have hs1 : Ro.Row w2 54 3 (some ⟨g, off + i * 3, none⟩) (n - i) (c - i) ((ImgV.flat bx).drop (i * 3)) := (hfrom.only hO1 (fun _ _ c => c)).only hO2 (fun b hb e => by
        have : g = b := by simpa [Ro.blk] using hb
        omega)
      obtain ⟨w3, hr3, hR3, hO3⟩ := Ro.copy_row (P := Try.prog) (t := 31) (ty := 3) (A2 := some ⟨g, off + i * 3, none⟩) (w := w2.drew) eli (show Ro.Row w2.drew _ 3 _ _ _ _ from hR2) (i + 1) (n + 1 - (i + 1)) (c1 - (i + 1)) (n - i) (n - i) (c - i) ((ImgV.flat bx).drop (i * 3)) (by simp only [Nat.min_def]; split <;> omega) (by omega) (show Mem.Sl w2.drew _ 3 _ _ _ from hs1.sl) (by omega) hone
      simp only [Nat.zero_add] at hr2 hr3
      have hfin : Hid (InsISaid (some ⟨g, off, none⟩) n (bx.take i ++ p :: bx.drop i) w (.returned (.slice (some ⟨N, 0, none⟩) (n + 1) c1)) w3) := by
        refine ⟨_, _, rfl, ?_, ?_, .inr ⟨N, rfl, by omega⟩⟩
        · unfold IRow
          rw [← flat_insi]
          have e := Ro.over_new (xs := ImgV.flat bx) (zs := zs) (v := p.cells) (a := i * 3) (k := 3) (by rw [h.1]; omega) rfl hz0
          rw [show i * 3 + 3 = (i + 1) * 3 by omega] at e
          rw [← e]
          exact hR3
        · exact ((hO1.trans hO2 (T := fun b => b = N) (fun b hb e => by omega)).trans hO3.undrew (fun b hb e => by omega)).mono (fun b _ c => c.elim)
      have hci : ¬ (c = i) := by omega
      have hci1 : ¬ (c1 = i) := by omega
      have hci2 : ¬ (c1 = i + 1) := by omega
      have hz2 : ¬ ((i : Int) = (n : Int)) := by omega
      have hkk : (n : Int) + 1 - (i : Int) = ((n + 1 - i : Nat) : Int) := by omega
      rw [← hkk] at hr1
      have hw1 : IntKind.i64.wrap ((i : Int) + 1) = (i : Int) + 1 := by rw [IntKind.wrap_i64]; omega
      have htn : ((i : Int) + 1).toNat = i + 1 := by omega
      have hb1 : (0 : Int) ≤ (i : Int) + 1 := by omega
      have hb3 : (i : Int) ≤ (n : Int) := by omega
      clear hkk hR1 hO1 hR2 hO2 hR3 hO3 hvs1 hv1 hs1 hfrom hsrc hone hdl hvs hp1 hv h hvb hN hcut hz0 hzs hq hle1
      go_enter Try.func57, Try.ntmps57
      go_wp2_with (at_builtin; first
        | refine Ro.wpList_app rfl _ _ _ _ rfl _ _ rfl rfl hr1 ?_
        | refine Ro.wpList_copy rfl _ _ 31 31 rfl _ _ rfl rfl hr2 ?_)
      go_region_law (refine Ro.step_copy rfl _ _ 31 31 rfl (.slice (some ⟨N, (i + 1) * 3, none⟩) (n + 1 - (i + 1)) (c1 - (i + 1))) (.slice (some ⟨g, off + i * 3, none⟩) (n - i) (c - i)) (by simp [Act.eval, Act.put]) (by simp [Act.eval, Act.put]) hr3 ?_)
      go_wp2_with fail
      go_ret
      exact hfin.out
  · obtain ⟨A', c', w', hr, hR, hO, hb⟩ := Ro.app (P := Try.prog) (ty := 31) (c2 := 1) eli h hvs hp1 (by unfold maxLen; omega) (by omega)
    have hfin : Hid (InsISaid A i (bx.take i ++ p :: bx.drop i) w (.returned (.slice A' (i + 1) c')) w') := by
      refine ⟨A', c', rfl, ?_, hO, hb.imp id (fun e => ⟨_, e, Nat.le_refl _⟩)⟩
      rw [List.take_of_length_le (by omega), List.drop_of_length_le (by omega)]
      unfold IRow
      rw [ImgV.flat_app, show ImgV.flat [p] = p.cells from by simp [ImgV.flat]]
      exact hR
    clear h hv hvs hp1 hR hO hb hvb hlen
    rcases A with _ | ⟨g, off, sp⟩
    · go_enter Try.func57, Try.ntmps57
      go_wp2_with (at_builtin; refine Ro.wpList_app rfl _ _ _ _ rfl _ _ rfl rfl hr ?_)
      go_ret
      exact hfin.out
    · go_enter Try.func57, Try.ntmps57
      go_wp2_with (at_builtin; refine Ro.wpList_app rfl _ _ _ _ rfl _ _ rfl rfl hr ?_)
      all_goals
        go_ret
        exact hfin.out
end Wo
end Go.Proofs.Ythccojfflmfggaa
