/- The walks of layer 15 (image): where an image stands: the closure, the search. -/
import Derived.Test.YthccojfflmfggaaRows
import Derived.WalkKit
import Derived.BigQuiet
import Derived.Deep.QuietTactic
import Derived.WalkLawsBesides
import Derived.WalkSpells
import Derived.OwnWalk
import Derived.Lib.Hide
import Derived.Laws.Externs
import Derived.Test.YthccojfflmfggaaStrL
import Derived.Test.YthccojfflmfggaaRowO
import Derived.Test.YthccojfflmfggaaImgV
import Derived.Test.YthccojfflmfggaaSearchC
namespace Go.Proofs.Ythccojfflmfggaa
open Go.RowKit
namespace Wo
set_option maxRecDepth 100000 in
theorem iclos_c (p : ImgV) (s : ByteArray) (w : World) : Calls Try.prog 73 #[.agg p.arr, .string s] w fun e w' => e = .returned (.int .i64 (Str.cmp p.name s)) ∧ Below w.heap.size w w' := by
  obtain ⟨name, size, last⟩ := p
  unfold ImgV.arr
  dsimp only
  go_enter Try.func73, Try.ntmps73
  go_wp2_with fail
  refine (compare_c _ _ _).mono ?_
  rintro e w' ⟨rfl, rfl⟩
  go_wp2_with fail
  go_ret
  exact ⟨rfl, (Below.refl _ _).alloc (Nat.le_refl _) _⟩
/-- their names -/
def nms (bx : List ImgV) : List ByteArray := bx.map fun p => p.name
theorem nms_len (bx : List ImgV) : (nms bx).length = bx.length := by simp [nms]
theorem nms_at {bx : List ImgV} {k : Nat} (h : k < bx.length) (h2 : k < (nms bx).length) : (nms bx)[k] = bx[k].name := by simp [nms]
set_option maxRecDepth 100000 in
set_option maxHeartbeats 2000000 in
theorem isearch_c (A : Option Addr) (n c : Nat) (bx : List ImgV) (s : ByteArray) (w : World) (h : Mem.Sl w w.heap.size 3 A n (ImgV.flat bx)) (hr : Str.Rises (nms bx)) (hlen : bx.length = n) (hn : n ≤ 1000000) :
    Calls Try.prog 72 #[.slice A n c, .string s, .func (.func 73) #[] #[]] w fun e w' => e = .returned (.tuple #[.int .i64 (Str.pos (nms bx) s), .bool (Str.has (nms bx) s)]) ∧ Below w.heap.size w w' := by
  have HR := Lib.hid hr
  clear hr
  obtain ⟨P, hP⟩ : ∃ P, P = Str.pos (nms bx) s := ⟨_, rfl⟩
  obtain ⟨F, hF⟩ : ∃ F, F = Str.has (nms bx) s := ⟨_, rfl⟩
  rw [← hP, ← hF]
  have HP := Lib.hid hP
  have HF := Lib.hid hF
  clear hP hF
  go_enter Try.func72, Try.ntmps72
  go_wp2_with fail
  go_loopw [9, 10] (fun vi vj wr => ∃ i j : Nat, i ≤ j ∧ j ≤ n ∧ vi = .int .i64 i ∧ vj = .int .i64 j ∧ Below w.heap.size w wr ∧ Hid (∀ (t : Nat) (ht : t < (nms bx).length), t < i → Str.cmp (nms bx)[t] s < 0) ∧ Hid (∀ (t : Nat) (ht : t < (nms bx).length), j ≤ t → 0 ≤ Str.cmp (nms bx)[t] s)) (fun i j _ => (intOf j - intOf i).toNat)
  case atStart => exact ⟨0, n, by omega, by omega, rfl, rfl, Below.refl _ _, fun t _ h => absurd h (by omega), fun t ht h => absurd ht (by rw [nms_len]; omega)⟩
  case round =>
    obtain ⟨i, j, hij, hjn, rfl, rfl, hbr, Hl, Hh⟩ := hrel
    by_cases hlt : i < j
    · obtain ⟨m, hm⟩ : ∃ m : Nat, m = (i + j) / 2 := ⟨_, rfl⟩
      have hm1 : i ≤ m := by omega
      have hm2 : m < j := by omega
      have hmi : ((i : Int) + j) / 2 = m := by omega
      have d0 : decide ((i : Int) < j) = true := decide_eq_true (by omega)
      have hsh : ∀ w, (binOp .shr 123 (.int .u64 ((i : Int) + j)) (.int .u64 1)).run Try.prog w = .ok (.int .u64 (m : Int)) w := by
        intro w
        rw [binOp_shr, shift_shr _ _ _ _ (by decide) (by decide), show (2 : Int) ^ (Int.toNat 1) = 2 from rfl, hmi]
        rfl
      obtain ⟨ad, hl, rfl, _, _, hat⟩ := ImgV.at_ (h.below hbr) (k := m) (by omega)
      have hx : m < (nms bx).length := by rw [nms_len]; exact hl
      have he : (nms bx)[m] = bx[m].name := nms_at hl hx
      obtain ⟨q, hq⟩ : ∃ q, q = bx[m] := ⟨_, rfl⟩
      rw [← hq] at hat he
      clear hq
      obtain ⟨c0, c1, c2⟩ := hat
      obtain ⟨qi, qs, ql⟩ := q
      dsimp only at c0 c1 c2 he
      have hcl := Lib.hid (fun w => iclos_c ⟨qi, qs, ql⟩ s w)
      have He := Lib.hid he
      clear hm he
      go_wp2_with fail
      refine (hcl.out _).mono ?_
      rintro e w1 ⟨rfl, hb1⟩
      have hbr1 : Below w.heap.size w w1 := hbr.trans (hb1.mono hbr.size)
      clear hcl hb1 c0 c1 c2 hsh hmi
      dsimp only
      have he := He.out
      have hc : Str.cmp qi s = Str.cmp (nms bx)[m] s := by rw [he]
      have Hrise := HR.out
      by_cases hneg : Str.cmp qi s < 0
      · have d1 : decide (Str.cmp qi s < 0) = true := decide_eq_true hneg
        have Hl2 : Hid (∀ (t : Nat) (ht : t < (nms bx).length), t < m + 1 → Str.cmp (nms bx)[t] s < 0) := by
          intro t ht htm
          rcases Nat.lt_or_eq_of_le (Nat.le_of_lt_succ htm) with h | rfl
          · exact Str.cmp_trans (List.pairwise_iff_getElem.1 Hrise t m ht hx h) (by rw [← hc]; omega)
          · rw [← hc]; exact hneg
        clear hc he Hrise hneg
        generalize Str.cmp qi s = y at *
        go_wp2_with fail
        go_roundw
        case rel => exact ⟨m + 1, j, by omega, by omega, by go_num, rfl, hbr1, Hl2, Hh⟩
        case measure => simp [intOf]; omega
      · have d1 : decide (Str.cmp qi s < 0) = false := decide_eq_false hneg
        have Hh2 : Hid (∀ (t : Nat) (ht : t < (nms bx).length), m ≤ t → 0 ≤ Str.cmp (nms bx)[t] s) := by
          intro t ht htm
          refine Int.not_lt.1 fun hlt2 => ?_
          rcases Nat.lt_or_eq_of_le htm with h | rfl
          · have h1 := List.pairwise_iff_getElem.1 Hrise m t hx ht h
            have h2 := Str.cmp_trans h1 (show Str.cmp (nms bx)[t] s ≤ 0 by omega)
            rw [← hc] at h2
            exact hneg h2
          · rw [← hc] at hlt2; exact hneg hlt2
        clear hc he Hrise hneg
        generalize Str.cmp qi s = y at *
        go_wp2_with fail
        go_roundw
        case rel => exact ⟨i, m, by omega, by omega, rfl, rfl, hbr1, Hl, Hh2⟩
        case measure => simp [intOf]; omega
    · obtain rfl : i = j := by omega
      have hpos : Str.pos (nms bx) s = i := Str.pos_at HR.out i (by rw [nms_len]; omega) Hl.out (fun t ht h => Int.not_lt.2 (Hh.out t ht h))
      have d0 : decide ((i : Int) < i) = false := decide_eq_false (by omega)
      by_cases hin : i < n
      · have d2 : decide ((i : Int) < n) = true := decide_eq_true (by omega)
        obtain ⟨ad, hl, rfl, _, _, hat⟩ := ImgV.at_ (h.below hbr) (k := i) hin
        have hx : i < (nms bx).length := by rw [nms_len]; exact hl
        have he : (nms bx)[i] = bx[i].name := nms_at hl hx
        have hhas : Hid (Str.has (nms bx) s = (Str.cmp bx[i].name s == 0)) := by
          show _ = _
          subst hpos
          rw [Str.has_pos HR.out (by rw [nms_len]; omega), he]
        obtain ⟨q, hq⟩ : ∃ q, q = bx[i] := ⟨_, rfl⟩
        rw [← hq] at hat hhas
        have HPi : Hid (P = i) := HP.out.trans hpos
        have HFi : Hid (F = (Str.cmp q.name s == 0)) := HF.out.trans hhas.out
        clear hq he hpos hhas
        obtain ⟨c0, c1, c2⟩ := hat
        obtain ⟨qi, qs, ql⟩ := q
        dsimp only at c0 c1 c2 HFi
        have hcl := Lib.hid (fun w => iclos_c ⟨qi, qs, ql⟩ s w)
        go_wp2_with fail
        refine (hcl.out _).mono ?_
        rintro e w1 ⟨rfl, hb1⟩
        have hbr1 : Below w.heap.size w w1 := hbr.trans (hb1.mono hbr.size)
        clear hcl hb1 c0 c1 c2
        dsimp only
        generalize Str.cmp qi s = y at *
        go_wp2_with fail
        go_ret2
        exact ⟨by rw [HFi.out, HPi.out]; rfl, hbr1⟩
      · have d2 : decide ((i : Int) < n) = false := decide_eq_false (by omega)
        have hhas : Str.has (nms bx) s = false := Str.has_end (by rw [hpos, nms_len]; omega)
        have HPi : Hid (P = i) := HP.out.trans hpos
        have HFi : Hid (F = false) := HF.out.trans hhas
        clear hpos hhas
        go_wp2_with fail
        go_ret2
        exact ⟨by rw [HFi.out, HPi.out]; rfl, hbr⟩
end Wo
end Go.Proofs.Ythccojfflmfggaa
