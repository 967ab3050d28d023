/- Layer 10 (disk): the model law's few; same: a disk has these files. -/
import Derived.Test.YtnaidihoijociaaDkCr
import Derived.Test.YtnaidihoijociaaDaV
namespace Go.Proofs.Ytnaidihoijociaa
open Go.RowKit Go.Maps
namespace Dk
open Bs
open Crc (Byte)
/-- a small act of the model law -/
def SmallA (p : DaV) : Prop := p.op.name.size ≤ 50 ∧ p.op.nto.size ≤ 50 ∧ p.op.bytesn ≤ 200 ∧ p.keepn ≤ 60
set_option maxRecDepth 100000 in
set_option maxHeartbeats 4000000 in
theorem dfew_c (A : Option Addr) (n c : Nat) (ps : List DaV) (w : World) (h : Mem.Sl w w.heap.size 6 A n (DaV.flat ps)) (hok : ∀ p ∈ ps, p.ok) (hn : n ≤ maxLen) :
    Calls Try.prog 23 #[.slice A n c] w (NR (n ≤ 50 ∧ ∀ p ∈ ps, SmallA p) w) := by
  have hpl : ps.length = n := by have := h.1; rw [DaV.flat_len] at this; omega
  unfold maxLen at hn
  go_enter Try.func23, Try.ntmps23
  go_wp2_with fail
  go_loop [3] (fun vi => ∃ k : Nat, k ≤ n ∧ vi = .int .i64 k ∧ Hid (∀ (j : Nat) (hj : j < ps.length), j < k → SmallA ps[j])) (fun i => n - (intOf i).toNat)
  case atStart => exact ⟨0, by omega, rfl, fun j hj c => absurd c (by omega)⟩
  case round =>
    obtain ⟨k, hk, rfl, HN⟩ := hrel
    by_cases hlt : k < n ∧ k < 100
    · obtain ⟨h1, h2⟩ := hlt
      obtain ⟨ad, hl, rfl, _, hbk, hat⟩ := DaV.at_ h h1
      have hpo := hok _ (List.getElem_mem hl)
      have hstep : Hid (SmallA ps[k] → Hid (∀ (j : Nat) (hj : j < ps.length), j < k + 1 → SmallA ps[j])) := Lib.hid fun hs j hj hjk => by
        rcases Nat.lt_succ_iff_lt_or_eq.1 hjk with h | h
        · exact HN.out j hj h
        · subst h; exact hs
      generalize ps[k] = p at *
      obtain ⟨c0, c1, c2, c3, c4, c5⟩ := hat
      have b1 := hpo.op.name
      have b2 := hpo.op.nto
      have b3 : p.op.bytesn ≤ 9223372036854775807 := by have := hpo.op.bytes.1; have := hpo.op.bytes.2.1; unfold maxLen at this; omega
      have b4 : p.keepn ≤ 9223372036854775807 := by have := hpo.keep.1; have := hpo.keep.2.1; unfold maxLen at this; omega
      unfold maxLen at b1 b2
      unfold SmallA at hstep
      clear hpo hok h hpl HN
      obtain ⟨d, ⟨kd, nm, nt, bs, bA, bn, bc⟩, kp, kA, kn, kc⟩ := p
      dsimp only at *
      by_cases g1 : 50 < nm.size
      · go_wp2_with fail
        go_ret
        exact ⟨false, rfl, fun h => (by cases h), rfl⟩
      by_cases g2 : 50 < nt.size
      · go_wp2_with fail
        go_ret
        exact ⟨false, rfl, fun h => (by cases h), rfl⟩
      by_cases g3 : 200 < bn
      · go_wp2_with fail
        go_ret
        exact ⟨false, rfl, fun h => (by cases h), rfl⟩
      by_cases g4 : 60 < kn
      · go_wp2_with fail
        go_ret
        exact ⟨false, rfl, fun h => (by cases h), rfl⟩
      have hnx := hstep.out ⟨by omega, by omega, by omega, by omega⟩
      clear hstep
      go_wp2_with fail
      go_round
      case rel => exact ⟨k + 1, by omega, by go_num, hnx⟩
      case measure => simp [intOf]; omega
    · have hor : k < n ∧ 100 ≤ k ∨ k = n := by omega
      rcases hor with ⟨h1, h2⟩ | rfl
      · clear hok h
        go_wp2_with fail
        go_ret
        exact ⟨_, rfl, fun h => (by have := of_decide_eq_true h; omega), rfl⟩
      · have hall : Hid (∀ p ∈ ps, SmallA p) := Lib.hid fun p hp => by
          obtain ⟨j, hj, rfl⟩ := List.getElem_of_mem hp
          exact HN.out j hj (by omega)
        clear hok h HN
        go_wp2_with fail
        go_ret
        exact ⟨_, rfl, fun h => ⟨by have := of_decide_eq_true h; omega, hall.out⟩, rfl⟩
theorem fls2_len (l : List FlV) : (fls2 l).length = l.length := List.length_map ..
theorem fls2_at (l : List FlV) {i : Nat} (h : i < l.length) (h' : i < (fls2 l).length) : (fls2 l)[i] = (key l[i].name, l[i].bytes) := List.getElem_map ..
theorem of_key (s : ByteArray) : (⟨(key s).toArray⟩ : ByteArray) = s := by simp [key]
set_option maxRecDepth 100000 in
set_option maxHeartbeats 4000000 in
theorem same_c {w : World} {g : Nat} {s : Ds} {M C C2 : Nat → Prop} {N : Nat} {A : Option Addr} {n c : Nat} {l : List FlV} (h1 : At w g s M C) (hs1 : Fits N s) (hN1 : N ≤ 1000) (h2 : Fr w C2 A n c l) (he : fls2 l = look s) :
    Calls Try.prog 28 #[.pointer (some ⟨g, 0, none⟩), .slice A n c] w fun e w' => e = .returned (.bool true) ∧ Below w.heap.size w w' := by
  have HA := Lib.hid (names_c h1 (hs1.good hN1))
  have HR1 := Lib.hid (fun (X : World) (nm : ByteArray) (hX : Below w.heap.size w X) (hn : nm.size ≤ maxLen) => read_c (h1.below hX) (hs1.good hN1) hn)
  have hrise : Rise (look s) := (hs1.look).rise
  have hlen : (look s).length ≤ 1000 := by have := (hs1.look).len; simp at this; omega
  have hln := h2.len
  rw [← he] at HA HR1 hrise hlen
  rw [fls2_len] at hlen
  have H2 := Lib.hid h2
  have HRi := Lib.hid hrise
  clear h1 hs1 he hrise h2
  have hlm : ((fls2 l).map (·.1)).length = n := by rw [List.length_map, fls2_len, hln]
  go_enter Try.func28, Try.ntmps28
  go_wp2_with fail
  refine HA.out.mono ?_
  rintro e w1 ⟨A1, c1, rfl, hn1, hb1, -⟩
  rw [hlm] at hn1 ⊢
  have HB1 := Lib.hid hb1
  have HN1 := Lib.hid hn1
  clear HA hb1 hn1 hlm
  go_wp2_with fail
  go_loopw [6] (fun vi wr => ∃ i : Nat, i ≤ n ∧ vi = .int .i64 i ∧ Below w1.heap.size w1 wr) (fun i _ => n - (intOf i).toNat)
  case atStart => exact ⟨0, by omega, rfl, Below.refl _ _⟩
  case round =>
    obtain ⟨i, hi, rfl, hbr⟩ := hrel
    by_cases hlt : i < n
    · obtain ⟨ad1, hl1, rfl, had1, hc1⟩ := name_at HN1.out hlt
      have hb0 : Below w.heap.size w wr := HB1.out.trans (hbr.mono HB1.out.size)
      obtain ⟨ad2, hil, rfl, had0, had2, hat⟩ := FlV.at_ H2.out.row.sl hlt
      have hf : i < (fls2 l).length := by rw [fls2_len]; exact hil
      have hki : ((fls2 l).map (·.1))[i] = key l[i].name := by rw [List.getElem_map, fls2_at l hil hf]
      have hg : fget (fls2 l) (key l[i].name) = some l[i].bytes := by
        have := get_at HRi.out hf
        rw [fls2_at l hil hf] at this
        exact this
      have hsz := H2.out.name l[i] (List.getElem_mem hil)
      have HH := Lib.hid (H2.out.hold l[i] (List.getElem_mem hil))
      rw [hki, of_key] at hc1
      have HX2 := Lib.hid (show ∀ X, Below w.heap.size w X → FlV.At X (ad2.add (i * 2)) l[i] from fun X hX => hat.below hX had2)
      have HP1 := Lib.hid (HR1.out wr l[i].name hb0 hsz)
      rw [hg] at HP1
      clear hki hg hat
      generalize l[i] = p at *
      obtain ⟨nm, bs, bA, bn, bc⟩ := p
      dsimp only at hc1 hsz HH HP1
      have HX1 := Lib.hid (show ∀ X, Below w1.heap.size w1 X → X.cell? (ad1.add i) = some (.string nm) from fun X hX => (hX.cell (p := ad1.add i) (by rw [Mem.add_block]; exact had1)).trans hc1)
      have HBR := Lib.hid hbr
      obtain ⟨d1, d2⟩ := HX2.out wr hb0
      dsimp only at d1 d2
      clear hl1 hil hf had1 had2 had0 hc1 hsz hbr hb0
      go_wp2_with fail
      refine HP1.out.mono ?_
      rintro e w3 ⟨hb3, A3, c3, rfl, hR3, -⟩
      have HB3 := Lib.hid (HBR.out.trans (hb3.mono HBR.out.size))
      have HR3 := Lib.hid hR3
      clear HP1 hb3 hR3 d1 d2 HBR
      go_wp2_with fail
      obtain ⟨Y, hY⟩ : ∃ Y, w3.drew = Y := ⟨_, rfl⟩
      have HBY : Hid (Below w1.heap.size w1 Y) := Lib.hid (by rw [← hY]; exact HB3.out.drew)
      have hbY0 := HB1.out.trans (HBY.out.mono HB1.out.size)
      have d0 := HX1.out Y HBY.out
      obtain ⟨d1, d2⟩ := HX2.out Y hbY0
      dsimp only at d1 d2
      have v1 : (convert 27 9 (.slice A3 bs.length c3)).run Try.prog Y = .ok (.string (Bs.strOf bs)) Y := conv_row HR3.out (by rw [← hY]; exact (Below.refl _ _).drew)
      have v2 : (convert 27 9 (.slice bA bn bc)).run Try.prog Y = .ok (.string (Bs.strOf bs)) Y := conv_hold (HH.out.below hbY0)
      refine Reg.start (S := fun w' => w' = Y) (by kernel_rfl) ?_
      rw [hY]
      clear hbY0
      refine Reg.takes (S := fun w' => w' = Y) (n := 0) (by kernel_rfl) (fun _ _ d _ _ h => by cases d <;> exact h) rfl [0, 1, 2, 3, 4, 5, 6, 7, 8, 9, 10, 11, 12, 13, 14, 15, 16, 17, 18, 19, 20, 21, 22, 23, 24] _ _ (by kernel_rfl) ?_
      iterate 25 (refine Reg.det_step rfl (fun K' hK' => ?_); go_simp; (first | (refine hK' _ ?_; clear hK' K') | (apply Exists.intro; refine ⟨fun wx hwx => ?_, hK' _ ?_⟩; (first | rfl | (subst hwx; go_simp; first | done | rfl)); clear hK' K')))
      refine Reg.det_nil ?_
      refine wpAnyH_done (by kernel_rfl) ?_ _
      go_wp2_with fail
      go_roundw
      case rel => exact ⟨i + 1, by omega, by go_num, HBY.out⟩
      case measure => simp [intOf]; omega
    · obtain rfl : i = n := by omega
      go_wp2_with fail
      go_ret
      exact ⟨rfl, HB1.out.trans (hbr.mono HB1.out.size)⟩
end Dk
end Go.Proofs.Ytnaidihoijociaa
