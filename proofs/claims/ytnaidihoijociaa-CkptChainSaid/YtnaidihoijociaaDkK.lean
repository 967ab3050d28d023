/- Layer 10 (disk): the walks of the laws' alike, few, awake. -/
import Derived.Test.YtnaidihoijociaaDkJ
namespace Go.Proofs.Ytnaidihoijociaa
open Go.RowKit Go.Maps
namespace Dk
open Bs
open Crc (Byte)
theorem name_at {w : World} {A : Option Addr} {n c i : Nat} {ks : List Key} (h : NRow w A n c ks) (hi : i < n) : ∃ (ad : Addr) (hl : i < ks.length), A = some ad ∧ ad.block < w.heap.size ∧ w.cell? (ad.add i) = some (.string ⟨ks[i].toArray⟩) := by
  obtain ⟨ad, hl, e, hb, hc⟩ := Mem.Sl.at_ (Ro.Row.sl h) hi
  refine ⟨ad, by simpa using hl, e, hb, ?_⟩
  rw [hc]
  simp [Go.Proofs.encStr]
theorem key_of (k : Key) : key ⟨k.toArray⟩ = k := by simp [key]
theorem conv_row {w : World} {A : Option Addr} {n c : Nat} {bs : List Byte} (h : BRow w A n c bs) {v : World} (hv : Below w.heap.size w v) : (convert 27 9 (.slice A n c)).run Try.prog v = .ok (.string (Bs.strOf bs)) v :=
  run_str (Bs.below (Ro.Row.sl h) hv) Try.underlying27 Try.underlying5 Try.underlying9
set_option maxRecDepth 100000 in
set_option maxHeartbeats 4000000 in
theorem alike_c {w : World} {g1 g2 : Nat} {s1 s2 : Ds} {M1 C1 M2 C2 : Nat → Prop} {N1 N2 : Nat} (h1 : At w g1 s1 M1 C1) (h2 : At w g2 s2 M2 C2) (hs1 : Fits N1 s1) (hs2 : Fits N2 s2) (hN1 : N1 ≤ 1000) (hN2 : N2 ≤ 1000) (he : look s1 = look s2) :
    Calls Try.prog 19 #[.pointer (some ⟨g1, 0, none⟩), .pointer (some ⟨g2, 0, none⟩)] w fun e w' => e = .returned (.bool true) ∧ Below w.heap.size w w' := by
  have HA := Lib.hid (names_c h1 (hs1.good hN1))
  have HB := Lib.hid (fun (X : World) (hX : Below w.heap.size w X) => names_c (h2.below hX) (hs2.good hN2))
  have HR1 := Lib.hid (fun (X : World) (nm : ByteArray) (hX : Below w.heap.size w X) (hn : nm.size ≤ maxLen) => read_c (h1.below hX) (hs1.good hN1) hn)
  have HR2 := Lib.hid (fun (X : World) (nm : ByteArray) (hX : Below w.heap.size w X) (hn : nm.size ≤ maxLen) => read_c (h2.below hX) (hs2.good hN2) hn)
  have hrise : Rise (look s1) := (hs1.look).rise
  have hfk := (hs1.look).fk
  have hlen : (look s1).length ≤ 1000 := by have := (hs1.look).len; simp at this; omega
  rw [← he] at HB HR2
  clear h1 h2 hs1 hs2 he
  have HRi := Lib.hid hrise
  have HFk := Lib.hid (show ∀ p ∈ look s1, p.1.length ≤ maxLen from hfk)
  clear hrise hfk
  generalize look s1 = l at *
  have hlm : (l.map (·.1)).length = l.length := List.length_map ..
  go_enter Try.func19, Try.ntmps19
  go_wp2_with fail
  refine HA.out.mono ?_
  rintro e w1 ⟨A1, c1, rfl, hn1, hb1, -⟩
  rw [hlm] at hn1 ⊢
  have HB1 := Lib.hid hb1
  have HN1 := Lib.hid hn1
  clear HA hb1 hn1
  go_wp2_with fail
  refine (HB.out w1 HB1.out).mono ?_
  rintro e w2 ⟨A2, c2, rfl, hn2, hb2, -⟩
  rw [hlm] at hn2 ⊢
  have HN1 := Lib.hid (HN1.out.keep fun k hk => hb2.block k (HN1.out.lt hk))
  have HB2 := Lib.hid (HB1.out.trans (hb2.mono HB1.out.size))
  have HN2 := Lib.hid hn2
  clear HB hb2 hn2 HB1
  have hll : ((l.length : Nat) : Int) = ((l.length : Nat) : Int) := rfl
  clear hll
  generalize hL : l.length = L at *
  go_wp2_with fail
  go_loopw [7] (fun vi wr => ∃ i : Nat, i ≤ L ∧ vi = .int .i64 i ∧ Below w2.heap.size w2 wr) (fun i _ => L - (intOf i).toNat)
  case atStart => exact ⟨0, by omega, rfl, Below.refl _ _⟩
  case round =>
    obtain ⟨i, hi, rfl, hbr⟩ := hrel
    by_cases hlt : i < L
    · obtain ⟨ad1, hl1, rfl, had1, hc1⟩ := name_at HN1.out hlt
      obtain ⟨ad2, hl2, rfl, had2, hc2⟩ := name_at HN2.out hlt
      have hil : i < l.length := by omega
      have hki : (l.map (·.1))[i] = l[i].1 := List.getElem_map ..
      have hg := get_at HRi.out hil
      have hsz : (⟨l[i].1.toArray⟩ : ByteArray).size ≤ maxLen := by
        have := HFk.out l[i] (List.getElem_mem hil)
        simpa [ByteArray.size] using this
      rw [hki] at hc1 hc2
      have hg2 : fget l (key ⟨l[i].1.toArray⟩) = some l[i].2 := by rw [key_of]; exact hg
      generalize (⟨l[i].1.toArray⟩ : ByteArray) = nm at *
      generalize l[i].2 = bs at *
      have hb0 : Below w.heap.size w wr := HB2.out.trans (hbr.mono HB2.out.size)
      have HP1 := Lib.hid (HR1.out wr nm hb0 hsz)
      have HP2 := Lib.hid (fun (X : World) (hX : Below w.heap.size w X) => HR2.out X nm hX hsz)
      rw [hg2] at HP1 HP2
      have HX1 := Lib.hid (show ∀ X, Below w2.heap.size w2 X → X.cell? (ad1.add i) = some (.string nm) from fun X hX => (hX.cell (p := ad1.add i) (by rw [Mem.add_block]; exact had1)).trans hc1)
      have HX2 := Lib.hid (show ∀ X, Below w2.heap.size w2 X → X.cell? (ad2.add i) = some (.string nm) from fun X hX => (hX.cell (p := ad2.add i) (by rw [Mem.add_block]; exact had2)).trans hc2)
      have HBR := Lib.hid hbr
      have d1 := HX1.out wr hbr
      clear hl1 hl2 had1 had2 hc1 hc2 hil hki hg hg2 hsz hbr hb0
      go_wp2_with fail
      refine HP1.out.mono ?_
      rintro e w3 ⟨hb3, A3, c3, rfl, hR3, -⟩
      have HB3 := Lib.hid (HBR.out.trans (hb3.mono HBR.out.size))
      have HR3 := Lib.hid hR3
      have d2 := HX1.out w3 HB3.out
      clear HP1 hb3 hR3 d1 HBR
      go_wp2_with fail
      refine (HP2.out w3 (HB2.out.trans (HB3.out.mono HB2.out.size))).mono ?_
      rintro e w4 ⟨hb4, A4, c4, rfl, hR4, -⟩
      have HB4 := Lib.hid (HB3.out.trans (hb4.mono HB3.out.size))
      have HR3 := Lib.hid (HR3.out.keep fun k hk => hb4.block k (HR3.out.lt hk))
      have HR4 := Lib.hid hR4
      clear HP2 hb4 hR4 d2 HB3
      go_wp2_with fail
      obtain ⟨Y, hY⟩ : ∃ Y, w4.drew = Y := ⟨_, rfl⟩
      have HBY : Hid (Below w2.heap.size w2 Y) := Lib.hid (by rw [← hY]; exact HB4.out.drew)
      have d1 := HX1.out Y HBY.out
      have d2 := HX2.out Y HBY.out
      have v1 : (convert 27 9 (.slice A3 bs.length c3)).run Try.prog Y = .ok (.string (Bs.strOf bs)) Y := conv_row HR3.out (by rw [← hY]; exact (Below.refl _ _).drew)
      have v2 : (convert 27 9 (.slice A4 bs.length c4)).run Try.prog Y = .ok (.string (Bs.strOf bs)) Y := conv_row HR4.out (by rw [← hY]; exact (Below.refl _ _).drew)
      refine Reg.start (S := fun w' => w' = Y) (by kernel_rfl) ?_
      rw [hY]
      refine Reg.takes (S := fun w' => w' = Y) (n := 0) (by kernel_rfl) (fun _ _ d _ _ h => by cases d <;> exact h) rfl [0, 1, 2, 3, 4, 5, 6, 7, 8, 9, 10, 11, 12, 13, 14, 15] _ _ (by kernel_rfl) ?_
      iterate 16 (refine Reg.det_step rfl (fun K' hK' => ?_); go_simp; (first | (refine hK' _ ?_; clear hK' K') | (apply Exists.intro; refine ⟨fun wx hwx => ?_, hK' _ ?_⟩; (first | rfl | (subst hwx; go_simp; first | done | rfl)); clear hK' K')))
      refine Reg.det_nil ?_
      refine wpAnyH_done (by kernel_rfl) ?_ _
      go_wp2_with fail
      go_roundw
      case rel => exact ⟨i + 1, by omega, by go_num, HBY.out⟩
      case measure => simp [intOf]; omega
    · obtain rfl : i = L := by omega
      go_wp2_with fail
      go_ret
      exact ⟨rfl, HB2.out.trans (hbr.mono HB2.out.size)⟩
end Dk
end Go.Proofs.Ytnaidihoijociaa
