/- The document's layer 10: Do for any right act; Look. -/
import Derived.Test.YtnaidihoijociaaDkX
namespace Go.Proofs.Ytnaidihoijociaa
open Go.RowKit Go.Maps
namespace Dk
open Bs
open Crc (Byte)
theorem rdo_c {w : World} {C C0 : Nat → Prop} {A bA : Option Addr} {n c bn bc : Nat} {l : List FlV} {kd : Int} {nm nt : ByteArray} {bs : List Byte} (hk : kd = 1 ∨ kd = 2 ∨ kd = 3) (h : Fr w C A n c l) (hr : Rise (fls2 l)) (hn : n ≤ 5000) (ho : Hold w C0 bA bn bc bs) (hbn : bn ≤ 100000) (hs : nm.size ≤ maxLen) (hs2 : nt.size ≤ maxLen) :
    Calls Try.prog 44 #[.slice A n c, .agg #[.int .i64 kd, .string nm, .string nt, .slice bA bn bc]] w (DoSaid w C (app1 (fls2 l) ⟨kd, nm, nt, bs⟩) (n + 1)) := by
  rcases hk with rfl | rfl | rfl
  · exact rdo_1 h hn ho hbn hs
  · exact rdo_2 (C0 := C0) h hr hn hs2
  · exact rdo_3 (C0 := C0) h hr hn hs2
/-- an act that the document does -/
structure ROp (w : World) (p : OpV) : Prop where
  kind : p.kind = 1 ∨ p.kind = 2 ∨ p.kind = 3
  hold : ∃ C0, Hold w C0 p.bytesA p.bytesn p.bytesc p.bytes
  n : p.bytesn ≤ 100000
  name : p.name.size ≤ maxLen
  nto : p.nto.size ≤ maxLen
theorem ext_ext {w w1 : World} {C : Nat → Prop} (h : w.heap.size ≤ w1.heap.size) : ∀ k, ext w1 (ext w C) k → ext w C k := fun _ q hk => q (by omega) hk
set_option maxRecDepth 100000 in
set_option maxHeartbeats 4000000 in
theorem rlook_c {w : World} {C : Nat → Prop} {A AO : Option Addr} {n c m cO : Nat} {l : List FlV} {qs : List OpV} (h : Fr w C A n c l) (hr : Rise (fls2 l)) (hn : n ≤ 1000) (ho : Mem.Sl w w.heap.size 4 AO m (OpV.flat qs)) (hq : ∀ q ∈ qs, ROp w q) (hm : m ≤ 1000) :
    Calls Try.prog 25 #[.slice A n c, .slice AO m cO] w (DoSaid w C ((qs.map opOf).foldl app1 (fls2 l)) (n + m)) := by
  have hql : qs.length = m := by have := ho.1; rw [OpV.flat_len] at this; omega
  have HO := Lib.hid ho
  have HQ := Lib.hid hq
  have HQl := Lib.hid hql
  have hl := h.len
  have HI : Hid (Fr w (ext w C) A n c l ∧ Rise (fls2 l) ∧ fls2 l = ((qs.take 0).map opOf).foldl app1 (fls2 l) ∧ Below w.heap.size w w) := Lib.hid ⟨h.mono (fun k _ q _ => q), hr, rfl, Below.refl _ _⟩
  generalize hF0 : fls2 l = F0 at *
  clear h ho hq hr hql
  go_enter Try.func25, Try.ntmps25
  go_wp2_with fail
  go_loopw [0, 5] (fun vl vi wr => ∃ (k n' c' : Nat) (A' : Option Addr), k ≤ m ∧ vi = .int .i64 k ∧ vl = .slice A' n' c' ∧ n' ≤ n + k ∧ Hid (∃ l', Fr wr (ext w C) A' n' c' l' ∧ Rise (fls2 l') ∧ fls2 l' = ((qs.take k).map opOf).foldl app1 F0 ∧ Below w.heap.size w wr)) (fun _ i _ => m - (intOf i).toNat)
  case atStart => exact ⟨0, n, c, A, by omega, rfl, rfl, by omega, l, by rw [hF0]; exact HI.out⟩
  case round =>
    clear HI
    obtain ⟨k, n', c', A', hk, rfl, rfl, hn', HL⟩ := hrel
    obtain ⟨l', hF, hr, he, hb⟩ := HL.out
    by_cases hlt : k < m
    · obtain ⟨ad, hlk, rfl, hblk0, hblk, hat⟩ := OpV.at_ HO.out hlt
      have hq := HQ.out qs[k] (List.getElem_mem hlk)
      have hst : ((qs.take (k + 1)).map opOf).foldl app1 F0 = app1 (((qs.take k).map opOf).foldl app1 F0) (opOf qs[k]) := by
        rw [Mem.take_snoc _ _ hlk, List.map_append, List.foldl_append]
        rfl
      have HB := Lib.hid hb
      have hat := hat.below hb hblk
      generalize qs[k] = p at *
      obtain ⟨kd, nm, nt, bs, bA, bn, bc⟩ := p
      obtain ⟨c0, c1, c2, c3⟩ := hat
      dsimp only at c0 c1 c2 c3
      obtain ⟨C0, hH⟩ := hq.hold
      have HD := Lib.hid (rdo_c hq.kind hF hr (by omega) (hH.below hb) hq.n hq.name hq.nto)
      have HSt : Hid (((qs.take (k + 1)).map opOf).foldl app1 F0 = app1 (fls2 l') ⟨kd, nm, nt, bs⟩ ∧ Rise (fls2 l')) := Lib.hid ⟨by rw [hst, he]; rfl, hr⟩
      clear hq hst hH hF hr he hb HL hlk hblk0 hblk
      go_wp2_with fail
      refine HD.out.mono ?_
      rintro e w2 ⟨A2, cc2, l2, rfl, hb2, hF2, he2, hl2⟩
      have hz := HB.out.size
      have HN : Hid (∃ l3, Fr w2 (ext w C) A2 l2.length cc2 l3 ∧ Rise (fls2 l3) ∧ fls2 l3 = ((qs.take (k + 1)).map opOf).foldl app1 F0 ∧ Below w.heap.size w w2) := Lib.hid ⟨l2, hF2.mono (fun k _ q => ext_ext hz k q), by rw [he2]; exact rise_app HSt.out.2 _, by rw [he2, HSt.out.1], HB.out.trans (hb2.mono hz)⟩
      clear hb2 hF2 he2 HD HB HSt c0 c1 c2 c3 hz
      go_wp2_with fail
      go_roundw
      case rel => exact ⟨k + 1, l2.length, cc2, A2, by omega, by go_num, rfl, by omega, HN⟩
      case measure => simp [intOf]; omega
    · obtain rfl : k = m := by omega
      have hall : qs.take k = qs := List.take_of_length_le (by have := HQl.out; omega)
      rw [hall] at he
      have hll := hF.len
      subst hll
      have HE : Hid (DoSaid w C ((qs.map opOf).foldl app1 F0) (n + k) (.returned (.slice A' l'.length c')) wr) := Lib.hid ⟨A', c', l', rfl, hb, hF, he, hn'⟩
      clear hF hr he hb HL hall
      go_wp2_with fail
      go_ret
      exact HE.out
end Dk
end Go.Proofs.Ytnaidihoijociaa
