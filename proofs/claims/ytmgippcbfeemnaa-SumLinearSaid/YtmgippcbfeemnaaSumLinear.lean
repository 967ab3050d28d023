/- SumLinear: the walk. -/
import Derived.Test.YtmgippcbfeemnaaOwnB
namespace Go.Proofs.Ytmgippcbfeemnaa.sumLinear
open Go.RowKit Bs Crc
def pad (b : List Byte) (k : Nat) : List Byte := (List.range k).map fun i => b.getD i 0#8
def three (a b c : List Byte) (k : Nat) : List Byte := (List.range k).map fun i => a.getD i 0#8 ^^^ b.getD i 0#8 ^^^ c.getD i 0#8
theorem pad_snoc (b : List Byte) (k : Nat) : pad b (k + 1) = pad b k ++ [b.getD k 0#8] := by unfold pad; rw [List.range_succ, List.map_append]; rfl
theorem three_snoc (a b c : List Byte) (k : Nat) : three a b c (k + 1) = three a b c k ++ [a.getD k 0#8 ^^^ b.getD k 0#8 ^^^ c.getD k 0#8] := by unfold three; rw [List.range_succ, List.map_append]; rfl
theorem of_three (a b c : List Byte) (n : Nat) (h : a.length = n) : of (three a b c n) = of a ^^^ of (pad b n) ^^^ of (pad c n) := by
  rw [← linear a (pad b n) (pad c n) (by simp [pad, h]) (by simp [pad, h])]
  congr 1
  apply List.ext_getElem
  · simp [three, pad, h]
  · intro i h1 h2
    have hi : i < n := by simpa [three] using h1
    simp [three, pad, h, hi]
set_option maxRecDepth 100000 in
set_option maxHeartbeats 4000000 in
theorem core (A A2 A3 : Option Addr) (n c m d k f : Nat) (a b z : List Byte) (w : World) (h1 : Bs w w.heap.size A n a) (h2 : Bs w w.heap.size A2 m b) (h3 : Bs w w.heap.size A3 k z)
    (hn : n ≤ 500) (hm : m ≤ maxLen) (hk : k ≤ maxLen) :
    Calls Try.prog 7 #[.slice A n c, .slice A2 m d, .slice A3 k f] w fun e w' => e = .returned (.bool true) ∧ Below w.heap.size w w' := by
  have hm' : m ≤ 9223372036854775807 := by unfold maxLen at hm; omega
  have hk' : k ≤ 9223372036854775807 := by unfold maxLen at hk; omega
  clear hm hk
  have hla := Lib.hid h1.len
  have hlb := Lib.hid h2.len
  have hlz := Lib.hid h3.len
  go_enter Try.func7, Try.ntmps7
  go_wp2_with fail
  refine (awake_c _).mono ?_
  rintro e w1 ⟨rfl, hb1⟩
  go_wp2_with fail
  go_loopw [7, 8, 9, 10] (fun v7 v8 v9 vi wr => ∃ i : Nat, i ≤ n ∧ vi = .int .i64 i ∧ Below w.heap.size w wr ∧ ∃ AX cx AY cy AZ cz, v7 = .slice AX i cx ∧ v8 = .slice AY i cy ∧ v9 = .slice AZ i cz ∧
    Own wr w.heap.size AX i cx (pad b i) ∧ Own wr w.heap.size AY i cy (pad z i) ∧ Own wr w.heap.size AZ i cz (three a b z i) ∧ Sep AX AY ∧ Sep AX AZ ∧ Sep AY AZ) (fun _ _ _ i _ => n - (intOf i).toNat)
  case atStart => exact ⟨0, by omega, rfl, hb1, none, 0, none, 0, none, 0, rfl, rfl, rfl, Mem.own_nil, Mem.own_nil, Mem.own_nil, Sep.none_left _, Sep.none_left _, Sep.none_left _⟩
  case round =>
    clear hb1
    obtain ⟨i, hi, rfl, hbr, AX, cx, AY, cy, AZ, cz, rfl, rfl, rfl, OX, OY, OZ, sxy, sxz, syz⟩ := hrel
    have hz := hbr.size
    by_cases hlt : i < n
    · obtain ⟨ad, x, hl, rfl, hadb, hxe, hcx⟩ := h1.at_ hlt
      have hax : a.getD i 0#8 = x := by rw [← hxe]; simp [List.getD_eq_getElem?_getD, hl]
      have hp := pad_snoc b i
      have hq := pad_snoc z i
      have ht := three_snoc a b z i
      rw [hax] at ht
      clear hxe hax
      have hbd : (i < m ∧ ∃ ad2, A2 = some ad2 ∧ ad2.block < w.heap.size ∧ wr.cell? (ad2.add i) = some (.int .u8 (n8 (b.getD i 0#8)))) ∨ (m ≤ i ∧ b.getD i 0#8 = 0#8) := by
        by_cases hb : i < m
        · obtain ⟨ad2, y, hl2, e2, hlt2, hye, hcy⟩ := (h2.below hbr).at_ hb
          have : b.getD i 0#8 = y := by rw [← hye]; simp [List.getD_eq_getElem?_getD, hl2]
          exact .inl ⟨hb, ad2, e2, hlt2, by rw [this]; exact hcy⟩
        · exact .inr ⟨by omega, by simp [List.getD_eq_getElem?_getD, List.getElem?_eq_none (show b.length ≤ i by have := hlb.out; omega)]⟩
      have hzd : (i < k ∧ ∃ ad3, A3 = some ad3 ∧ ad3.block < w.heap.size ∧ wr.cell? (ad3.add i) = some (.int .u8 (n8 (z.getD i 0#8)))) ∨ (k ≤ i ∧ z.getD i 0#8 = 0#8) := by
        by_cases hb : i < k
        · obtain ⟨ad2, y, hl2, e2, hlt2, hye, hcy⟩ := (h3.below hbr).at_ hb
          have : z.getD i 0#8 = y := by rw [← hye]; simp [List.getD_eq_getElem?_getD, hl2]
          exact .inl ⟨hb, ad2, e2, hlt2, by rw [this]; exact hcy⟩
        · exact .inr ⟨by omega, by simp [List.getD_eq_getElem?_getD, List.getElem?_eq_none (show z.length ≤ i by have := hlz.out; omega)]⟩
      generalize b.getD i 0#8 = y at *
      generalize z.getD i 0#8 = u at *
      have f1 := xor8 x y
      have f2 := xor8 (x ^^^ y) u
      have Hp : Hid ((pad b i).map bv ++ [.int .u8 (n8 y)] = (pad b (i + 1)).map bv) := by show _ = _; rw [hp, List.map_append]; rfl
      have Hq : Hid ((pad z i).map bv ++ [.int .u8 (n8 u)] = (pad z (i + 1)).map bv) := by show _ = _; rw [hq, List.map_append]; rfl
      have Ht : Hid ((three a b z i).map bv ++ [.int .u8 (n8 (x ^^^ y ^^^ u))] = (three a b z (i + 1)).map bv) := by show _ = _; rw [ht, List.map_append]; rfl
      clear hp hq ht
      have hx0 : n8 (0#8) = 0 := rfl
      have Hbd : Hid ((i < m ∧ ∃ ad2, A2 = some ad2 ∧ ad2.block < w.heap.size ∧ wr.cell? (ad2.add i) = some (.int .u8 (n8 y))) ∨ (m ≤ i ∧ n8 y = 0)) := by
        rcases hbd with h | ⟨h, e⟩
        · exact .inl h
        · exact .inr ⟨h, by rw [e, hx0]⟩
      have Hzd : Hid ((i < k ∧ ∃ ad2, A3 = some ad2 ∧ ad2.block < w.heap.size ∧ wr.cell? (ad2.add i) = some (.int .u8 (n8 u))) ∨ (k ≤ i ∧ n8 u = 0)) := by
        rcases hzd with h | ⟨h, e⟩
        · exact .inl h
        · exact .inr ⟨h, by rw [e, hx0]⟩
      clear hx0 hbd hzd
      generalize n8 (x ^^^ y ^^^ u) = V at *
      generalize n8 (x ^^^ y) = U1 at *
      generalize n8 x = X at *
      generalize n8 y = Y at *
      generalize n8 u = U at *
      have F1 := Lib.hid f1
      have F2 := Lib.hid f2
      clear f1 f2
      go_upto_if 30 with fail
      go_cut [11] (fun s11 wx => s11 = .int .u8 Y ∧ wx = wr)
      case first =>
        rcases Hbd.out with ⟨hb, ad2, rfl, hlt2, hcb⟩ | ⟨hb, rfl⟩
        all_goals
          clear Hbd Hzd
          go_wp2_with fail
          go_meet
          exact ⟨rfl, rfl⟩
      case rest =>
      obtain ⟨rfl, hwx⟩ := hcut
      subst hwx
      go_upto_if 38 with fail
      go_cut [12] (fun s12 wx => s12 = .int .u8 U ∧ wx = wc)
      case first =>
        rcases Hzd.out with ⟨hb, ad2, rfl, hlt2, hcb⟩ | ⟨hb, rfl⟩
        all_goals
          clear Hbd Hzd
          go_wp2_with fail
          go_meet
          exact ⟨rfl, rfl⟩
      case rest =>
        obtain ⟨rfl, hwx⟩ := hcut
        subst hwx
        clear Hbd Hzd
        have f1 := F1.out
        have f2 := F2.out
        go_wp2_with (first
          | (at_builtin; refine Mem.wpList_app rfl rfl elb (base := w.heap.size) (World.ownsRow.alloc OX _) rfl rfl (Mem.new_sl (n := 1) (xs := [.int .u8 Y]) rfl rfl rfl) (by simp [Value.oneCell']) (N := i + 1) (ys := (pad b (i + 1)).map bv) (by omega) Hp.out (by unfold maxLen; omega) (by omega) (by simp; omega) ?_; intro AX' cx' w2 OX2 hgx hatx
             have L2 : Below w.heap.size w w2 := (hbr.alloc hz _).grown hgx (by simp; omega) (fun k hk => (World.ownsRow.lt OX k hk).1)
             have z2 := L2.size
             have OY2 : Own w2 w.heap.size AY i cy (pad z i) := Own.keep (World.ownsRow.alloc OY _) hgx sxy.symm
             have OZ2 : Own w2 w.heap.size AZ i cz (three a b z i) := Own.keep (World.ownsRow.alloc OZ _) hgx sxz.symm
             have sxy2 : Sep AX' AY := Sep.step sxy (World.ownsRow.alloc OY _) hatx
             have sxz2 : Sep AX' AZ := Sep.step sxz (World.ownsRow.alloc OZ _) hatx
             clear hgx hatx)
          | (at_builtin; refine Mem.wpList_app rfl rfl elb (base := w.heap.size) (World.ownsRow.alloc OY2 _) rfl rfl (Mem.new_sl (n := 1) (xs := [.int .u8 U]) rfl rfl rfl) (by simp [Value.oneCell']) (N := i + 1) (ys := (pad z (i + 1)).map bv) (by omega) Hq.out (by unfold maxLen; omega) (by omega) (by simp; omega) ?_; intro AY' cy' w3 OY3 hgy haty
             have L3 : Below w.heap.size w w3 := (L2.alloc z2 _).grown hgy (by simp; omega) (fun k hk => (World.ownsRow.lt OY2 k hk).1)
             have z3 := L3.size
             have hcx3 : w3.cell? (ad.add i) = some (.int .u8 X) := (L3.cell (by rw [Mem.add_block]; exact hadb)).trans hcx
             have OX3 : Own w3 w.heap.size AX' (i + 1) cx' (pad b (i + 1)) := Own.keep (World.ownsRow.alloc OX2 _) hgy sxy2
             have OZ3 : Own w3 w.heap.size AZ i cz (three a b z i) := Own.keep (World.ownsRow.alloc OZ2 _) hgy syz.symm
             have sxy3 : Sep AX' AY' := (Sep.step sxy2.symm (World.ownsRow.alloc OX2 _) haty).symm
             have syz3 : Sep AY' AZ := Sep.step syz (World.ownsRow.alloc OZ2 _) haty
             clear hgy haty)
          | (at_builtin; refine Mem.wpList_app rfl rfl elb (base := w.heap.size) (World.ownsRow.alloc OZ3 _) rfl rfl (Mem.new_sl (n := 1) (xs := [.int .u8 V]) rfl rfl rfl) (by simp [Value.oneCell']) (N := i + 1) (ys := (three a b z (i + 1)).map bv) (by omega) Ht.out (by unfold maxLen; omega) (by omega) (by simp; omega) ?_; intro AZ' cz' w4 OZ4 hgz hatz
             have L4 : Below w.heap.size w w4 := (L3.alloc z3 _).grown hgz (by simp; omega) (fun k hk => (World.ownsRow.lt OZ3 k hk).1)
             have OX4 : Own w4 w.heap.size AX' (i + 1) cx' (pad b (i + 1)) := Own.keep (World.ownsRow.alloc OX3 _) hgz sxz2
             have OY4 : Own w4 w.heap.size AY' (i + 1) cy' (pad z (i + 1)) := Own.keep (World.ownsRow.alloc OY3 _) hgz syz3
             have sxz4 : Sep AX' AZ' := (Sep.step sxz2.symm (World.ownsRow.alloc OX3 _) hatz).symm
             have syz4 : Sep AY' AZ' := (Sep.step syz3.symm (World.ownsRow.alloc OY3 _) hatz).symm
             clear hgz hatz))
        go_roundw
        case rel => exact ⟨i + 1, by omega, by go_num, L4, AX', cx', AY', cy', AZ', cz', rfl, rfl, rfl, OX4, OY4, OZ4, sxy3, sxz4, syz4⟩
        case measure => simp [intOf]; omega
    · obtain rfl : i = n := by omega
      have hfin := of_three a b z i hla.out
      have Hfin := Lib.hid hfin
      clear hfin sxy sxz syz
      go_wp2_with fail
      refine (of_c AZ i cz (three a b z i) _ OZ.bs (by omega)).mono ?_
      rintro e w2 ⟨rfl, hb2⟩
      have L2 : Below w.heap.size w w2 := hbr.trans (hb2.mono hz)
      have OX2 : Own w2 w.heap.size AX i cx (pad b i) := own_below OX hb2 (Nat.le_refl _)
      have OY2 : Own w2 w.heap.size AY i cy (pad z i) := own_below OY hb2 (Nat.le_refl _)
      clear hb2 OX OY OZ
      go_wp2_with fail
      refine (of_c A i c a _ ((h1.below L2).more L2.size) (by omega)).mono ?_
      rintro e w3 ⟨rfl, hb3⟩
      have L3 : Below w.heap.size w w3 := L2.trans (hb3.mono L2.size)
      have OX3 : Own w3 w.heap.size AX i cx (pad b i) := own_below OX2 hb3 (Nat.le_refl _)
      have OY3 : Own w3 w.heap.size AY i cy (pad z i) := own_below OY2 hb3 (Nat.le_refl _)
      clear hb3 OX2 OY2 L2
      go_wp2_with fail
      refine (of_c AX i cx (pad b i) _ OX3.bs (by omega)).mono ?_
      rintro e w4 ⟨rfl, hb4⟩
      have L4 : Below w.heap.size w w4 := L3.trans (hb4.mono L3.size)
      have OY4 : Own w4 w.heap.size AY i cy (pad z i) := own_below OY3 hb4 (Nat.le_refl _)
      clear hb4 OX3 OY3 L3
      have f1 := xor32 (of a) (of (pad b i))
      go_wp2_with fail
      refine (of_c AY i cy (pad z i) _ OY4.bs (by omega)).mono ?_
      rintro e w5 ⟨rfl, hb5⟩
      have L5 : Below w.heap.size w w5 := L4.trans (hb5.mono L4.size)
      have f2 := xor32 (of a ^^^ of (pad b i)) (of (pad z i))
      rw [← Hfin.out] at f2
      go_wp2
      go_ret
      exact ⟨rfl, L5⟩
theorem walk (v1 v2 v3 : Value) (w : World) (h1 : Frame.Arg Try.prog w 22 v1) (h2 : Frame.Arg Try.prog w 22 v2) (h3 : Frame.Arg Try.prog w 22 v3) :
    Calls Try.prog 7 #[v1, v2, v3] w fun e w' => e = .returned (.bool true) ∧ Below w.heap.size w w' := by
  obtain ⟨A, n, c, a, rfl, hc, hm, hr⟩ := arg_bs h1 Try.underlying22 Try.underlying5 (by kernel_rfl)
  obtain ⟨A2, n2, c2, b, rfl, hc2, hm2, hr2⟩ := arg_bs h2 Try.underlying22 Try.underlying5 (by kernel_rfl)
  obtain ⟨A3, n3, c3, z, rfl, hc3, hm3, hr3⟩ := arg_bs h3 Try.underlying22 Try.underlying5 (by kernel_rfl)
  by_cases hs : n ≤ 500
  · exact core A A2 A3 n c n2 c2 n3 c3 a b z w hr hr2 hr3 hs (by omega) (by omega)
  · have h : 500 < n := by omega
    clear hs
    unfold maxLen at hm hm2 hm3
    go_enter Try.func7, Try.ntmps7
    go_wp2_with fail
    refine (awake_c _).mono ?_
    rintro e w1 ⟨rfl, hb1⟩
    go_wp2_with fail
    refine (awake_c _).mono ?_
    rintro e w2 ⟨rfl, hb2⟩
    go_wp2
    go_ret
    exact ⟨rfl, hb1.trans (hb2.mono hb1.size)⟩
end Go.Proofs.Ytmgippcbfeemnaa.sumLinear
