/- The walks of layer 15 (image): find, put, drop. -/
import Derived.Test.YthccojfflmfggaaWorC
namespace Go.Proofs.Ythccojfflmfggaa
open Go.RowKit
namespace Wo
set_option maxRecDepth 100000 in
theorem iat_c (A : Option Addr) (n c : Nat) (im : List ImgV) (s : ByteArray) (w : World) (h : Mem.Sl w w.heap.size 3 A n (ImgV.flat im)) (hr : Str.Rises (nms im)) (hlen : im.length = n) (hn : n ≤ 1000000) :
    Calls Try.prog 54 #[.slice A n c, .string s] w fun e w' => e = .returned (.tuple #[.int .i64 (Str.pos (nms im) s), .bool (Str.has (nms im) s)]) ∧ Below w.heap.size w w' := by
  have hc := Lib.hid (isearch_c A n c im s w h hr hlen hn)
  generalize Str.pos (nms im) s = P at *
  generalize Str.has (nms im) s = F at *
  clear h hr
  go_enter Try.func54, Try.ntmps54
  go_wp2_with fail
  refine hc.out.mono ?_
  rintro e w' ⟨rfl, h2⟩
  go_wp2_with fail
  go_ret2
  exact ⟨rfl, h2⟩
/-- an image of a name -/
def theI (im : List ImgV) (s : ByteArray) : Option ImgV := if Str.has (nms im) s then im[Str.pos (nms im) s]? else none
theorem theI_some {im : List ImgV} {s : ByteArray} (hr : Str.Rises (nms im)) (h : Str.has (nms im) s = true) : ∃ (hl : Str.pos (nms im) s < im.length), theI im s = some im[Str.pos (nms im) s] ∧ im[Str.pos (nms im) s].name = s := by
  obtain ⟨hp, e⟩ := Str.has_at hr h
  have hl : Str.pos (nms im) s < im.length := by rw [nms_len] at hp; exact hp
  refine ⟨hl, ?_, ?_⟩
  · unfold theI
    rw [h, if_pos rfl, List.getElem?_eq_getElem hl]
  · rw [← nms_at hl hp]; exact e
theorem theI_none {im : List ImgV} {s : ByteArray} (h : Str.has (nms im) s = false) : theI im s = none := by
  unfold theI
  rw [h]
  rfl
set_option maxRecDepth 100000 in
set_option maxHeartbeats 1000000 in
theorem find_c (A : Option Addr) (n c : Nat) (im : List ImgV) (s : ByteArray) (w : World) (h : Mem.Sl w w.heap.size 3 A n (ImgV.flat im)) (hr : Str.Rises (nms im)) (hlen : im.length = n) (hn : n ≤ 1000000) :
    Calls Try.prog 31 #[.slice A n c, .string s] w fun e w' => ∃ p : ImgV, e = .returned (.tuple #[.agg p.arr, .bool (Str.has (nms im) s)]) ∧ Below w.heap.size w w' := by
  have hat := fun w' (hb : Below w.heap.size w w') => iat_c A n c im s w' ((h.below hb).more hb.size) hr hlen hn
  cases hh : Str.has (nms im) s
  · rw [hh] at hat
    have Hat := Lib.hid hat
    generalize Str.pos (nms im) s = P at *
    clear h hr hh hat
    go_enter Try.func31, Try.ntmps31
    go_wp2_with fail
    refine (Hat.out _ ((Below.refl _ _).alloc (Nat.le_refl _) _)).mono ?_
    rintro e w1 ⟨rfl, hb1⟩
    have N1 := Mem.Blk.belowS (Mem.Blk.new (w := w) (t := 54) (cs := #[.string ⟨#[]⟩, .int .i64 0, .int .i64 0])) hb1
    have hr0 : w1.cell? ⟨w.heap.size, 0, none⟩ = some (.string ⟨#[]⟩) := N1.cell 0
    have hr1 : w1.cell? ⟨w.heap.size, 1, none⟩ = some (.int .i64 0) := N1.cell 1
    have hr2 : w1.cell? ⟨w.heap.size, 2, none⟩ = some (.int .i64 0) := N1.cell 2
    have hf1 := N1.frozen
    have hbl : Below w.heap.size w w1 := ((Below.refl _ _).alloc (Nat.le_refl _) _).trans (hb1.mono (by simp))
    clear N1 hb1 Hat
    go_wp2_with fail
    refine bodyPost_ret (v := .tuple #[.agg #[.string ⟨#[]⟩, .int .i64 0, .int .i64 0], .bool false]) (by simp [results, Try.results31, go_sem, hr0, hr1, hr2]) rfl ⟨⟨⟨#[]⟩, 0, 0⟩, rfl, ?_⟩
    exact ((hbl.setCell (by simp) _).setCell (by simp) _).setCell (by simp) _
  · obtain ⟨hl, ht, _⟩ := theI_some hr hh
    rw [hh] at hat
    have Hat := Lib.hid hat
    obtain ⟨ad, hl2, rfl, hbk, _, hc⟩ := ImgV.at_ h (k := Str.pos (nms im) s) (by omega)
    obtain ⟨q, hq⟩ : ∃ q, q = im[Str.pos (nms im) s] := ⟨_, rfl⟩
    rw [← hq] at hc
    clear hq ht hh hat
    obtain ⟨P, hP⟩ : ∃ P, P = Str.pos (nms im) s := ⟨_, rfl⟩
    rw [← hP] at Hat hc hl hl2
    clear hP
    obtain ⟨qi, qs, ql⟩ := q
    have hP : P < n := by omega
    clear h hr hl2 hl
    go_enter Try.func31, Try.ntmps31
    go_wp2_with fail
    refine (Hat.out _ ((Below.refl _ _).alloc (Nat.le_refl _) _)).mono ?_
    rintro e w1 ⟨rfl, hb1⟩
    have N1 := Mem.Blk.belowS (Mem.Blk.new (w := w) (t := 54) (cs := #[.string ⟨#[]⟩, .int .i64 0, .int .i64 0])) hb1
    have hr0 : w1.cell? ⟨w.heap.size, 0, none⟩ = some (.string ⟨#[]⟩) := N1.cell 0
    have hr1 : w1.cell? ⟨w.heap.size, 1, none⟩ = some (.int .i64 0) := N1.cell 1
    have hr2 : w1.cell? ⟨w.heap.size, 2, none⟩ = some (.int .i64 0) := N1.cell 2
    have hf1 := N1.frozen
    have hbl : Below w.heap.size w w1 := ((Below.refl _ _).alloc (Nat.le_refl _) _).trans (hb1.mono (by simp))
    have hc' := hc.below hbl (by rw [Mem.add_block]; exact hbk)
    obtain ⟨c0, c1, c2⟩ := hc'
    dsimp only at c0 c1 c2
    clear N1 hb1 hc Hat
    go_wp2_with fail
    refine bodyPost_ret (v := .tuple #[.agg #[.string qi, .int .i64 qs, .int .i64 ql], .bool true]) (by simp [results, Try.results31, go_sem, hr0, hr1, hr2]) rfl ⟨⟨qi, qs, ql⟩, rfl, ?_⟩
    exact ((hbl.setCell (by simp) _).setCell (by simp) _).setCell (by simp) _
/-- the images with one more, or one used later -/
def putI (im : List ImgV) (s : ByteArray) (size round : Int) : List ImgV := if Str.has (nms im) s then im.set (Str.pos (nms im) s) ⟨s, (im.getD (Str.pos (nms im) s) ⟨s, 0, 0⟩).size, round⟩ else im.take (Str.pos (nms im) s) ++ ⟨s, size, round⟩ :: im.drop (Str.pos (nms im) s)
theorem flati_mid {im : List ImgV} {P : Nat} (h : P < im.length) : ImgV.flat im = ImgV.flat (im.take P) ++ (im[P].cells ++ ImgV.flat (im.drop (P + 1))) := by
  rw [← ImgV.flat_cons, ← ImgV.flat_app, ← List.drop_eq_getElem_cons h, List.take_append_drop]
theorem flati_set2 {im : List ImgV} {P : Nat} (h : P < im.length) (z : Int) : (ImgV.flat im).set (P * 3 + 2) (.int .i64 z) = ImgV.flat (im.set P ⟨im[P].name, im[P].size, z⟩) := by
  have e : im.set P ⟨im[P].name, im[P].size, z⟩ = im.take P ++ ⟨im[P].name, im[P].size, z⟩ :: im.drop (P + 1) := by
    rw [List.set_eq_take_append_cons_drop, if_pos h]
  have hl : (ImgV.flat (im.take P)).length = P * 3 := by rw [ImgV.flat_len, List.length_take]; congr 1; omega
  rw [e, ImgV.flat_app, ImgV.flat_cons, flati_mid h, List.set_append_right _ _ (by omega), hl, Nat.add_sub_cancel_left]
  rfl
/-- new images -/
def NewI (n : Nat) (im : List ImgV) (w : World) (e : Ending) (w' : World) : Prop := ∃ A' c', e = .returned (.slice A' n c') ∧ IRow w' A' n c' im ∧ Below w.heap.size w w' ∧ ∀ b, Ro.blk A' = some b → w.heap.size ≤ b
set_option maxRecDepth 100000 in
set_option maxHeartbeats 4000000 in
theorem put_c (A : Option Addr) (n c : Nat) (im : List ImgV) (s : ByteArray) (size round : Int) (w : World) (h : Mem.Sl w w.heap.size 3 A n (ImgV.flat im)) (hr : Str.Rises (nms im)) (hlen : im.length = n) (hn : n ≤ 100000) (hA : A = none → n = 0 ∧ c = 0) :
    Calls Try.prog 34 #[.slice A n c, .string s, .int .i64 size, .int .i64 round] w (NewI (putI im s size round).length (putI im s size round) w) := by
  have hat := iat_c A n c im s w h hr hlen (by omega)
  have hcl := Lib.hid (fun w' (hb : Below w.heap.size w w') => clonei_c A n c im w' ((h.below hb).more hb.size) (by omega) hA)
  have hpl : Str.pos (nms im) s ≤ n := by have := Str.pos_le (nms im) s; rw [nms_len] at this; omega
  cases hh : Str.has (nms im) s
  · have hI : Hid (putI im s size round = im.take (Str.pos (nms im) s) ++ ⟨s, size, round⟩ :: im.drop (Str.pos (nms im) s)) := by
      show _ = _
      unfold putI
      rw [hh, if_neg (by decide)]
    have hL : Hid ((putI im s size round).length = n + 1) := by
      show _ = _
      rw [hI.out]
      simp
      omega
    rw [hh] at hat
    have Hat := Lib.hid hat
    obtain ⟨P, hP⟩ : ∃ P, P = Str.pos (nms im) s := ⟨_, rfl⟩
    rw [← hP] at Hat hpl hI
    generalize putI im s size round = im' at *
    clear h hr hh hat hP
    go_enter Try.func34, Try.ntmps34
    go_wp2_with fail
    refine Hat.out.mono ?_
    rintro e w1 ⟨rfl, hb1⟩
    go_wp2_with fail
    refine (hcl.out _ hb1).mono ?_
    rintro e w2 ⟨A2, c2, rfl, hR2, hb2, hA2⟩
    have B2 : Below w.heap.size w w2 := hb1.trans (hb2.mono hb1.size)
    have hA3 := Lib.hid hA2
    have hz := B2.size
    have hz1 := hb1.size
    clear Hat hb1 hb2 hcl hA2
    go_wp2_with fail
    refine (inserti_c A2 n c2 P w2.heap.size im ⟨s, size, round⟩ _ (Ro.Row.keep hR2 fun k hk => Below.heap_alloc w2 _ k (Ro.Row.lt hR2 hk)) hpl Mem.Blk.new (fun c => by have := Ro.Row.lt hR2 c; omega) (by omega)).mono ?_
    rintro e w3 ⟨A3, c3, rfl, hR3, hO3, hb3⟩
    have B3 : Below w.heap.size w w3 := (B2.alloc hz _).trans (hO3.below (by simp; omega) (fun k hk e => by have := hA3.out k e; omega))
    go_wp2_with fail
    go_ret
    rw [hL.out, hI.out]
    refine ⟨A3, c3, rfl, hR3, B3, fun b hb => ?_⟩
    rcases hb3 with hb3 | ⟨k, hk, hk2⟩
    · rw [hb3] at hb; have := hA3.out b hb; omega
    · have : k = b := by rw [hk] at hb; simpa using hb
      simp at hk2
      omega
  · obtain ⟨hl, ht, hnm⟩ := theI_some hr hh
    have hI0 : ∀ (P : Nat) (_ : P = Str.pos (nms im) s) (hl : P < im.length), putI im s size round = im.set P ⟨im[P].name, im[P].size, round⟩ := by
      rintro _ rfl _
      unfold putI
      rw [hh, if_pos rfl, List.getD_eq_getElem?_getD, List.getElem?_eq_getElem hl, Option.getD_some, hnm]
    have hL : Hid ((putI im s size round).length = n) := by
      show _ = _
      rw [hI0 _ rfl hl]
      simpa using hlen
    rw [hh] at hat
    have Hat := Lib.hid hat
    obtain ⟨P, hP⟩ : ∃ P, P = Str.pos (nms im) s := ⟨_, rfl⟩
    have hl' : P < im.length := by rw [hP]; exact hl
    have hI := Lib.hid (hI0 P hP hl')
    rw [← hP] at Hat hpl
    clear hl hI0 ht hnm
    rename P < im.length => hl
    generalize putI im s size round = im' at *
    clear h hr hh hat hP
    go_enter Try.func34, Try.ntmps34
    go_wp2_with fail
    refine Hat.out.mono ?_
    rintro e w1 ⟨rfl, hb1⟩
    go_wp2_with fail
    refine (hcl.out _ hb1).mono ?_
    rintro e w2 ⟨A2, c2, rfl, hR2, hb2, hA2⟩
    have B2 : Below w.heap.size w w2 := hb1.trans (hb2.mono hb1.size)
    have hz := B2.size
    have hz1 := hb1.size
    have hle2 := Ro.Row.le hR2
    obtain ⟨gI, off, rfl⟩ := Ro.Row.some_of hR2 (by omega)
    have hg := hA2 gI rfl
    have hlt : P * 3 + 2 < (ImgV.flat im).length := by rw [ImgV.flat_len]; omega
    have hcell := Ro.Row.cell hR2 (P * 3 + 2) hlt
    have hget : (ImgV.flat im)[P * 3 + 2] = .int .i64 im[P].last := by
      have := ImgV.flat_get im P 2 hl (by decide)
      rw [List.getElem?_eq_getElem hlt] at this
      exact Option.some.inj this
    rw [hget, ← Nat.add_assoc] at hcell
    have hfz := Ro.Row.frozen hR2
    have hset := Ro.Row.set1 hR2 (P * 3 + 2) hlt (.int .i64 round)
    rw [flati_set2 hl, ← Nat.add_assoc] at hset
    have HS := Lib.hid hset
    have hA3 := Lib.hid hA2
    generalize im[P].last = ls at *
    clear Hat hb1 hb2 hcl hA2 hset hR2 hget
    go_wp2_with fail
    go_ret
    rw [hL.out, hI.out]
    exact ⟨some ⟨gI, off, none⟩, c2, rfl, HS.out, B2.setCell (by show w.heap.size ≤ gI; omega) _, fun b hb => by have := hA3.out b hb; omega⟩
end Wo
end Go.Proofs.Ythccojfflmfggaa
