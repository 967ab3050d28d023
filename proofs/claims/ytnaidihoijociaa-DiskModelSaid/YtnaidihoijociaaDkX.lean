/- The document's layer 10: Do, renaming and removing. -/
import Derived.Test.YtnaidihoijociaaDkV
namespace Go.Proofs.Ytnaidihoijociaa
open Go.RowKit Go.Maps
namespace Dk
open Bs
open Crc (Byte)
set_option maxRecDepth 100000 in
set_option maxHeartbeats 4000000 in
theorem rdo_2 {w : World} {C C0 : Nat → Prop} {A bA : Option Addr} {n c bn bc : Nat} {l : List FlV} {nm nt : ByteArray} {bs : List Byte} (h : Fr w C A n c l) (hr : Rise (fls2 l)) (hn : n ≤ 5000) (hs : nt.size ≤ maxLen) :
    Calls Try.prog 44 #[.slice A n c, .agg #[.int .i64 2, .string nm, .string nt, .slice bA bn bc]] w (DoSaid w C (app1 (fls2 l) ⟨2, nm, nt, bs⟩) (n + 1)) := by
  have hb0 : Below w.heap.size w (w.alloc (.cells #[.int .i64 2, .string nm, .string nt, .slice bA bn bc] 29)) := (Below.refl _ _).alloc (Nat.le_refl _) _
  have hl := h.len
  have HF := Lib.hid (find_c A n c l nm _ ((h.below hb0).row.sl) hl (by omega))
  have HW := Lib.hid (without_c A n c l nm _ ((h.below hb0).row.sl) hl (by omega))
  have H := Lib.hid h
  have HB0 := Lib.hid hb0
  have HL := Lib.hid hl
  have HR := Lib.hid hr
  clear h hl hr hb0
  go_enter Try.func44, Try.ntmps44
  go_wp2_with fail
  refine HF.out.mono ?_
  rintro e w1 ⟨hw1, ⟨k, hk, rfl, hf⟩ | ⟨rfl, hnone⟩⟩
  · have hw2 := hw1.symm
    subst hw2
    clear hw1
    have h := H.out
    have hl := HL.out
    have hb0 := HB0.out
    have hr := HR.out
    have hg := fls2_get hr hk hf
    have hlt : k < n := by omega
    obtain ⟨ad, hlk, rfl, hlb, hlb2, hat⟩ := FlV.at_ h.row.sl hlt
    have hat2 := hat.below hb0 hlb2
    have c1 := hat2.c1
    have HK := Lib.hid (h.hold l[k] (List.getElem_mem hk))
    have HG : Hid (app1 (fls2 l) ⟨2, nm, nt, bs⟩ = fput (fdel (fls2 l) (key nm)) (key nt) l[k].bytes) := Lib.hid (by unfold app1; rw [if_neg (show ¬ (2 : Int) = 1 by decide), if_neg (show ¬ (2 : Int) = 3 by decide), if_pos rfl]; dsimp only; rw [hg])
    clear hat hat2 hg hf hr
    generalize l[k] = p at *
    clear hlb hk hlk
    go_wp2_with fail
    refine HW.out.mono ?_
    intro e w1 hp
    obtain ⟨A1, c9, rfl, hb1, hF1⟩ := h.del hb0 hp
    have hle := List.length_filter_le (neF nm) l
    have hLe := Lib.hid hle
    have hfd := Lib.hid (fls2_del l nm)
    have N1 : Mem.Blk w1 w.heap.size 29 #[.int .i64 2, .string nm, .string nt, .slice bA bn bc] := by obtain ⟨_, _, _, hB⟩ := hp; exact Mem.Blk.belowS Mem.Blk.new hB.below
    obtain ⟨x0, x2⟩ := And.intro (N1.cell 0) (N1.cell 2)
    generalize l.filter (neF nm) = r at *
    have HP := Lib.hid (put_c A1 r.length c9 r ⟨nt, p.bytes, p.bytesA, p.bytesn, p.bytesc⟩ w1 hF1.row.sl rfl (by omega))
    have HFin : Hid (∀ e X, NewF (putV r ⟨nt, p.bytes, p.bytesA, p.bytesn, p.bytesc⟩) w1 e X → ∃ v, e = .returned v ∧ DoSaid w C (app1 (fls2 l) ⟨2, nm, nt, bs⟩) (n + 1) (.returned v) X) := Lib.hid fun e X hp => by
      obtain ⟨A', c', rfl, hb, hF⟩ := hF1.put (f := ⟨nt, p.bytes, p.bytesA, p.bytesn, p.bytesc⟩) (Below.refl _ _) ((HK.out.below hb1).mono (fun k hk q _ _ => q)) hs hp
      have hz := hb1.size
      refine ⟨_, rfl, A', c', _, rfl, hb1.trans (hb.mono hz), hF.mono (fun k hk q h9 => q (by omega) h9), ?_, by have := len_putV r ⟨nt, p.bytes, p.bytesA, p.bytesn, p.bytesc⟩; have := hLe.out; omega⟩
      rw [fls2_put, HG.out, hfd.out]
    clear hp hb1 hF1 N1 HW HF hle h hb0
    go_wp2_with fail
    refine HP.out.mono ?_
    intro e X hp
    obtain ⟨v, rfl, hD⟩ := HFin.out e X hp
    have HD := Lib.hid hD
    clear hp hD HP HFin
    go_wp2_with fail
    go_ret
    exact HD.out
  · have hw2 := hw1.symm
    subst hw2
    clear hw1
    have HD : Hid (DoSaid w C (app1 (fls2 l) ⟨2, nm, nt, bs⟩) (n + 1) (.returned (.slice A n c)) (w.alloc (.cells #[.int .i64 2, .string nm, .string nt, .slice bA bn bc] 29))) := Lib.hid (by
      have hl := HL.out
      subst hl
      refine ⟨A, c, l, rfl, HB0.out, (H.out.mono (C' := ext w C) (fun k _ q _ => q)).below HB0.out, ?_, by omega⟩
      have hg := fls2_none hnone
      unfold app1
      rw [if_neg (show ¬ (2 : Int) = 1 by decide), if_neg (show ¬ (2 : Int) = 3 by decide), if_pos rfl]
      dsimp only
      rw [hg])
    clear HF HW hnone
    go_wp2_with fail
    go_ret
    exact HD.out
set_option maxRecDepth 100000 in
set_option maxHeartbeats 4000000 in
theorem rdo_3 {w : World} {C C0 : Nat → Prop} {A bA : Option Addr} {n c bn bc : Nat} {l : List FlV} {nm nt : ByteArray} {bs : List Byte} (h : Fr w C A n c l) (hr : Rise (fls2 l)) (hn : n ≤ 5000) (hs : nt.size ≤ maxLen) :
    Calls Try.prog 44 #[.slice A n c, .agg #[.int .i64 3, .string nm, .string nt, .slice bA bn bc]] w (DoSaid w C (app1 (fls2 l) ⟨3, nm, nt, bs⟩) (n + 1)) := by
  have hb0 : Below w.heap.size w (w.alloc (.cells #[.int .i64 3, .string nm, .string nt, .slice bA bn bc] 29)) := (Below.refl _ _).alloc (Nat.le_refl _) _
  have hl := h.len
  have HF := Lib.hid (find_c A n c l nm _ ((h.below hb0).row.sl) hl (by omega))
  have HW := Lib.hid (without_c A n c l nm _ ((h.below hb0).row.sl) hl (by omega))
  have H := Lib.hid h
  have HB0 := Lib.hid hb0
  have HL := Lib.hid hl
  have HR := Lib.hid hr
  clear h hl hr hb0
  go_enter Try.func44, Try.ntmps44
  go_wp2_with fail
  refine HF.out.mono ?_
  rintro e w1 ⟨hw1, ⟨k, hk, rfl, hf⟩ | ⟨rfl, hnone⟩⟩
  · have hw2 := hw1.symm
    subst hw2
    clear hw1
    have h := H.out
    have hl := HL.out
    have hb0 := HB0.out
    have hr := HR.out
    have hlt : k < n := by omega
    obtain ⟨ad, hlk, rfl, hlb, hlb2, hat⟩ := FlV.at_ h.row.sl hlt
    have hat2 := hat.below hb0 hlb2
    have c1 := hat2.c1
    clear hat hat2 hf hr
    generalize l[k] = p at *
    clear hlb hk hlk
    go_wp2_with fail
    refine HW.out.mono ?_
    intro e w1 hp
    obtain ⟨A1, c9, rfl, hb1, hF1⟩ := h.del hb0 hp
    have hLe := Lib.hid (List.length_filter_le (neF nm) l)
    have N1 : Mem.Blk w1 w.heap.size 29 #[.int .i64 3, .string nm, .string nt, .slice bA bn bc] := by obtain ⟨_, _, _, hB⟩ := hp; exact Mem.Blk.belowS Mem.Blk.new hB.below
    have x0 := N1.cell 0
    have HD : Hid (DoSaid w C (app1 (fls2 l) ⟨3, nm, nt, bs⟩) (n + 1) (.returned (.slice A1 (l.filter (neF nm)).length c9)) w1) := Lib.hid ⟨A1, c9, _, rfl, hb1, hF1, by rw [fls2_del]; rfl, by have := hLe.out; omega⟩
    clear hp hb1 hF1 N1 HW HF h hb0
    go_wp2_with fail
    go_ret
    exact HD.out
  · have hw2 := hw1.symm
    subst hw2
    clear hw1
    have HD : Hid (DoSaid w C (app1 (fls2 l) ⟨3, nm, nt, bs⟩) (n + 1) (.returned (.slice A n c)) (w.alloc (.cells #[.int .i64 3, .string nm, .string nt, .slice bA bn bc] 29))) := Lib.hid (by
      have hl := HL.out
      subst hl
      refine ⟨A, c, l, rfl, HB0.out, (H.out.mono (C' := ext w C) (fun k _ q _ => q)).below HB0.out, ?_, by omega⟩
      have hg := fls2_none hnone
      unfold app1
      rw [if_neg (show ¬ (3 : Int) = 1 by decide), if_pos rfl]
      dsimp only
      unfold fdel
      refine (List.filter_eq_self.2 fun p hp => ?_).symm
      unfold fls2 at hp
      obtain ⟨q, hq, rfl⟩ := List.mem_map.1 hp
      have := hnone q hq
      rw [isF_key] at this
      rw [this]
      rfl)
    clear HF HW hnone
    go_wp2_with fail
    go_ret
    exact HD.out
end Dk
end Go.Proofs.Ytnaidihoijociaa
