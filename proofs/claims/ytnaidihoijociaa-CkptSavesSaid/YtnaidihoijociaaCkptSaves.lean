/- CkptSaves: the walk. -/
import Derived.Test.YtnaidihoijociaaCkA
namespace Go.Proofs.Ytnaidihoijociaa.ckptSaves
open Go.RowKit Go.Maps Dk Bs Ck
open Crc (Byte)
set_option maxRecDepth 100000 in
set_option maxHeartbeats 16000000 in
theorem core (A : Option Addr) (n c : Nat) (L : List Bd) (r : Int) (w : World) (h1 : Bds w A n c L) (hr : 0 ≤ r ∧ r ≤ 4294967295) :
    Calls Try.prog 10 #[.slice A n c, .int .u32 r] w fun e w' => e = .returned (.bool true) ∧ Below w.heap.size w w' := by
  have hm1 := h1.le
  have H1 := Lib.hid h1
  clear h1
  unfold maxLen at hm1
  go_enter Try.func10, Try.ntmps10
  go_wp2_with fail
  refine (Ck.awake_c _).mono ?_
  rintro e w1 ⟨rfl, hb1⟩
  have HF := Lib.hid (Ck.few_c A n c L H1.out hb1)
  go_wp2_with fail
  refine HF.out.mono ?_
  rintro e wf ⟨b, rfl, hf, hwf⟩
  have hwf2 := hwf.symm
  subst hwf2
  clear hwf HF
  cases b with
  | false =>
    go_wp2_with fail
    refine (Ck.awake_c _).mono ?_
    rintro e w2 ⟨rfl, hb2⟩
    go_wp2_with fail
    go_ret
    exact ⟨rfl, hb1.trans (hb2.mono hb1.size)⟩
  | true =>
  have hn20 := (hf rfl).n
  have HFw := Lib.hid (hf rfl).all
  clear hf
  go_wp2_with fail
  refine ((Fm.start hb1).news (j := 1) rfl (by decide)).mono ?_
  intro e w2 hp
  obtain ⟨g, rfl, hS⟩ := CK.new hp
  have D1 := Lib.hid (open_none hS .none)
  clear hp hS hb1
  go_wp2_with fail
  refine D1.out.mono ?_
  rintro e w3 ⟨s0, rfl, hS3, -⟩
  have H3 : Hid (∃ m, Lim m ∧ CK w w3 g ⟨fsOf m none, []⟩ [(s0, 91, stk g ((0 : Nat) : Int))] []) := Lib.hid ⟨none, .none, hS3⟩
  clear D1 hS3
  go_wp2_with fail
  go_loopw [6, 9] (fun vs vi wr => ∃ k sb : Nat, k ≤ n ∧ vs = .pointer (some ⟨sb, 0, none⟩) ∧ vi = .int .i64 k ∧ Hid (∃ m, Lim m ∧ CK w wr g ⟨fsOf m none, []⟩ [(sb, 91, stk g (k : Int))] [])) (fun _ i _ => n - (intOf i).toNat)
  case atStart => exact ⟨0, s0, by omega, rfl, rfl, H3⟩
  case round =>
    clear H3
    obtain ⟨k, sb, hk, rfl, rfl, HX⟩ := hrel
    obtain ⟨m, hm, hX⟩ := HX.out
    by_cases hlt : k < n
    · obtain ⟨ad, hl, rfl, hbk, -⟩ := H1.out.at_ (Below.refl _ _) hlt
      have HAt : Hid (∀ X, Below w.heap.size w X → X.cell? (ad.add k) = some (.slice L[k].1 L[k].2.1 L[k].2.2.1)) := Lib.hid (fun X hX => by
        obtain ⟨ad', _, e, _, h⟩ := H1.out.at_ hX hlt
        cases e
        exact h)
      have hbn := HFw.out L[k] (List.getElem_mem hl)
      have HH := Lib.hid (H1.out.hold L[k] (List.getElem_mem hl))
      generalize L[k] = p at *
      obtain ⟨bA, bn, bc, bs⟩ := p
      dsimp only at hbn HH HAt
      have HL := Lib.hid HH.out.len
      have D2 := Lib.hid (save_c (c := bc) hX (fun x hx => (by cases hx)) (by omega) hm (HH.out.below hX.base).sl (by omega))
      have q0 := HAt.out wr hX.base
      clear hX HX hm hl hbk
      go_wp2_with fail
      refine D2.out.mono ?_
      rintro e w4 ⟨rfl, hS4⟩
      have H4 := Lib.hid hS4
      have D3 := Lib.hid (version_c w4 (hS4.blk (List.mem_cons_self ..)))
      clear D2 hS4 q0
      go_wp2_with fail
      refine D3.out.mono ?_
      rintro e wa ⟨rfl, hwa⟩
      subst hwa
      obtain ⟨f1, f2, f3, f4⟩ := frame_facts (v := (k : Int) + 1) (body := bs) (by omega) (by omega) (by have := HL.out; omega)
      have D4 := Lib.hid (H4.out.read (name := tM) (fits_of (.some f4) .none) (by omega) (show (4 : Nat) ≤ maxLen by decide))
      have D7 := Lib.hid (fun (X : World) (hX : Below wa.heap.size wa X) => (H4.out.below hX).names (fits_of (.some f4) .none) (by omega))
      rw [look_of, get_main] at D4
      clear D3 f1 f2 f3 f4
      go_wp2_with fail
      refine D4.out.mono ?_
      rintro e w5 ⟨hb5, A5, c5, rfl, hR5, -⟩
      have H5 := Lib.hid (H4.out.below hb5)
      have HB5 := Lib.hid hb5
      have HR5 := Lib.hid hR5.sl
      have D5 := Lib.hid (Crc.rfput_c ((k : Int) + 1) bA bn bc bs w5 (by omega) (by omega) (by omega) (HH.out.below H5.out.base).sl)
      have q0 := HAt.out w5 H5.out.base
      clear D4 hb5 hR5 H4
      go_wp2_with fail
      refine D5.out.mono ?_
      rintro e w6 ⟨A6, c6, rfl, hO6, hb6⟩
      have H6 := Lib.hid (H5.out.below hb6)
      have HB6 := Lib.hid (HB5.out.trans (hb6.mono HB5.out.size))
      have D6 := Lib.hid (Crc.same_c A5 A6 _ c5 _ c6 _ _ _ _ w6 (Bs.below HR5.out hb6) (Crc.Own.bs hO6))
      rw [decide_eq_true rfl] at D6
      clear D5 hb6 hO6 HR5 q0 H5 HB5
      go_wp2_with fail
      refine D6.out.mono ?_
      rintro e wb ⟨rfl, hwb⟩
      subst hwb
      clear D6
      go_wp2_with fail
      refine H6.out.opens.mono ?_
      rintro e wb2 ⟨rfl, hwb2⟩
      subst hwb2
      dsimp only [List.length]
      go_wp2_with fail
      refine (D7.out _ HB6.out).mono ?_
      rintro e w7 ⟨A7, c7, rfl, -, hb7, -⟩
      rw [key_one]
      have H7 := Lib.hid (H6.out.below hb7)
      clear D7 hb7 HB6 H6
      have hck : ((k + 1 : Nat) : Int) = (k : Int) + 1 := by omega
      have HCk := Lib.hid hck
      have HLm : Hid (Lim (some (Crc.frame ((k : Int) + 1) bs))) := Lib.hid (.some (frame_facts (v := (k : Int) + 1) (body := bs) (by omega) (by omega) (by have := HL.out; omega)).2.2.2)
      clear hck
      go_wp2_with fail
      · have D8 := Lib.hid (open_frame H7.out .none (by omega) (by omega) (by have := HL.out; omega))
        refine D8.out.mono ?_
        rintro e w8 ⟨tb, A8, c8, rfl, hS8, -⟩
        have H8 := Lib.hid (hS8.sub (K' := [(tb, 91, stk g ((k : Int) + 1))]) (R' := []) (fun x hx => by simp only [List.mem_cons, List.not_mem_nil, or_false] at hx; subst hx; exact List.mem_cons_self ..) (fun x hx => (by cases hx)))
        have D9 := Lib.hid (Crc.same_c A8 bA _ c8 _ bc _ _ _ _ w8 (hS8.row (List.mem_cons_self ..)) (HH.out.below hS8.base).sl)
        rw [decide_eq_true rfl] at D9
        rw [HL.out] at D9 ⊢
        have D10 := Lib.hid (version_c w8 (hS8.blk (List.mem_cons_self ..)))
        have q0 := HAt.out w8 hS8.base
        clear D8 hS8 H7
        go_wp2_with fail
        refine D9.out.mono ?_
        rintro e wc ⟨rfl, hwc⟩
        subst hwc
        clear D9
        go_wp2_with fail
        refine D10.out.mono ?_
        rintro e wc ⟨rfl, hwc⟩
        subst hwc
        clear D10
        go_wp2_with fail
        go_roundw
        case rel => exact ⟨k + 1, tb, by omega, rfl, by go_num, _, HLm.out, by rw [HCk.out]; exact H8.out⟩
        case measure => simp [intOf]; omega
      · refine ⟨⟨k + 1, sb, by omega, rfl, by go_num, Lib.hid ⟨_, HLm.out, by rw [HCk.out]; exact H7.out⟩⟩, by simp [intOf]; omega⟩
    · have HE := Lib.hid hX.base
      clear HX hX hm
      go_wp2_with fail
      go_ret
      exact ⟨rfl, HE.out⟩
theorem walk (v1 v2 : Value) (w : World) (h1 : Frame.Arg Try.prog w 60 v1) (h2 : Frame.Arg Try.prog w 61 v2) :
    Calls Try.prog 10 #[v1, v2] w fun e w' => e = .returned (.bool true) ∧ Below w.heap.size w w' := by
  obtain ⟨A1, n1, c1, L, rfl, q1⟩ := arg_bds h1
  obtain ⟨z, rfl, hz⟩ := h2.int Try.underlying61
  exact core A1 n1 c1 L z w q1 (Frame.bd_u32 hz)
end Go.Proofs.Ytnaidihoijociaa.ckptSaves
