/- CkptCrash: the walk. -/
import Derived.Test.YtnaidihoijociaaCkA
namespace Go.Proofs.Ytnaidihoijociaa.ckptCrash
open Go.RowKit Go.Maps Dk Bs Ck
open Crc (Byte)
def bAgain : List Byte := [97, 103, 97, 105, 110]
theorem str_again : Bs.strOf bAgain = ⟨#[97, 103, 97, 105, 110]⟩ := by kernel_rfl
/-- the file behind so many saves -/
def lastM (L : List Bd) : Nat → Option (List Byte)
  | 0 => none
  | j + 1 => (L[j]?).map fun x => Crc.frame ((j : Int) + 1) x.2.2.2
set_option maxRecDepth 100000 in
set_option maxHeartbeats 16000000 in
theorem core (A : Option Addr) (n c : Nat) (L : List Bd) (bA : Option Addr) (bn bc : Nat) (bs : List Byte) (q : Int) (kA : Option Addr) (kn kc : Nat) (keep : List Int) (w : World) (h1 : Bds w A n c L) (h2 : Hold w (fun k => k < w.heap.size) bA bn bc bs)
    (h3 : Mem.Ints w w.heap.size .i64 kA kn keep) (h4 : ∀ z ∈ keep, z ≤ 9223372036854775807) (h5 : kn ≤ maxLen) :
    Calls Try.prog 11 #[.slice A n c, .slice bA bn bc, .int .i64 q, .slice kA kn kc] w fun e w' => e = .returned (.bool true) ∧ Below w.heap.size w w' := by
  have hm1 := h1.le
  have hm2 := h2.le
  have H1 := Lib.hid h1
  have HB := Lib.hid h2
  have HNl := Lib.hid h2.len
  have HK := Lib.hid h3
  have HKz := Lib.hid h4
  clear h1 h2 h3 h4
  unfold maxLen at hm1 hm2 h5
  go_enter Try.func11, Try.ntmps11
  go_wp2_with fail
  refine (Ck.awake_c _).mono ?_
  rintro e w1 ⟨rfl, hb1⟩
  have HF := Lib.hid (Ck.few_c A n c L H1.out hb1)
  go_wp2_with fail
  refine HF.out.mono ?_
  rintro e wf ⟨b, rfl, hf, hwf⟩
  have hwf2 := hwf.symm
  subst hwf2
  clear hwf HF
  cases b with
  | false =>
    go_wp2_with fail
    refine (Ck.awake_c _).mono ?_
    rintro e w2 ⟨rfl, hb2⟩
    go_wp2_with fail
    go_ret
    exact ⟨rfl, hb1.trans (hb2.mono hb1.size)⟩
  | true =>
  have hn20 := (hf rfl).n
  have HFw := Lib.hid (hf rfl).all
  clear hf
  by_cases hbn : 300 < bn
  · go_wp2_with fail
    refine (Ck.awake_c _).mono ?_
    rintro e w2 ⟨rfl, hb2⟩
    go_wp2_with fail
    go_ret
    exact ⟨rfl, hb1.trans (hb2.mono hb1.size)⟩
  by_cases hkn : 60 < kn
  · go_wp2_with fail
    refine (Ck.awake_c _).mono ?_
    rintro e w2 ⟨rfl, hb2⟩
    go_wp2_with fail
    go_ret
    exact ⟨rfl, hb1.trans (hb2.mono hb1.size)⟩
  go_wp2_with fail
  refine ((Fm.start hb1).news (j := 1) rfl (by decide)).mono ?_
  intro e w2 hp
  obtain ⟨g, rfl, hS⟩ := CK.new hp
  have D1 := Lib.hid (open_none hS .none)
  clear hp hS hb1
  go_wp2_with fail
  refine D1.out.mono ?_
  rintro e w3 ⟨sb, rfl, hS3, -⟩
  have H3 : Hid (Lim (lastM L 0) ∧ CK w w3 g ⟨fsOf (lastM L 0) none, []⟩ [(sb, 91, stk g ((0 : Nat) : Int))] []) := Lib.hid ⟨.none, hS3⟩
  clear D1 hS3
  go_wp2_with fail
  go_loopw [13] (fun vi wr => ∃ k : Nat, k ≤ n ∧ vi = .int .i64 k ∧ Hid (Lim (lastM L k) ∧ CK w wr g ⟨fsOf (lastM L k) none, []⟩ [(sb, 91, stk g (k : Int))] [])) (fun i _ => n - (intOf i).toNat)
  case atStart => exact ⟨0, by omega, rfl, H3⟩
  case round =>
    clear H3
    obtain ⟨k, hk, rfl, HX⟩ := hrel
    by_cases hlt : k < n
    · obtain ⟨ad, hl, rfl, hbk, -⟩ := H1.out.at_ (Below.refl _ _) hlt
      have HAt : Hid (∀ X, Below w.heap.size w X → X.cell? (ad.add k) = some (.slice L[k].1 L[k].2.1 L[k].2.2.1)) := Lib.hid (fun X hX => by
        obtain ⟨ad', _, e, _, h⟩ := H1.out.at_ hX hlt
        cases e
        exact h)
      have hbl := HFw.out L[k] (List.getElem_mem hl)
      have HH := Lib.hid (H1.out.hold L[k] (List.getElem_mem hl))
      have HLa : Hid (lastM L (k + 1) = some (Crc.frame ((k : Int) + 1) L[k].2.2.2)) := Lib.hid (by show (L[k]?).map _ = _; rw [List.getElem?_eq_getElem hl]; rfl)
      generalize L[k] = p at *
      obtain ⟨xA, xn, xc, xs⟩ := p
      dsimp only at hbl HH HAt HLa
      have HL := Lib.hid HH.out.len
      obtain ⟨hm, hX⟩ := HX.out
      have D2 := Lib.hid (save_c (c := xc) hX (fun x hx => (by cases hx)) (by omega) hm (HH.out.below hX.base).sl (by omega))
      have q0 := HAt.out wr hX.base
      have hck : ((k + 1 : Nat) : Int) = (k : Int) + 1 := by omega
      have HCk := Lib.hid hck
      have HLm : Hid (Lim (lastM L (k + 1))) := Lib.hid (by rw [HLa.out]; exact .some (frame_facts (v := (k : Int) + 1) (body := xs) (by omega) (by omega) (by have := HL.out; omega)).2.2.2)
      clear hX HX hm hl hbk hck
      go_wp2_with fail
      refine D2.out.mono ?_
      rintro e w4 ⟨rfl, hS4⟩
      have H4 : Hid (Lim (lastM L (k + 1)) ∧ CK w w4 g ⟨fsOf (lastM L (k + 1)) none, []⟩ [(sb, 91, stk g ((k + 1 : Nat) : Int))] []) := Lib.hid ⟨HLm.out, by rw [HLa.out, HCk.out]; exact hS4⟩
      clear D2 hS4 q0
      go_wp2_with fail
      go_roundw
      case rel => exact ⟨k + 1, by omega, by go_num, H4⟩
      case measure => simp [intOf]; omega
    · obtain rfl : k = n := by omega
      obtain ⟨r, hr4, hq⟩ : ∃ r : Nat, r ≤ 4 ∧ min (max q 0) 4 = (r : Int) := ⟨(min (max q 0) 4).toNat, by omega, by omega⟩
      have HQ := Lib.hid hq
      have HFr : Hid (Lim (some (Crc.frame ((k : Int) + 1) bs))) := Lib.hid (.some (frame_facts (v := (k : Int) + 1) (body := bs) (by omega) (by omega) (by have := HNl.out; omega)).2.2.2)
      have D7 := Lib.hid (part_c (c := bc) HX.out.2 (fun x hx => (by cases hx)) (by omega) HX.out.1 (HB.out.below HX.out.2.base).sl (by omega) q r hr4 hq)
      have HLM := Lib.hid HX.out.1
      clear HX hq hlt
      have HCr := Lib.hid (crash_of (fr := Crc.frame ((k : Int) + 1) bs) (lastM L k) (HFr.out _ rfl) keep r)
      have HFs := Lib.hid (fits_step (fr := Crc.frame ((k : Int) + 1) bs) HLM.out (HFr.out _ rfl) r)
      go_wp2_with fail
      refine D7.out.mono ?_
      rintro e wx ⟨rfl, hS7⟩
      have HP := Lib.hid hS7
      have D7b := Lib.hid (version_c wx (hS7.blk (List.mem_cons_self ..)))
      clear D7 hS7
      by_cases hs4 : 4 ≤ q
      · have hr : r = 4 := by have := HQ.out; omega
        subst hr
        rw [show ver (k : Int) 4 = (k : Int) + 1 from rfl] at D7b
        go_wp2_with fail
        refine D7b.out.mono ?_
        rintro e wy ⟨rfl, hwy⟩
        subst hwy
        clear D7b
        have D8 := Lib.hid (HP.out.crash (kc := kc) (HFs.out.mono (show 4 ≤ 10 by omega)) (by omega) HK.out HKz.out (by omega))
        clear HP
        go_wp2_with fail
        refine D8.out.mono ?_
        rintro e wc ⟨rfl, hS8⟩
        obtain ⟨T, hT, hTl⟩ := HCr.out
        rw [hT] at hS8
        have HT := Lib.hid hTl
        have HC8 := Lib.hid hS8
        clear D8 hS8 hT hTl HCr HFs
        have HC : Hid (CK w wc g ⟨fsOf (some (Crc.frame ((k : Int) + 1) bs)) T, []⟩ _ []) := Lib.hid (by have := HC8.out; unfold afterC at this; rw [if_pos (.inl (Nat.le_refl _))] at this; exact this)
        clear HC8
        have D10 := Lib.hid (open_frame HC.out HT.out (by omega) (by omega) (by have := HNl.out; omega))
        clear HC HT
        go_wp2_with fail
        refine D10.out.mono ?_
        rintro e wo ⟨tb, Ao, co, rfl, hS10, -⟩
        have H9 := Lib.hid (hS10.sub (K' := [(tb, 91, stk g ((k : Int) + 1))]) (R' := []) (fun x hx => by simp only [List.mem_cons, List.not_mem_nil, or_false] at hx; subst hx; exact List.mem_cons_self ..) (fun x hx => (by cases hx)))
        have HM9 := HFr
        have D11 := Lib.hid (version_c wo (hS10.blk (List.mem_cons_self ..)))
        have D12 := Lib.hid (Crc.same_c Ao bA _ co _ bc _ _ _ _ wo (hS10.row (List.mem_cons_self ..)) (HB.out.below hS10.base).sl)
        rw [decide_eq_true rfl] at D12
        rw [HNl.out] at D12 ⊢
        clear D10 hS10
        go_wp2_with fail
        refine D11.out.mono ?_
        rintro e wp ⟨rfl, hwp⟩
        subst hwp
        go_wp2_with fail
        refine D11.out.mono ?_
        rintro e wp ⟨rfl, hwp⟩
        subst hwp
        clear D11
        go_wp2_with fail
        refine D12.out.mono ?_
        rintro e wp ⟨rfl, hwp⟩
        subst hwp
        clear D12

        have D20 := Lib.hid (H9.out.read (name := tT) (fits_of HM9.out .none) (by omega) (show (4 : Nat) ≤ maxLen by decide))
        rw [look_of, get_temp] at D20
        have kc := fun (w : World) (C : Array Value) (n c : Nat) => Lib.run_convert_bytes_const (P := Try.prog) w 27 5 C n c Try.underlying27 Try.underlying5
        go_wp2_with fail
        refine D20.out.mono ?_
        rintro e wd ⟨hbd, rfl⟩
        have H10 := Lib.hid (H9.out.below hbd)
        clear D20 H9 hbd
        have hl : Below wd.heap.size wd (wd.alloc (.cells #[.int .u8 97, .int .u8 103, .int .u8 97, .int .u8 105, .int .u8 110] 5 (5, 6))) := (Below.refl _ _).alloc (Nat.le_refl _) _
        have D21 := Lib.hid (save_c (n := 5) (c := 5) (H10.out.below hl) (fun x hx => (by cases hx)) (by omega) HM9.out (hold_lit (w := wd) (fz := (5, 6)) (bs := bAgain) rfl rfl (by decide)).sl (by omega))
        clear hl H10
        go_wp2_with fail
        clear kc
        refine D21.out.mono ?_
        rintro e we ⟨rfl, hS21⟩
        have D22 := Lib.hid (open_frame hS21 .none (by omega) (by omega) (by decide))
        clear D21 hS21
        go_wp2_with fail
        refine D22.out.mono ?_
        rintro e wf ⟨ub, Au, cu, rfl, hS22, -⟩
        rw [show bAgain.length = 5 from rfl] at hS22 ⊢
        have D23 := Lib.hid (version_c wf (hS22.blk (List.mem_cons_self ..)))
        have D24 := Lib.hid (version_c wf (hS22.blk (List.mem_cons_of_mem _ (List.mem_cons_self ..))))
        have v1 : (convert 27 9 (.slice Au 5 cu)).run Try.prog wf = .ok (.string ⟨#[97, 103, 97, 105, 110]⟩) wf := by
          rw [← str_again]
          exact run_str (hS22.row (List.mem_cons_self ..)) Try.underlying27 Try.underlying5 Try.underlying9
        have HE := Lib.hid hS22.base
        clear D22 hS22
        go_wp2_with fail
        refine D23.out.mono ?_
        rintro e wg ⟨rfl, hwg⟩
        subst hwg
        go_wp2_with fail
        refine D24.out.mono ?_
        rintro e wg ⟨rfl, hwg⟩
        subst hwg
        clear D23 D24
        go_wp2_with fail
        go_ret
        exact ⟨rfl, HE.out⟩
      · have hr : r < 4 := by have := HQ.out; omega
        rw [show ver (k : Int) r = (k : Int) from if_neg (by omega)] at D7b
        go_wp2_with fail
        refine D7b.out.mono ?_
        rintro e wy ⟨rfl, hwy⟩
        subst hwy
        clear D7b
        have D8 := Lib.hid (HP.out.crash (kc := kc) (HFs.out.mono (show 4 ≤ 10 by omega)) (by omega) HK.out HKz.out (by omega))
        clear HP
        go_wp2_with fail
        refine D8.out.mono ?_
        rintro e wc ⟨rfl, hS8⟩
        obtain ⟨T, hT, hTl⟩ := HCr.out
        rw [hT] at hS8
        have HT := Lib.hid hTl
        have HC8 := Lib.hid hS8
        clear D8 hS8 hT hTl HCr HFs
        by_cases hfr : r = 3 ∧ kept keep = true
        · have hq3 : q = 3 := by have := HQ.out; have := hfr.1; omega
          have HC : Hid (CK w wc g ⟨fsOf (some (Crc.frame ((k : Int) + 1) bs)) T, []⟩ _ []) := Lib.hid (by have := HC8.out; unfold afterC at this; rw [if_pos (.inr hfr)] at this; exact this)
          clear HC8 hfr HQ hs4 hr
          subst hq3
          have D10 := Lib.hid (open_frame HC.out HT.out (by omega) (by omega) (by have := HNl.out; omega))
          clear HC HT
          go_wp2_with fail
          refine D10.out.mono ?_
          rintro e wo ⟨tb, Ao, co, rfl, hS10, -⟩
          have H9 := Lib.hid (hS10.sub (K' := [(tb, 91, stk g ((k : Int) + 1))]) (R' := []) (fun x hx => by simp only [List.mem_cons, List.not_mem_nil, or_false] at hx; subst hx; exact List.mem_cons_self ..) (fun x hx => (by cases hx)))
          have HM9 := HFr
          have D11 := Lib.hid (version_c wo (hS10.blk (List.mem_cons_self ..)))
          have D12 := Lib.hid (Crc.same_c Ao bA _ co _ bc _ _ _ _ wo (hS10.row (List.mem_cons_self ..)) (HB.out.below hS10.base).sl)
          rw [decide_eq_true rfl] at D12
          rw [HNl.out] at D12 ⊢
          clear D10 hS10
          go_wp2_with fail
          refine D11.out.mono ?_
          rintro e wp ⟨rfl, hwp⟩
          subst hwp
          go_wp2_with fail
          refine D11.out.mono ?_
          rintro e wp ⟨rfl, hwp⟩
          subst hwp
          clear D11
          go_wp2_with fail
          refine D12.out.mono ?_
          rintro e wp ⟨rfl, hwp⟩
          subst hwp
          clear D12

          have D20 := Lib.hid (H9.out.read (name := tT) (fits_of HM9.out .none) (by omega) (show (4 : Nat) ≤ maxLen by decide))
          rw [look_of, get_temp] at D20
          have kc := fun (w : World) (C : Array Value) (n c : Nat) => Lib.run_convert_bytes_const (P := Try.prog) w 27 5 C n c Try.underlying27 Try.underlying5
          go_wp2_with fail
          refine D20.out.mono ?_
          rintro e wd ⟨hbd, rfl⟩
          have H10 := Lib.hid (H9.out.below hbd)
          clear D20 H9 hbd
          have hl : Below wd.heap.size wd (wd.alloc (.cells #[.int .u8 97, .int .u8 103, .int .u8 97, .int .u8 105, .int .u8 110] 5 (5, 6))) := (Below.refl _ _).alloc (Nat.le_refl _) _
          have D21 := Lib.hid (save_c (n := 5) (c := 5) (H10.out.below hl) (fun x hx => (by cases hx)) (by omega) HM9.out (hold_lit (w := wd) (fz := (5, 6)) (bs := bAgain) rfl rfl (by decide)).sl (by omega))
          clear hl H10
          go_wp2_with fail
          clear kc
          refine D21.out.mono ?_
          rintro e we ⟨rfl, hS21⟩
          have D22 := Lib.hid (open_frame hS21 .none (by omega) (by omega) (by decide))
          clear D21 hS21
          go_wp2_with fail
          refine D22.out.mono ?_
          rintro e wf ⟨ub, Au, cu, rfl, hS22, -⟩
          rw [show bAgain.length = 5 from rfl] at hS22 ⊢
          have D23 := Lib.hid (version_c wf (hS22.blk (List.mem_cons_self ..)))
          have D24 := Lib.hid (version_c wf (hS22.blk (List.mem_cons_of_mem _ (List.mem_cons_self ..))))
          have v1 : (convert 27 9 (.slice Au 5 cu)).run Try.prog wf = .ok (.string ⟨#[97, 103, 97, 105, 110]⟩) wf := by
            rw [← str_again]
            exact run_str (hS22.row (List.mem_cons_self ..)) Try.underlying27 Try.underlying5 Try.underlying9
          have HE := Lib.hid hS22.base
          clear D22 hS22
          go_wp2_with fail
          refine D23.out.mono ?_
          rintro e wg ⟨rfl, hwg⟩
          subst hwg
          go_wp2_with fail
          refine D24.out.mono ?_
          rintro e wg ⟨rfl, hwg⟩
          subst hwg
          clear D23 D24
          go_wp2_with fail
          go_ret
          exact ⟨rfl, HE.out⟩
        · have HC : Hid (CK w wc g ⟨fsOf (lastM L k) T, []⟩ _ []) := Lib.hid (by have := HC8.out; unfold afterC at this; rw [if_neg (fun h => h.elim (fun h => by omega) hfr)] at this; exact this)
          clear HC8 hfr HQ hr
          have hs3 : q < 3 ∨ q = 3 := by omega
          match k, hk with
          | 0, _ =>
            have HC : Hid (CK w wc g ⟨fsOf none T, []⟩ _ []) := HC
            rcases hs3 with hs3 | hs3
            · clear hs4
              have D10 := Lib.hid (open_none HC.out HT.out)
              clear HC HT
              go_wp2_with fail
              refine D10.out.mono ?_
              rintro e wo ⟨tb, rfl, hS10, -⟩
              have H9 := Lib.hid (hS10.sub (K' := [(tb, 91, stk g 0)]) (R' := []) (fun x hx => by simp only [List.mem_cons, List.not_mem_nil, or_false] at hx; subst hx; exact List.mem_cons_self ..) (fun x hx => (by cases hx)))
              have HM9 := Lib.hid Lim.none
              have D11 := Lib.hid (version_c wo (hS10.blk (List.mem_cons_self ..)))
              clear D10 hS10
              go_wp2_with fail
              refine D11.out.mono ?_
              rintro e wp ⟨rfl, hwp⟩
              subst hwp
              go_wp2_with fail
              refine D11.out.mono ?_
              rintro e wp ⟨rfl, hwp⟩
              subst hwp
              clear D11

              have D20 := Lib.hid (H9.out.read (name := tT) (fits_of HM9.out .none) (by omega) (show (4 : Nat) ≤ maxLen by decide))
              rw [look_of, get_temp] at D20
              have kc := fun (w : World) (C : Array Value) (n c : Nat) => Lib.run_convert_bytes_const (P := Try.prog) w 27 5 C n c Try.underlying27 Try.underlying5
              go_wp2_with fail
              refine D20.out.mono ?_
              rintro e wd ⟨hbd, rfl⟩
              have H10 := Lib.hid (H9.out.below hbd)
              clear D20 H9 hbd
              have hl : Below wd.heap.size wd (wd.alloc (.cells #[.int .u8 97, .int .u8 103, .int .u8 97, .int .u8 105, .int .u8 110] 5 (5, 6))) := (Below.refl _ _).alloc (Nat.le_refl _) _
              have D21 := Lib.hid (save_c (n := 5) (c := 5) (H10.out.below hl) (fun x hx => (by cases hx)) (by omega) HM9.out (hold_lit (w := wd) (fz := (5, 6)) (bs := bAgain) rfl rfl (by decide)).sl (by omega))
              clear hl H10
              go_wp2_with fail
              clear kc
              refine D21.out.mono ?_
              rintro e we ⟨rfl, hS21⟩
              have D22 := Lib.hid (open_frame hS21 .none (by omega) (by omega) (by decide))
              clear D21 hS21
              go_wp2_with fail
              refine D22.out.mono ?_
              rintro e wf ⟨ub, Au, cu, rfl, hS22, -⟩
              rw [show bAgain.length = 5 from rfl] at hS22 ⊢
              have D23 := Lib.hid (version_c wf (hS22.blk (List.mem_cons_self ..)))
              have D24 := Lib.hid (version_c wf (hS22.blk (List.mem_cons_of_mem _ (List.mem_cons_self ..))))
              have v1 : (convert 27 9 (.slice Au 5 cu)).run Try.prog wf = .ok (.string ⟨#[97, 103, 97, 105, 110]⟩) wf := by
                rw [← str_again]
                exact run_str (hS22.row (List.mem_cons_self ..)) Try.underlying27 Try.underlying5 Try.underlying9
              have HE := Lib.hid hS22.base
              clear D22 hS22
              go_wp2_with fail
              refine D23.out.mono ?_
              rintro e wg ⟨rfl, hwg⟩
              subst hwg
              go_wp2_with fail
              refine D24.out.mono ?_
              rintro e wg ⟨rfl, hwg⟩
              subst hwg
              clear D23 D24
              go_wp2_with fail
              go_ret
              exact ⟨rfl, HE.out⟩
            · subst hs3
              have D10 := Lib.hid (open_none HC.out HT.out)
              clear HC HT
              go_wp2_with fail
              refine D10.out.mono ?_
              rintro e wo ⟨tb, rfl, hS10, -⟩
              have H9 := Lib.hid (hS10.sub (K' := [(tb, 91, stk g 0)]) (R' := []) (fun x hx => by simp only [List.mem_cons, List.not_mem_nil, or_false] at hx; subst hx; exact List.mem_cons_self ..) (fun x hx => (by cases hx)))
              have HM9 := Lib.hid Lim.none
              have D11 := Lib.hid (version_c wo (hS10.blk (List.mem_cons_self ..)))
              clear D10 hS10
              go_wp2_with fail
              refine D11.out.mono ?_
              rintro e wp ⟨rfl, hwp⟩
              subst hwp
              go_wp2_with fail
              refine D11.out.mono ?_
              rintro e wp ⟨rfl, hwp⟩
              subst hwp
              clear D11

              have D20 := Lib.hid (H9.out.read (name := tT) (fits_of HM9.out .none) (by omega) (show (4 : Nat) ≤ maxLen by decide))
              rw [look_of, get_temp] at D20
              have kc := fun (w : World) (C : Array Value) (n c : Nat) => Lib.run_convert_bytes_const (P := Try.prog) w 27 5 C n c Try.underlying27 Try.underlying5
              go_wp2_with fail
              refine D20.out.mono ?_
              rintro e wd ⟨hbd, rfl⟩
              have H10 := Lib.hid (H9.out.below hbd)
              clear D20 H9 hbd
              have hl : Below wd.heap.size wd (wd.alloc (.cells #[.int .u8 97, .int .u8 103, .int .u8 97, .int .u8 105, .int .u8 110] 5 (5, 6))) := (Below.refl _ _).alloc (Nat.le_refl _) _
              have D21 := Lib.hid (save_c (n := 5) (c := 5) (H10.out.below hl) (fun x hx => (by cases hx)) (by omega) HM9.out (hold_lit (w := wd) (fz := (5, 6)) (bs := bAgain) rfl rfl (by decide)).sl (by omega))
              clear hl H10
              go_wp2_with fail
              clear kc
              refine D21.out.mono ?_
              rintro e we ⟨rfl, hS21⟩
              have D22 := Lib.hid (open_frame hS21 .none (by omega) (by omega) (by decide))
              clear D21 hS21
              go_wp2_with fail
              refine D22.out.mono ?_
              rintro e wf ⟨ub, Au, cu, rfl, hS22, -⟩
              rw [show bAgain.length = 5 from rfl] at hS22 ⊢
              have D23 := Lib.hid (version_c wf (hS22.blk (List.mem_cons_self ..)))
              have D24 := Lib.hid (version_c wf (hS22.blk (List.mem_cons_of_mem _ (List.mem_cons_self ..))))
              have v1 : (convert 27 9 (.slice Au 5 cu)).run Try.prog wf = .ok (.string ⟨#[97, 103, 97, 105, 110]⟩) wf := by
                rw [← str_again]
                exact run_str (hS22.row (List.mem_cons_self ..)) Try.underlying27 Try.underlying5 Try.underlying9
              have HE := Lib.hid hS22.base
              clear D22 hS22
              go_wp2_with fail
              refine D23.out.mono ?_
              rintro e wg ⟨rfl, hwg⟩
              subst hwg
              go_wp2_with fail
              refine D24.out.mono ?_
              rintro e wg ⟨rfl, hwg⟩
              subst hwg
              clear D23 D24
              go_wp2_with fail
              go_ret
              exact ⟨rfl, HE.out⟩
          | j + 1, hk =>
            obtain ⟨ad, hl, rfl, hbk, -⟩ := H1.out.at_ (k := j) (Below.refl _ _) (by omega)
            have HAt : Hid (∀ X, Below w.heap.size w X → X.cell? (ad.add j) = some (.slice L[j].1 L[j].2.1 L[j].2.2.1)) := Lib.hid (fun X hX => by
              obtain ⟨ad', _, e, _, h⟩ := H1.out.at_ (k := j) hX (by omega)
              cases e
              exact h)
            have hbl := HFw.out L[j] (List.getElem_mem hl)
            have HLh := Lib.hid (H1.out.hold L[j] (List.getElem_mem hl))
            have HLa : Hid (lastM L (j + 1) = some (Crc.frame ((j : Int) + 1) L[j].2.2.2)) := Lib.hid (by show (L[j]?).map _ = _; rw [List.getElem?_eq_getElem hl]; rfl)
            generalize L[j] = p at *
            obtain ⟨lA, ln, lc, ls⟩ := p
            dsimp only at hbl HLh HAt HLa
            have HLl := Lib.hid HLh.out.len
            have HLf : Hid (Lim (some (Crc.frame ((j : Int) + 1) ls))) := Lib.hid (.some (frame_facts (v := (j : Int) + 1) (body := ls) (by omega) (by omega) (by have := HLl.out; omega)).2.2.2)
            have HC : Hid (CK w wc g ⟨fsOf (some (Crc.frame ((j : Int) + 1) ls)) T, []⟩ _ []) := Lib.hid (by have := HC.out; rw [HLa.out] at this; exact this)
            clear hl hbk
            rcases hs3 with hs3 | hs3
            · clear hs4
              have D10 := Lib.hid (open_frame HC.out HT.out (by omega) (by omega) (by have := HLl.out; omega))
              clear HC HT
              go_wp2_with fail
              refine D10.out.mono ?_
              rintro e wo ⟨tb, Ao, co, rfl, hS10, -⟩
              have H9 := Lib.hid (hS10.sub (K' := [(tb, 91, stk g ((j : Int) + 1))]) (R' := []) (fun x hx => by simp only [List.mem_cons, List.not_mem_nil, or_false] at hx; subst hx; exact List.mem_cons_self ..) (fun x hx => (by cases hx)))
              have HM9 := HLf
              have D11 := Lib.hid (version_c wo (hS10.blk (List.mem_cons_self ..)))
              have D12 := Lib.hid (Crc.same_c Ao lA _ co _ lc _ _ _ _ wo (hS10.row (List.mem_cons_self ..)) (HLh.out.below hS10.base).sl)
              rw [decide_eq_true rfl] at D12
              rw [HLl.out] at D12 ⊢
              have q0 := HAt.out wo hS10.base
              clear D10 hS10
              go_wp2_with fail
              refine D11.out.mono ?_
              rintro e wp ⟨rfl, hwp⟩
              subst hwp
              go_wp2_with fail
              refine D12.out.mono ?_
              rintro e wp ⟨rfl, hwp⟩
              subst hwp
              clear D12
              go_wp2_with fail
              refine D11.out.mono ?_
              rintro e wp ⟨rfl, hwp⟩
              subst hwp
              clear D11

              have D20 := Lib.hid (H9.out.read (name := tT) (fits_of HM9.out .none) (by omega) (show (4 : Nat) ≤ maxLen by decide))
              rw [look_of, get_temp] at D20
              have kc := fun (w : World) (C : Array Value) (n c : Nat) => Lib.run_convert_bytes_const (P := Try.prog) w 27 5 C n c Try.underlying27 Try.underlying5
              go_wp2_with fail
              refine D20.out.mono ?_
              rintro e wd ⟨hbd, rfl⟩
              have H10 := Lib.hid (H9.out.below hbd)
              clear D20 H9 hbd
              have hl : Below wd.heap.size wd (wd.alloc (.cells #[.int .u8 97, .int .u8 103, .int .u8 97, .int .u8 105, .int .u8 110] 5 (5, 6))) := (Below.refl _ _).alloc (Nat.le_refl _) _
              have D21 := Lib.hid (save_c (n := 5) (c := 5) (H10.out.below hl) (fun x hx => (by cases hx)) (by omega) HM9.out (hold_lit (w := wd) (fz := (5, 6)) (bs := bAgain) rfl rfl (by decide)).sl (by omega))
              clear hl H10
              go_wp2_with fail
              clear kc
              refine D21.out.mono ?_
              rintro e we ⟨rfl, hS21⟩
              have D22 := Lib.hid (open_frame hS21 .none (by omega) (by omega) (by decide))
              clear D21 hS21
              go_wp2_with fail
              refine D22.out.mono ?_
              rintro e wf ⟨ub, Au, cu, rfl, hS22, -⟩
              rw [show bAgain.length = 5 from rfl] at hS22 ⊢
              have D23 := Lib.hid (version_c wf (hS22.blk (List.mem_cons_self ..)))
              have D24 := Lib.hid (version_c wf (hS22.blk (List.mem_cons_of_mem _ (List.mem_cons_self ..))))
              have v1 : (convert 27 9 (.slice Au 5 cu)).run Try.prog wf = .ok (.string ⟨#[97, 103, 97, 105, 110]⟩) wf := by
                rw [← str_again]
                exact run_str (hS22.row (List.mem_cons_self ..)) Try.underlying27 Try.underlying5 Try.underlying9
              have HE := Lib.hid hS22.base
              clear D22 hS22
              go_wp2_with fail
              refine D23.out.mono ?_
              rintro e wg ⟨rfl, hwg⟩
              subst hwg
              go_wp2_with fail
              refine D24.out.mono ?_
              rintro e wg ⟨rfl, hwg⟩
              subst hwg
              clear D23 D24
              go_wp2_with fail
              go_ret
              exact ⟨rfl, HE.out⟩
            · subst hs3
              have D10 := Lib.hid (open_frame HC.out HT.out (by omega) (by omega) (by have := HLl.out; omega))
              clear HC HT
              go_wp2_with fail
              refine D10.out.mono ?_
              rintro e wo ⟨tb, Ao, co, rfl, hS10, -⟩
              have H9 := Lib.hid (hS10.sub (K' := [(tb, 91, stk g ((j : Int) + 1))]) (R' := []) (fun x hx => by simp only [List.mem_cons, List.not_mem_nil, or_false] at hx; subst hx; exact List.mem_cons_self ..) (fun x hx => (by cases hx)))
              have HM9 := HLf
              have D11 := Lib.hid (version_c wo (hS10.blk (List.mem_cons_self ..)))
              have D12 := Lib.hid (Crc.same_c Ao lA _ co _ lc _ _ _ _ wo (hS10.row (List.mem_cons_self ..)) (HLh.out.below hS10.base).sl)
              rw [decide_eq_true rfl] at D12
              rw [HLl.out] at D12 ⊢
              have q0 := HAt.out wo hS10.base
              clear D10 hS10
              go_wp2_with fail
              refine D11.out.mono ?_
              rintro e wp ⟨rfl, hwp⟩
              subst hwp
              go_wp2_with fail
              refine D12.out.mono ?_
              rintro e wp ⟨rfl, hwp⟩
              subst hwp
              clear D12
              go_wp2_with fail
              refine D11.out.mono ?_
              rintro e wp ⟨rfl, hwp⟩
              subst hwp
              clear D11

              have D20 := Lib.hid (H9.out.read (name := tT) (fits_of HM9.out .none) (by omega) (show (4 : Nat) ≤ maxLen by decide))
              rw [look_of, get_temp] at D20
              have kc := fun (w : World) (C : Array Value) (n c : Nat) => Lib.run_convert_bytes_const (P := Try.prog) w 27 5 C n c Try.underlying27 Try.underlying5
              go_wp2_with fail
              refine D20.out.mono ?_
              rintro e wd ⟨hbd, rfl⟩
              have H10 := Lib.hid (H9.out.below hbd)
              clear D20 H9 hbd
              have hl : Below wd.heap.size wd (wd.alloc (.cells #[.int .u8 97, .int .u8 103, .int .u8 97, .int .u8 105, .int .u8 110] 5 (5, 6))) := (Below.refl _ _).alloc (Nat.le_refl _) _
              have D21 := Lib.hid (save_c (n := 5) (c := 5) (H10.out.below hl) (fun x hx => (by cases hx)) (by omega) HM9.out (hold_lit (w := wd) (fz := (5, 6)) (bs := bAgain) rfl rfl (by decide)).sl (by omega))
              clear hl H10
              go_wp2_with fail
              clear kc
              refine D21.out.mono ?_
              rintro e we ⟨rfl, hS21⟩
              have D22 := Lib.hid (open_frame hS21 .none (by omega) (by omega) (by decide))
              clear D21 hS21
              go_wp2_with fail
              refine D22.out.mono ?_
              rintro e wf ⟨ub, Au, cu, rfl, hS22, -⟩
              rw [show bAgain.length = 5 from rfl] at hS22 ⊢
              have D23 := Lib.hid (version_c wf (hS22.blk (List.mem_cons_self ..)))
              have D24 := Lib.hid (version_c wf (hS22.blk (List.mem_cons_of_mem _ (List.mem_cons_self ..))))
              have v1 : (convert 27 9 (.slice Au 5 cu)).run Try.prog wf = .ok (.string ⟨#[97, 103, 97, 105, 110]⟩) wf := by
                rw [← str_again]
                exact run_str (hS22.row (List.mem_cons_self ..)) Try.underlying27 Try.underlying5 Try.underlying9
              have HE := Lib.hid hS22.base
              clear D22 hS22
              go_wp2_with fail
              refine D23.out.mono ?_
              rintro e wg ⟨rfl, hwg⟩
              subst hwg
              go_wp2_with fail
              refine D24.out.mono ?_
              rintro e wg ⟨rfl, hwg⟩
              subst hwg
              clear D23 D24
              go_wp2_with fail
              go_ret
              exact ⟨rfl, HE.out⟩
theorem walk (v1 v2 v3 v4 : Value) (w : World) (h1 : Frame.Arg Try.prog w 60 v1) (h2 : Frame.Arg Try.prog w 27 v2) (h3 : Frame.Arg Try.prog w 3 v3) (h4 : Frame.Arg Try.prog w 40 v4) :
    Calls Try.prog 11 #[v1, v2, v3, v4] w fun e w' => e = .returned (.bool true) ∧ Below w.heap.size w w' := by
  obtain ⟨A1, n1, c1, L, rfl, q1⟩ := arg_bds h1
  obtain ⟨A2, n2, c2, bs, rfl, q2⟩ := arg_hold h2
  obtain ⟨z, rfl, hz⟩ := h3.int Try.underlying3
  obtain ⟨A, n, c, zs, rfl, hl, hm, hz, hw⟩ := h4.ints Try.underlying40 Try.underlying3 (by kernel_rfl)
  exact core A1 n1 c1 L A2 n2 c2 bs z A n c zs w q1 q2 hz (fun z h => (Frame.bd_i64 (hw z h)).2) (Nat.le_trans hl hm)
end Go.Proofs.Ytnaidihoijociaa.ckptCrash
