/- CkptOpens: the walk. -/
import Derived.Test.YtnaidihoijociaaCkA
import Derived.Test.YtnaidihoijociaaFrameR
namespace Go.Proofs.Ytnaidihoijociaa.ckptOpens
open Go.RowKit Go.Maps Dk Bs Ck
open Crc (Byte)
theorem rget_yes {w : World} {A : Option Addr} {n c : Nat} {b : List Byte} (h : Bs w w.heap.size A n b) (hn : n ≤ 1000) (hc : n ≤ c ∧ c ≤ maxLen) (hf : Crc.isFrame b = true) :
    Calls Try.prog 31 #[.slice A n c] w (Crc.RGetYes A n b w) := by
  have h16 := (Crc.is_frame hf).1
  have hl := Bs.len h
  obtain ⟨m, rfl⟩ : ∃ m, n = m + 16 := ⟨n - 16, by omega⟩
  exact (Crc.rfget_c A m c b w h (by omega) hc.1 hc.2).mono fun e w' p => p.1 hf
theorem rget_no {w : World} {A : Option Addr} {n c : Nat} {b : List Byte} (h : Bs w w.heap.size A n b) (hn : n ≤ 1000) (hc : n ≤ c ∧ c ≤ maxLen) (hf : Crc.isFrame b = false) :
    Calls Try.prog 31 #[.slice A n c] w (Crc.RGetNo w) := by
  by_cases h16 : n < 16
  · exact Crc.rfget_short A n c w h16
  · obtain ⟨m, rfl⟩ : ∃ m, n = m + 16 := ⟨n - 16, by omega⟩
    exact (Crc.rfget_c A m c b w h (by omega) hc.1 hc.2).mono fun e w' p => p.2 hf
theorem do_main (b : List Byte) : doS ⟨fsOf none none, []⟩ ⟨1, tM, t0, b⟩ = ⟨fsOf none none, [⟨1, tM, t0, b⟩]⟩ := by
  unfold doS
  rw [if_pos (show right ⟨1, tM, t0, b⟩ = true by kernel_rfl)]
  rfl
theorem do_temp (b x : List Byte) : doS ⟨fsOf none none, [⟨1, tM, t0, b⟩]⟩ ⟨1, tT, t0, x⟩ = ⟨fsOf none none, [⟨1, tM, t0, b⟩, ⟨1, tT, t0, x⟩]⟩ := by
  unfold doS
  rw [if_pos (show right ⟨1, tT, t0, x⟩ = true by kernel_rfl)]
  rfl
theorem lk1 (b : List Byte) : Dk.look ⟨fsOf none none, [⟨1, tM, t0, b⟩]⟩ = fsOf (some b) none := wr_main none none b
theorem lk2 (b x : List Byte) : Dk.look ⟨fsOf none none, [⟨1, tM, t0, b⟩, ⟨1, tT, t0, x⟩]⟩ = fsOf (some b) (some x) := by
  show app1 (app1 (fsOf none none) ⟨1, tM, t0, b⟩) ⟨1, tT, t0, x⟩ = _
  rw [wr_main, wr_temp]
set_option maxRecDepth 100000 in
set_option maxHeartbeats 16000000 in
theorem core (bA tA : Option Addr) (bn bc tn tc : Nat) (bs ts : List Byte) (is : Bool) (w : World) (h1 : Hold w (fun k => k < w.heap.size) bA bn bc bs) (h2 : Hold w (fun k => k < w.heap.size) tA tn tc ts) :
    Calls Try.prog 8 #[.slice bA bn bc, .slice tA tn tc, .bool is] w fun e w' => e = .returned (.bool true) ∧ Below w.heap.size w w' := by
  have hm1 := h1.le
  have hm2 := h2.le
  have HB := Lib.hid h1
  have HT0 := Lib.hid h2
  have HL := Lib.hid h1.len
  have HL2 := Lib.hid h2.len
  clear h1 h2
  unfold maxLen at hm1 hm2
  go_enter Try.func8, Try.ntmps8
  go_wp2_with fail
  refine (Ck.awake_c _).mono ?_
  rintro e w1 ⟨rfl, hb1⟩
  by_cases hbn : 1000 < bn
  · go_wp2_with fail
    refine (Ck.awake_c _).mono ?_
    rintro e w2 ⟨rfl, hb2⟩
    go_wp2_with fail
    go_ret
    exact ⟨rfl, hb1.trans (hb2.mono hb1.size)⟩
  by_cases htn : 1000 < tn
  · go_wp2_with fail
    refine (Ck.awake_c _).mono ?_
    rintro e w2 ⟨rfl, hb2⟩
    go_wp2_with fail
    go_ret
    exact ⟨rfl, hb1.trans (hb2.mono hb1.size)⟩
  go_wp2_with fail
  refine ((Fm.start hb1).news (j := 1) rfl (by decide)).mono ?_
  intro e w2 hp
  obtain ⟨g, rfl, hS⟩ := CK.new hp
  have D1 := Lib.hid (hS.does (kind := 1) (name := tM) (nto := t0) (fits_of .none .none) (by omega) (HB.out.below hS.base) (show (4 : Nat) ≤ maxLen by decide) (show (0 : Nat) ≤ maxLen by decide) (by omega))
  rw [do_main] at D1
  have HF1 := Lib.hid ((fits_of (m := none) (t := none) .none .none).does (o := ⟨1, tM, t0, bs⟩) ⟨show (4 : Nat) ≤ maxLen by decide, show (0 : Nat) ≤ maxLen by decide, by show bs.length ≤ _; have := HL.out; omega⟩)
  clear hp hS hb1
  go_wp2_with fail
  refine D1.out.mono ?_
  rintro e w3 ⟨rfl, hS3⟩
  have H3 := Lib.hid hS3
  clear D1 hS3
  cases is with
  | false =>
    have D2 := Lib.hid (H3.out.sync HF1.out (by omega))
    rw [lk1] at D2
    go_wp2_with fail
    refine D2.out.mono ?_
    rintro e w4 ⟨rfl, hS4⟩
    have HS := Lib.hid hS4
    have HT := Lib.hid Lim.none
    clear D2 hS4 H3 HF1 HT0 HL2
    by_cases hf : Crc.isFrame bs = true
    · have D1 := Lib.hid (open_yes HS.out HT.out (by have := HL.out; omega) hf)
      clear HS HT
      go_wp2_with fail
      refine D1.out.mono ?_
      rintro e w5 ⟨sb, A5, c5, rfl, hS5, -⟩
      have H5 := Lib.hid hS5
      have D2 := Lib.hid (rget_yes (c := bc) (((HB.out.below hS5.base).sl)) (by omega) HB.out.le hf)
      have hlen := (Crc.is_frame hf).2.2.1
      have hvb := Crc.numLE_bd (((Crc.coreOf bs).drop 4).take 4)
      have hvb : 0 ≤ Crc.verOf bs ∧ Crc.verOf bs ≤ 4294967295 := hvb
      have hlb : bs.length ≤ 1000 := by have := HL.out; omega
      rw [HL.out] at hlen
      clear D1 hS5
      go_wp2_with fail
      refine D2.out.mono ?_
      rintro e w6 ⟨A6, c6, rfl, hB6, hb6⟩
      have HZ5 : Hid (w5.heap.size ≤ w6.heap.size) := Lib.hid hb6.size
      have H6 := Lib.hid (H5.out.below hb6)
      have hR6 := H6.out.row (List.mem_cons_self ..)
      rw [← hlen] at hB6 ⊢
      have D3 := Lib.hid (H6.out.names (fits_of (.some (by omega)) .none) (by omega))
      clear D2 hb6 H5 hlen
      go_wp2_with fail
      refine D3.out.mono ?_
      rintro e w7 ⟨A7, c7, rfl, -, hb7, -⟩
      rw [key_one]
      have H7 := Lib.hid (H6.out.below hb7)
      have D4 := Lib.hid (version_c w7 (H7.out.blk (List.mem_cons_self ..)))
      have HB6 := Lib.hid hB6
      have HB7 := Lib.hid hb7
      clear D3 hb7 hB6 hR6
      have HV : Hid (0 ≤ Crc.verOf bs ∧ Crc.verOf bs ≤ 4294967295) := Lib.hid hvb
      clear hvb
      obtain ⟨V, hV⟩ : ∃ V, Crc.verOf bs = V := ⟨_, rfl⟩
      rw [hV] at H7 D4 HV ⊢
      obtain ⟨v0, v1⟩ := HV.out
      clear hV H6 HV
      go_wp2_with fail
      refine D4.out.mono ?_
      rintro e wa ⟨rfl, hwa⟩
      subst hwa
      have D5 := Lib.hid (Crc.same_c A5 A6 (Crc.bodyOf bs).length c5 (Crc.bodyOf bs).length c6 wa.heap.size w5.heap.size _ _ wa (H7.out.row (List.mem_cons_self ..)) (HB6.out.below (HB7.out.mono HZ5.out)))
      rw [decide_eq_true rfl] at D5
      clear D4 HB6 HB7 HZ5
      go_wp2_with fail
      refine D5.out.mono ?_
      rintro e wb ⟨rfl, hwb⟩
      subst hwb
      clear D5
      by_cases hv : V < 4294967295
      · have D6 := Lib.hid (save_c (A := none) (n := 0) (c := 0) (body := []) H7.out (fun x hx => (by cases hx)) ⟨v0, hv⟩ (.some (by omega)) Bs.nil (by omega))
        go_wp2_with fail
        refine D6.out.mono ?_
        rintro e w8 ⟨rfl, hS8⟩
        have D7 := Lib.hid (version_c w8 (hS8.blk (List.mem_cons_self ..)))
        have HE := Lib.hid hS8.base
        have hw : IntKind.i64.wrap (V + 1) = V + 1 := by unfold IntKind.wrap; simp [IntKind.bits, IntKind.signed]; omega
        clear D6 hS8 H7
        go_wp2_with fail
        refine D7.out.mono ?_
        rintro e wc ⟨rfl, hwc⟩
        subst hwc
        clear D7
        go_wp2_with fail
        go_ret
        exact ⟨rfl, HE.out⟩
      · have hv2 : V = 4294967295 := by omega
        clear hv v0 v1
        subst hv2
        have D6 := Lib.hid (save_no H7.out rfl)
        go_wp2_with fail
        refine D6.out.mono ?_
        rintro e w8 ⟨rfl, hb8⟩
        have H8 := Lib.hid (H7.out.below hb8)
        have D7 := Lib.hid (version_c w8 (H8.out.blk (List.mem_cons_self ..)))
        have HE := Lib.hid H8.out.base
        clear D6 hb8 H7 H8
        go_wp2_with fail
        refine D7.out.mono ?_
        rintro e wc ⟨rfl, hwc⟩
        subst hwc
        clear D7
        go_wp2_with fail
        go_ret
        exact ⟨rfl, HE.out⟩
    · have hf : Crc.isFrame bs = false := by simpa using hf
      have D1 := Lib.hid (open_no HS.out HT.out (by have := HL.out; omega) hf)
      clear HS HT
      go_wp2_with fail
      refine D1.out.mono ?_
      rintro e w5 ⟨rfl, hS5⟩
      have H5 := Lib.hid hS5
      have D2 := Lib.hid (rget_no (c := bc) (((HB.out.below hS5.base).sl)) (by omega) HB.out.le hf)
      clear D1 hS5
      go_wp2_with fail
      refine D2.out.mono ?_
      rintro e w6 ⟨rfl, hb6⟩
      have H6 := Lib.hid (H5.out.below hb6)
      have D3 := Lib.hid (H6.out.names (fits_of (.some (by have := HL.out; omega)) .none) (by omega))
      clear D2 hb6 H5
      go_wp2_with fail
      refine D3.out.mono ?_
      rintro e w7 ⟨A7, c7, rfl, -, hb7, -⟩
      rw [key_one]
      have HE := Lib.hid (H6.out.base.trans (hb7.mono H6.out.base.size))
      clear D3 hb7 H6
      go_wp2_with fail
      go_ret
      exact ⟨rfl, HE.out⟩
  | true =>
    have D2 := Lib.hid (H3.out.does (kind := 1) (name := tT) (nto := t0) HF1.out (by omega) (HT0.out.below H3.out.base) (show (4 : Nat) ≤ maxLen by decide) (show (0 : Nat) ≤ maxLen by decide) (by omega))
    rw [do_temp] at D2
    have HF2 : Hid (Fits 4 ⟨fsOf none none, [⟨1, tM, t0, bs⟩, ⟨1, tT, t0, ts⟩]⟩) := Lib.hid (HF1.out.does (o := ⟨1, tT, t0, ts⟩) ⟨show (4 : Nat) ≤ maxLen by decide, show (0 : Nat) ≤ maxLen by decide, by show ts.length ≤ _; have := HL2.out; omega⟩)
    have HT : Hid (Lim (some ts)) := Lib.hid (.some (by have := HL2.out; omega))
    go_wp2_with fail
    refine D2.out.mono ?_
    rintro e w3b ⟨rfl, hS3b⟩
    have D3 := Lib.hid (hS3b.sync HF2.out (by omega))
    rw [lk2] at D3
    clear D2 hS3b H3 HF1 HT0 HL2
    go_wp2_with fail
    refine D3.out.mono ?_
    rintro e w4 ⟨rfl, hS4⟩
    have HS := Lib.hid hS4
    clear D3 hS4 HF2
    by_cases hf : Crc.isFrame bs = true
    · have D1 := Lib.hid (open_yes HS.out HT.out (by have := HL.out; omega) hf)
      clear HS HT
      go_wp2_with fail
      refine D1.out.mono ?_
      rintro e w5 ⟨sb, A5, c5, rfl, hS5, -⟩
      have H5 := Lib.hid hS5
      have D2 := Lib.hid (rget_yes (c := bc) (((HB.out.below hS5.base).sl)) (by omega) HB.out.le hf)
      have hlen := (Crc.is_frame hf).2.2.1
      have hvb := Crc.numLE_bd (((Crc.coreOf bs).drop 4).take 4)
      have hvb : 0 ≤ Crc.verOf bs ∧ Crc.verOf bs ≤ 4294967295 := hvb
      have hlb : bs.length ≤ 1000 := by have := HL.out; omega
      rw [HL.out] at hlen
      clear D1 hS5
      go_wp2_with fail
      refine D2.out.mono ?_
      rintro e w6 ⟨A6, c6, rfl, hB6, hb6⟩
      have HZ5 : Hid (w5.heap.size ≤ w6.heap.size) := Lib.hid hb6.size
      have H6 := Lib.hid (H5.out.below hb6)
      have hR6 := H6.out.row (List.mem_cons_self ..)
      rw [← hlen] at hB6 ⊢
      have D3 := Lib.hid (H6.out.names (fits_of (.some (by omega)) .none) (by omega))
      clear D2 hb6 H5 hlen
      go_wp2_with fail
      refine D3.out.mono ?_
      rintro e w7 ⟨A7, c7, rfl, -, hb7, -⟩
      rw [key_one]
      have H7 := Lib.hid (H6.out.below hb7)
      have D4 := Lib.hid (version_c w7 (H7.out.blk (List.mem_cons_self ..)))
      have HB6 := Lib.hid hB6
      have HB7 := Lib.hid hb7
      clear D3 hb7 hB6 hR6
      have HV : Hid (0 ≤ Crc.verOf bs ∧ Crc.verOf bs ≤ 4294967295) := Lib.hid hvb
      clear hvb
      obtain ⟨V, hV⟩ : ∃ V, Crc.verOf bs = V := ⟨_, rfl⟩
      rw [hV] at H7 D4 HV ⊢
      obtain ⟨v0, v1⟩ := HV.out
      clear hV H6 HV
      go_wp2_with fail
      refine D4.out.mono ?_
      rintro e wa ⟨rfl, hwa⟩
      subst hwa
      have D5 := Lib.hid (Crc.same_c A5 A6 (Crc.bodyOf bs).length c5 (Crc.bodyOf bs).length c6 wa.heap.size w5.heap.size _ _ wa (H7.out.row (List.mem_cons_self ..)) (HB6.out.below (HB7.out.mono HZ5.out)))
      rw [decide_eq_true rfl] at D5
      clear D4 HB6 HB7 HZ5
      go_wp2_with fail
      refine D5.out.mono ?_
      rintro e wb ⟨rfl, hwb⟩
      subst hwb
      clear D5
      by_cases hv : V < 4294967295
      · have D6 := Lib.hid (save_c (A := none) (n := 0) (c := 0) (body := []) H7.out (fun x hx => (by cases hx)) ⟨v0, hv⟩ (.some (by omega)) Bs.nil (by omega))
        go_wp2_with fail
        refine D6.out.mono ?_
        rintro e w8 ⟨rfl, hS8⟩
        have D7 := Lib.hid (version_c w8 (hS8.blk (List.mem_cons_self ..)))
        have HE := Lib.hid hS8.base
        have hw : IntKind.i64.wrap (V + 1) = V + 1 := by unfold IntKind.wrap; simp [IntKind.bits, IntKind.signed]; omega
        clear D6 hS8 H7
        go_wp2_with fail
        refine D7.out.mono ?_
        rintro e wc ⟨rfl, hwc⟩
        subst hwc
        clear D7
        go_wp2_with fail
        go_ret
        exact ⟨rfl, HE.out⟩
      · have hv2 : V = 4294967295 := by omega
        clear hv v0 v1
        subst hv2
        have D6 := Lib.hid (save_no H7.out rfl)
        go_wp2_with fail
        refine D6.out.mono ?_
        rintro e w8 ⟨rfl, hb8⟩
        have H8 := Lib.hid (H7.out.below hb8)
        have D7 := Lib.hid (version_c w8 (H8.out.blk (List.mem_cons_self ..)))
        have HE := Lib.hid H8.out.base
        clear D6 hb8 H7 H8
        go_wp2_with fail
        refine D7.out.mono ?_
        rintro e wc ⟨rfl, hwc⟩
        subst hwc
        clear D7
        go_wp2_with fail
        go_ret
        exact ⟨rfl, HE.out⟩
    · have hf : Crc.isFrame bs = false := by simpa using hf
      have D1 := Lib.hid (open_no HS.out HT.out (by have := HL.out; omega) hf)
      clear HS HT
      go_wp2_with fail
      refine D1.out.mono ?_
      rintro e w5 ⟨rfl, hS5⟩
      have H5 := Lib.hid hS5
      have D2 := Lib.hid (rget_no (c := bc) (((HB.out.below hS5.base).sl)) (by omega) HB.out.le hf)
      clear D1 hS5
      go_wp2_with fail
      refine D2.out.mono ?_
      rintro e w6 ⟨rfl, hb6⟩
      have H6 := Lib.hid (H5.out.below hb6)
      have D3 := Lib.hid (H6.out.names (fits_of (.some (by have := HL.out; omega)) .none) (by omega))
      clear D2 hb6 H5
      go_wp2_with fail
      refine D3.out.mono ?_
      rintro e w7 ⟨A7, c7, rfl, -, hb7, -⟩
      rw [key_one]
      have HE := Lib.hid (H6.out.base.trans (hb7.mono H6.out.base.size))
      clear D3 hb7 H6
      go_wp2_with fail
      go_ret
      exact ⟨rfl, HE.out⟩
theorem walk (v1 v2 v3 : Value) (w : World) (h1 : Frame.Arg Try.prog w 27 v1) (h2 : Frame.Arg Try.prog w 27 v2) (h3 : Frame.Arg Try.prog w 4 v3) :
    Calls Try.prog 8 #[v1, v2, v3] w fun e w' => e = .returned (.bool true) ∧ Below w.heap.size w w' := by
  obtain ⟨A1, n1, c1, bs, rfl, q1⟩ := arg_hold h1
  obtain ⟨A2, n2, c2, ts, rfl, q2⟩ := arg_hold h2
  obtain ⟨b, rfl⟩ := h3.bool Try.underlying4
  exact core A1 A2 n1 c1 n2 c2 bs ts b w q1 q2
end Go.Proofs.Ytnaidihoijociaa.ckptOpens
