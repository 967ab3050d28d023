/- Layer 11 (ckpt): the walks of clean, Open, Version. -/
import Derived.Test.YtnaidihoijociaaCkW
namespace Go.Proofs.Ytnaidihoijociaa
open Go.RowKit Go.Maps
namespace Ck
open Dk Bs
open Crc (Byte isFrame verOf bodyOf)
def stk (g : Nat) (v : Int) : Array Value := #[.pointer (some ⟨g, 0, none⟩), .int .i64 v]
section
variable {W w : World} {g sb : Nat} {s : Ds} {K : KL} {R : RL} {m t : Option (List Byte)} {b : List Byte} {v : Int}
theorem CK.lt (h : CK W w g s K R) : ∀ x ∈ K, x.1 < w.heap.size := by
  obtain ⟨col, h⟩ := h
  exact fun x hx => (h.kb x hx).1.lt
theorem look_of (m t : Option (List Byte)) : Dk.look ⟨fsOf m t, []⟩ = fsOf m t := rfl
theorem rm_does (m t : Option (List Byte)) : doS ⟨fsOf m t, []⟩ ⟨3, tT, t0, []⟩ = ⟨fsOf m t, [⟨3, tT, t0, []⟩]⟩ := by
  unfold doS
  rw [if_pos (show right ⟨3, tT, t0, []⟩ = true by kernel_rfl)]
  rfl
set_option maxRecDepth 100000 in
theorem clean_c (h : CK W w g ⟨fsOf m t, []⟩ K R) (hm : Lim m) (ht : Lim t) :
    Calls Try.prog 48 #[.pointer (some ⟨g, 0, none⟩)] w fun e w' => e = .returned (.tuple #[]) ∧ CK W w' g ⟨fsOf m none, []⟩ K R := by
  have HP := Lib.hid (h.read (name := tT) (fits_of hm ht) (by omega) (show (4 : Nat) ≤ maxLen by decide))
  rw [look_of, get_temp] at HP
  cases t with
  | none =>
    have H := Lib.hid h
    clear h hm ht
    go_enter Try.func48, Try.ntmps48
    go_wp2_with fail
    refine HP.out.mono ?_
    rintro e w1 ⟨hb1, rfl⟩
    have H1 := Lib.hid (H.out.below hb1)
    clear HP H hb1
    go_wp2_with fail
    exact bodyPost_end (results_none rfl _ _ _) rfl ⟨rfl, H1.out⟩
  | some x =>
    have H := Lib.hid h
    have HM := Lib.hid hm
    have HT := Lib.hid ht
    clear h hm ht
    go_enter Try.func48, Try.ntmps48
    go_wp2_with fail
    refine HP.out.mono ?_
    rintro e w1 ⟨hb1, A3, c3, rfl, -, -⟩
    have hF := fits_of HM.out HT.out
    have H1 := Lib.hid (H.out.below hb1)
    have D1 := Lib.hid (H1.out.does (kind := 3) (name := tT) (nto := t0) hF (by omega) (Hold.none w1 (fun _ => True)) (show (4 : Nat) ≤ maxLen by decide) (show (0 : Nat) ≤ maxLen by decide) (by omega))
    rw [rm_does] at D1
    have HF2 := Lib.hid (hF.does (o := ⟨3, tT, t0, []⟩) ⟨show (4 : Nat) ≤ maxLen by decide, show (0 : Nat) ≤ maxLen by decide, Nat.zero_le _⟩)
    clear HP H hb1 hF
    go_wp2_with fail
    refine D1.out.mono ?_
    rintro e w2 ⟨rfl, hS2⟩
    have D2 := Lib.hid (hS2.sync HF2.out (by omega))
    rw [show Dk.look ⟨fsOf m (some x), [⟨3, tT, t0, []⟩]⟩ = fsOf m none from rm_temp m (some x)] at D2
    clear D1 hS2
    go_wp2_with fail
    refine D2.out.mono ?_
    rintro e w3 ⟨rfl, hS3⟩
    have H3 := Lib.hid hS3
    clear D2 hS3
    go_wp2_with fail
    exact bodyPost_end (results_none rfl _ _ _) rfl ⟨rfl, H3.out⟩
set_option maxRecDepth 100000 in
theorem open_none (h : CK W w g ⟨fsOf none t, []⟩ K R) (ht : Lim t) :
    Calls Try.prog 30 #[.pointer (some ⟨g, 0, none⟩)] w fun e w' => ∃ sb, e = .returned (.tuple #[.pointer (some ⟨sb, 0, none⟩), .slice none 0 0, .int .i64 4]) ∧ CK W w' g ⟨fsOf none none, []⟩ ((sb, 91, stk g 0) :: K) R ∧ ∀ x ∈ K, x.1 < sb := by
  have HC := Lib.hid (clean_c h .none ht)
  clear h ht
  go_enter Try.func30, Try.ntmps30
  go_wp2_with fail
  refine HC.out.mono ?_
  rintro e w1 ⟨rfl, hS1⟩
  have H1 := Lib.hid hS1
  have HP := Lib.hid (hS1.read (name := tM) (fits_of .none .none) (by omega) (show (4 : Nat) ≤ maxLen by decide))
  rw [look_of, get_main] at HP
  clear hS1 HC
  go_wp2_with fail
  refine HP.out.mono ?_
  rintro e w2 ⟨hb2, rfl⟩
  have H2 := Lib.hid (H1.out.below hb2)
  have HN : Hid (∃ sb, (Ending.returned (.tuple #[.pointer (some ⟨w2.heap.size, 0, none⟩), .slice none 0 0, .int .i64 4])) = .returned (.tuple #[.pointer (some ⟨sb, 0, none⟩), .slice none 0 0, .int .i64 4]) ∧ CK W (w2.alloc (.cells (stk g 0) 91)) g ⟨fsOf none none, []⟩ ((sb, 91, stk g 0) :: K) R ∧ ∀ x ∈ K, x.1 < sb) := Lib.hid ⟨_, rfl, H2.out.addK ((Below.refl _ _).alloc (Nat.le_refl _) _) Mem.Blk.new (Nat.le_refl _), H2.out.lt⟩
  clear HP H1 H2 hb2
  go_wp2_with fail
  exact bodyPost_ret (v := .tuple #[.pointer (some ⟨w2.heap.size, 0, none⟩), .slice none 0 0, .int .i64 4]) (by simp [results, Try.results30, go_sem]) rfl HN.out
set_option maxRecDepth 100000 in
theorem open_no (h : CK W w g ⟨fsOf (some b) t, []⟩ K R) (ht : Lim t) (hb : b.length ≤ 100000) (hf : isFrame b = false) :
    Calls Try.prog 30 #[.pointer (some ⟨g, 0, none⟩)] w fun e w' => e = .returned (.tuple #[.pointer none, .slice none 0 0, .int .i64 3]) ∧ CK W w' g ⟨fsOf (some b) none, []⟩ K R := by
  have HC := Lib.hid (clean_c h (.some hb) ht)
  clear h ht
  go_enter Try.func30, Try.ntmps30
  go_wp2_with fail
  refine HC.out.mono ?_
  rintro e w1 ⟨rfl, hS1⟩
  have H1 := Lib.hid hS1
  have HP := Lib.hid (hS1.read (name := tM) (fits_of (.some hb) .none) (by omega) (show (4 : Nat) ≤ maxLen by decide))
  rw [look_of, get_main] at HP
  clear hS1 HC
  go_wp2_with fail
  refine HP.out.mono ?_
  rintro e w2 ⟨hb2, A2, c2, rfl, hR2, -⟩
  have H2 := Lib.hid (H1.out.below hb2)
  have HG := Lib.hid (Crc.fget_no A2 b.length c2 b w2 hR2.sl (by omega) hR2.le.1 hR2.le.2 hf)
  clear HP H1 hb2 hR2
  go_wp2_with fail
  refine HG.out.mono ?_
  rintro e w3 ⟨rfl, hb3⟩
  have H3 := Lib.hid (H2.out.below hb3)
  clear HG H2 hb3
  go_wp2_with fail
  exact bodyPost_ret (v := .tuple #[.pointer none, .slice none 0 0, .int .i64 3]) (by simp [results, Try.results30, go_sem]) rfl ⟨rfl, H3.out⟩
set_option maxRecDepth 100000 in
theorem open_yes (h : CK W w g ⟨fsOf (some b) t, []⟩ K R) (ht : Lim t) (hb : b.length ≤ 100000) (hf : isFrame b = true) :
    Calls Try.prog 30 #[.pointer (some ⟨g, 0, none⟩)] w fun e w' => ∃ sb A c, e = .returned (.tuple #[.pointer (some ⟨sb, 0, none⟩), .slice A (bodyOf b).length c, .int .i64 0]) ∧ CK W w' g ⟨fsOf (some b) none, []⟩ ((sb, 91, stk g (verOf b)) :: K) ((A, (bodyOf b).length, bodyOf b) :: R) ∧ ∀ x ∈ K, x.1 < sb := by
  have HC := Lib.hid (clean_c h (.some hb) ht)
  obtain ⟨-, -, hlen, -⟩ := Crc.is_frame hf
  have HL := Lib.hid hlen
  clear h ht hlen
  go_enter Try.func30, Try.ntmps30
  go_wp2_with fail
  refine HC.out.mono ?_
  rintro e w1 ⟨rfl, hS1⟩
  have H1 := Lib.hid hS1
  have HP := Lib.hid (hS1.read (name := tM) (fits_of (.some hb) .none) (by omega) (show (4 : Nat) ≤ maxLen by decide))
  rw [look_of, get_main] at HP
  clear hS1 HC
  go_wp2_with fail
  refine HP.out.mono ?_
  rintro e w2 ⟨hb2, A2, c2, rfl, hR2, -⟩
  have H2 := Lib.hid (H1.out.below hb2)
  have HG := Lib.hid (Crc.fget_yes A2 b.length c2 b w2 hR2.sl (by omega) hR2.le.1 hR2.le.2 hf)
  clear HP H1 hb2 hR2
  go_wp2_with fail
  refine HG.out.mono ?_
  rintro e w3 ⟨A3, c3, rfl, hB3, hO3, hb3⟩
  rw [← HL.out] at hB3 hO3 ⊢
  have H3 := Lib.hid (H2.out.addR hb3 hB3 (fun h0 => by
    obtain ⟨q, cc, e, hO⟩ := hO3 h0
    obtain ⟨A', c', e2, hr, hfr⟩ := row_of_own hO
    cases e2
    obtain ⟨cur, hq⟩ := hr.type (g := q) rfl
    exact ⟨q, 12, cur, e, hq, hfr q rfl⟩))
  have HN : Hid (∃ sb A c, (Ending.returned (.tuple #[.pointer (some ⟨w3.heap.size, 0, none⟩), .slice A3 (bodyOf b).length c3, .int .i64 0])) = .returned (.tuple #[.pointer (some ⟨sb, 0, none⟩), .slice A (bodyOf b).length c, .int .i64 0]) ∧ CK W (w3.alloc (.cells (stk g (verOf b)) 91)) g ⟨fsOf (some b) none, []⟩ ((sb, 91, stk g (verOf b)) :: K) ((A, (bodyOf b).length, bodyOf b) :: R) ∧ ∀ x ∈ K, x.1 < sb) := Lib.hid ⟨_, _, _, rfl, H3.out.addK ((Below.refl _ _).alloc (Nat.le_refl _) _) Mem.Blk.new (Nat.le_refl _), H3.out.lt⟩
  clear HG H2 hb3 hB3 hO3 HL H3
  go_wp2_with fail
  exact bodyPost_ret (v := .tuple #[.pointer (some ⟨w3.heap.size, 0, none⟩), .slice A3 (bodyOf b).length c3, .int .i64 0]) (by simp [results, Try.results30, go_sem]) rfl HN.out
theorem version_c (w : World) (h : Mem.Blk w sb 91 (stk g v)) :
    Calls Try.prog 32 #[.pointer (some ⟨sb, 0, none⟩)] w fun e w' => e = .returned (.int .i64 v) ∧ w' = w := by
  have m1 : w.cell? ⟨sb, 1, none⟩ = some (.int .i64 v) := h.cell 1
  clear h
  go_enter Try.func32, Try.ntmps32
  go_wp2_with fail
  go_ret
  exact ⟨rfl, rfl⟩
end
end Ck
end Go.Proofs.Ytnaidihoijociaa
