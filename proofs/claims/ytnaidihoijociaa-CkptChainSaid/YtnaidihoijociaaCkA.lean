/- Layer 11 (ckpt): the laws' awake, few; bodies that come in. -/
import Derived.Test.YtnaidihoijociaaCkQ
import Derived.Lib.SlBytesConst
namespace Go.Proofs.Ytnaidihoijociaa
open Go.RowKit Go.Maps
namespace Ck
open Dk Bs
open Crc (Byte frame isFrame verOf bodyOf)
def bOne : List Byte := [111, 110, 101]
theorem str_one : Bs.strOf bOne = ⟨#[111, 110, 101]⟩ := by kernel_rfl
theorem key_one (x : List Byte) : ((Dk.look ⟨fsOf (some x) none, []⟩).map (·.1)).length = 1 := rfl
theorem frame_facts {v : Int} {body : List Byte} (h0 : 0 ≤ v) (h1 : v ≤ 4294967295) (hb : body.length ≤ 90000) : isFrame (frame v body) = true ∧ verOf (frame v body) = v ∧ bodyOf (frame v body) = body ∧ (frame v body).length ≤ 100000 := by
  obtain ⟨a, b, c⟩ := Crc.frame_is v body h0 h1 (by omega)
  exact ⟨a, b, c, by rw [Crc.frame_len]; omega⟩
/-- opened again: what was saved is there -/
theorem open_frame {W w : World} {g : Nat} {K : KL} {R : RL} {t : Option (List Byte)} {v : Int} {body : List Byte} (h : CK W w g ⟨fsOf (some (frame v body)) t, []⟩ K R) (ht : Lim t) (h0 : 0 ≤ v) (h1 : v ≤ 4294967295) (hb : body.length ≤ 90000) :
    Calls Try.prog 30 #[.pointer (some ⟨g, 0, none⟩)] w fun e w' => ∃ sb A c, e = .returned (.tuple #[.pointer (some ⟨sb, 0, none⟩), .slice A body.length c, .int .i64 0]) ∧ CK W w' g ⟨fsOf (some (frame v body)) none, []⟩ ((sb, 91, stk g v) :: K) ((A, body.length, body) :: R) ∧ ∀ x ∈ K, x.1 < sb := by
  obtain ⟨f1, f2, f3, f4⟩ := frame_facts h0 h1 hb
  have := open_yes h ht f4 f1
  rw [f2, f3] at this
  exact this
theorem CK.new {w0 w w' : World} {e : Ending} (h : Made w0 w (fun _ => 0) (fun _ => none) 1 ⟨[], []⟩ e w') : ∃ g, e = .returned (.pointer (some ⟨g, 0, none⟩)) ∧ CK w0 w' g ⟨fsOf none none, []⟩ [] [] := by
  obtain ⟨g, col, rfl, -, hF, -⟩ := h
  exact ⟨g, rfl, CK.start hF⟩
set_option maxRecDepth 100000 in
set_option maxHeartbeats 4000000 in
theorem awake_c (w : World) : Calls Try.prog 29 #[] w fun e w' => e = .returned (.bool true) ∧ Below w.heap.size w w' := by
  have kc := fun (w : World) (C : Array Value) (n c : Nat) => Lib.run_convert_bytes_const (P := Try.prog) w 27 5 C n c Try.underlying27 Try.underlying5
  go_enter Try.func29, Try.ntmps29
  go_wp2_with fail
  refine ((Fm.start (W := w) (Below.refl _ _)).news (j := 1) rfl (by decide)).mono ?_
  intro e w1 hp
  obtain ⟨g, rfl, hS⟩ := CK.new hp
  have D1 := Lib.hid (open_none hS .none)
  clear hp hS
  go_wp2_with fail
  refine D1.out.mono ?_
  rintro e w2 ⟨sb, rfl, hS2, -⟩
  have H2 := Lib.hid hS2
  have D2 := Lib.hid (version_c w2 (hS2.blk (List.mem_cons_self ..)))
  clear hS2 D1
  go_wp2_with fail
  refine D2.out.mono ?_
  rintro e w3 ⟨rfl, hw3⟩
  subst hw3
  have hl : Below w3.heap.size w3 (w3.alloc (.cells #[.int .u8 111, .int .u8 110, .int .u8 101] 5 (3, 4))) := (Below.refl _ _).alloc (Nat.le_refl _) _
  have D3 := Lib.hid (save_c (n := 3) (c := 3) (H2.out.below hl) (fun x hx => (by cases hx)) (by omega) .none (hold_lit (w := w3) (fz := (3, 4)) (bs := bOne) rfl rfl (by decide)).sl (by omega))
  clear hl D2 H2
  go_wp2_with fail
  clear kc
  refine D3.out.mono ?_
  rintro e w4 ⟨rfl, hS4⟩
  have D4 := Lib.hid (open_frame hS4 .none (by omega) (by omega) (by decide))
  clear D3 hS4
  go_wp2_with fail
  refine D4.out.mono ?_
  rintro e w5 ⟨tb, A5, c5, rfl, hS5, -⟩
  rw [show bOne.length = 3 from rfl] at hS5 ⊢
  rw [show (0 : Int) + 1 = 1 from rfl] at hS5
  have H5 := Lib.hid hS5
  have D5 := Lib.hid (version_c w5 (hS5.blk (b := sb) (List.mem_cons_of_mem _ (List.mem_cons_self ..))))
  have D6 := Lib.hid (version_c w5 (hS5.blk (List.mem_cons_self ..)))
  have v1 : (convert 27 9 (.slice A5 3 c5)).run Try.prog w5 = .ok (.string ⟨#[111, 110, 101]⟩) w5 := by
    rw [← str_one]
    exact run_str (hS5.row (List.mem_cons_self ..)) Try.underlying27 Try.underlying5 Try.underlying9
  clear D4 hS5
  go_wp2_with fail
  refine D5.out.mono ?_
  rintro e wa ⟨rfl, hwa⟩
  subst hwa
  go_wp2_with fail
  refine D6.out.mono ?_
  rintro e wa ⟨rfl, hwb⟩
  subst hwb
  clear D5 D6
  go_wp2_with fail
  refine (steps_n _).mono ?_
  rintro e w6 ⟨rfl, hb6⟩
  have H6 := Lib.hid (H5.out.below hb6)
  have D7 := Lib.hid (H6.out.names (fits_of (.some (frame_facts (v := 1) (body := bOne) (by omega) (by omega) (by decide)).2.2.2) .none) (by omega))
  clear H5 hb6 v1
  go_wp2_with fail
  refine D7.out.mono ?_
  rintro e w7 ⟨A8, c8, rfl, -, hb8, -⟩
  rw [key_one]
  have HB := Lib.hid (H6.out.base.trans (hb8.mono H6.out.base.size))
  clear D7 H6 hb8
  go_wp2_with fail
  go_ret
  exact ⟨rfl, HB.out⟩
/-- a body that came in -/
abbrev Bd := Option Addr × Nat × Nat × List Byte
structure Bds (W : World) (A : Option Addr) (n c : Nat) (L : List Bd) : Prop where
  le : n ≤ c ∧ c ≤ maxLen
  len : L.length = n
  hold : ∀ x ∈ L, Hold W (fun k => k < W.heap.size) x.1 x.2.1 x.2.2.1 x.2.2.2
  sl : Mem.Sl W W.heap.size 1 A n (L.map fun x => .slice x.1 x.2.1 x.2.2.1)
theorem arg_bds {W : World} {v : Value} (h : Frame.Arg Try.prog W 60 v) : ∃ (A : Option Addr) (n c : Nat) (L : List Bd), v = .slice A n c ∧ Bds W A n c L := by
  obtain ⟨A, n, c, rfl⟩ := h.one Try.underlying60
  obtain ⟨A', n', c', xss, hcs, h1, h2, h3, h4, h5, _⟩ := h.dat.slice (size := 1) Try.underlying60 (by kernel_rfl) (by omega)
  simp [Value.cells] at hcs
  obtain ⟨rfl, rfl, rfl⟩ := hcs
  have key : ∀ xss : List (List Value), (∀ xs ∈ xss, xs.length = 1 ∧ Frame.Dat Try.prog W 27 xs) → ∃ L : List Bd, L.length = xss.length ∧ (∀ x ∈ L, Hold W (fun k => k < W.heap.size) x.1 x.2.1 x.2.2.1 x.2.2.2) ∧ xss.flatten = L.map fun x => .slice x.1 x.2.1 x.2.2.1 := by
    intro xss
    induction xss with
    | nil => intro _; exact ⟨[], rfl, fun _ h => (by cases h), rfl⟩
    | cons xs xss ih =>
      intro hx
      obtain ⟨L, hb1, hb2, hb3⟩ := ih (fun y hy => hx y (by simp [hy]))
      obtain ⟨A, n, c, bs, rfl, hh⟩ := dat_hold (hx xs (by simp)).2
      refine ⟨(A, n, c, bs) :: L, by simp [hb1], fun x hx => ?_, by simp [hb3]⟩
      rcases List.mem_cons.1 hx with rfl | hx
      · exact hh
      · exact hb2 x hx
  obtain ⟨L, hb1, hb2, hb3⟩ := key xss h4
  rw [hb3] at h5
  exact ⟨A, n, c, L, rfl, ⟨h1, h2⟩, by omega, hb2, h5⟩
theorem Bds.at_ {W w : World} {A : Option Addr} {n c k : Nat} {L : List Bd} (h : Bds W A n c L) (hb : Below W.heap.size W w) (hk : k < n) : ∃ (ad : Addr) (hl : k < L.length), A = some ad ∧ ad.block < W.heap.size ∧ w.cell? (ad.add k) = some (.slice L[k].1 L[k].2.1 L[k].2.2.1) := by
  obtain ⟨ad, hl, e, h1, h2⟩ := (h.sl.below hb).at_ hk
  refine ⟨ad, by simpa using hl, e, h1, ?_⟩
  rw [h2, List.getElem_map]
/-- few bodies, and short -/
structure FewB (n : Nat) (L : List Bd) : Prop where
  n : n ≤ 20
  all : ∀ x ∈ L, x.2.1 ≤ 300
set_option maxRecDepth 100000 in
set_option maxHeartbeats 4000000 in
theorem few_c {W w : World} (A : Option Addr) (n c : Nat) (L : List Bd) (h : Bds W A n c L) (hb : Below W.heap.size W w) :
    Calls Try.prog 35 #[.slice A n c] w (NR (FewB n L) w) := by
  have hpl := h.len
  have hn : n ≤ 9223372036854775807 := by have := h.le.1; have := h.le.2; unfold maxLen at this; omega
  have H := Lib.hid h
  have HB := Lib.hid hb
  have HPl := Lib.hid hpl
  clear h hb hpl
  go_enter Try.func35, Try.ntmps35
  go_wp2_with fail
  go_loop [3] (fun vi => ∃ k : Nat, k ≤ n ∧ vi = .int .i64 k ∧ Hid (∀ (j : Nat) (hj : j < L.length), j < k → L[j].2.1 ≤ 300)) (fun i => n - (intOf i).toNat)
  case atStart => exact ⟨0, by omega, rfl, fun j hj c => absurd c (by omega)⟩
  case round =>
    obtain ⟨k, hk, rfl, HN⟩ := hrel
    by_cases hlt : k < n ∧ k < 40
    · obtain ⟨h1, h2⟩ := hlt
      obtain ⟨ad, hl, rfl, hbk, hat⟩ := H.out.at_ HB.out h1
      have hHo := (H.out.hold L[k] (List.getElem_mem hl)).le
      have hstep : Hid (L[k].2.1 ≤ 300 → Hid (∀ (j : Nat) (hj : j < L.length), j < k + 1 → L[j].2.1 ≤ 300)) := Lib.hid fun hs j hj hjk => by
        rcases Nat.lt_succ_iff_lt_or_eq.1 hjk with h | h
        · exact HN.out j hj h
        · subst h; exact hs
      generalize L[k] = p at *
      obtain ⟨bA, bn, bc, bs⟩ := p
      have hbn : bn ≤ 9223372036854775807 := by have := hHo.1; have := hHo.2; unfold maxLen at this; dsimp only at *; omega
      dsimp only at hat hstep
      clear hHo HN hl hbk
      by_cases g1 : 300 < bn
      · go_wp2_with fail
        go_ret
        exact ⟨false, rfl, fun h => (by cases h), rfl⟩
      have hnx := hstep.out (by omega)
      clear hstep
      go_wp2_with fail
      go_round
      case rel => exact ⟨k + 1, by omega, by go_num, hnx⟩
      case measure => simp [intOf]; omega
    · have hor : k < n ∧ 40 ≤ k ∨ k = n := by omega
      rcases hor with ⟨h1, h2⟩ | rfl
      · clear HN
        go_wp2_with fail
        go_ret
        exact ⟨_, rfl, fun h => (by have := of_decide_eq_true h; omega), rfl⟩
      · have hall : Hid (∀ x ∈ L, x.2.1 ≤ 300) := Lib.hid fun p hp => by
          obtain ⟨j, hj, rfl⟩ := List.getElem_of_mem hp
          exact HN.out j hj (by have := HPl.out; omega)
        clear HN
        go_wp2_with fail
        go_ret
        exact ⟨_, rfl, fun h => ⟨by have := of_decide_eq_true h; omega, hall.out⟩, rfl⟩
end Ck
end Go.Proofs.Ytnaidihoijociaa
