/- CkptKeeps: the walk. -/
import Derived.Test.YtnaidihoijociaaCkA
namespace Go.Proofs.Ytnaidihoijociaa
open Go.RowKit Go.Maps
namespace Ck
open Dk Bs
open Crc (Byte)
section
variable {W w : World} {g n : Nat} {s : Ds} {K : KL} {A : Option Addr} {bs : List Byte}
/-- a byte of the law's own row is turned -/
theorem CK.turn (h : CK W w g s K [(A, n, bs)]) {k : Nat} (hk : k < n) (hK : ∀ x ∈ K, x.2.1 ≠ 5) :
    ∃ (g0 off : Nat) (b : Byte), A = some ⟨g0, off, none⟩ ∧ w.cell? ⟨g0, off + k, none⟩ = some (.int .u8 (n8 b)) ∧ w.frozen? ⟨g0, off + k, none⟩ = false ∧ ∀ b' : Byte, CK W (w.setCell ⟨g0, off + k, none⟩ (.int .u8 (n8 b'))) g s K [(A, n, bs.set k b')] := by
  obtain ⟨col, h⟩ := h
  have hr := h.rw_ _ (List.mem_singleton.2 rfl)
  obtain ⟨g0, off, cur, e, hB, h9⟩ := hr.own (by show 0 < n; omega)
  have e' : A = some ⟨g0, off, none⟩ := e
  subst e'
  have hl : bs.length = n := Bs.len hr.bs
  obtain ⟨ad, e2, hlt, hcs⟩ := hr.bs.2 (by show 0 < n; omega)
  cases e2
  have hadd : ∀ j, (Addr.add ⟨g0, off, none⟩ j) = ⟨g0, off + j, none⟩ := fun j => by unfold Addr.add; split <;> simp_all
  have hk' : k < (bs.map bv).length := by simp; omega
  have hck := hcs k hk'
  rw [hadd, List.getElem_map] at hck
  refine ⟨g0, off, bs[k], rfl, by rw [hck, bv_n8], hB.frozen _, fun b' => ⟨col, h.fm.put (Ro.Only.setCell _ _ _) (j := 9) (fun q hq => by have hq' : q = g0 := hq; rw [hq']; exact h9) (one_9 _ _) (by decide), fun x hx => ⟨(h.kb x hx).1.far (fun e => ?_), (h.kb x hx).2⟩, fun x hx => ?_⟩⟩
  · have h1 := (h.kb x hx).1
    have e' : x.1 = g0 := e
    unfold Mem.Blk at h1 hB
    rw [e', hB] at h1
    simp only [Option.some.injEq, Obj.cells.injEq] at h1
    exact hK x hx h1.2.1.symm
  · rw [List.mem_singleton] at hx
    subst hx
    refine ⟨⟨by simpa using hl, fun _ => ⟨_, rfl, by simpa using hlt, fun j hj => ?_⟩⟩, fun _ => ⟨g0, off, _, rfl, hB.set_ _ _, h9⟩⟩
    rw [hadd]
    have hj2 : j < (bs.map bv).length := by simpa using hj
    by_cases hjk : j = k
    · subst hjk
      rw [(hB.set_ (off + j) _).cell]
      have hsz : off + j < cur.size := by
        have h1 := hB.cell (off + j)
        rw [hck] at h1
        exact (Array.getElem?_eq_some_iff.1 h1.symm).1
      simp [hsz, bv_n8]
    · have h1 := hcs j hj2
      rw [hadd] at h1
      rw [(hB.set_ (off + k) _).cell]
      rw [hB.cell] at h1
      rw [Array.getElem?_setIfInBounds_ne (by omega), h1]
      simp [List.getElem_set_ne (Ne.symm hjk)]
end
theorem app_new {w : World} {A : Option Addr} {n c : Nat} {bs : List Byte} (h : Bs w w.heap.size A n bs) (hn : n ≤ 1000000) :
    ∃ A' c' w', (Builtin.append_ #[27, 27] 27 #[.slice (some ⟨w.heap.size, 0, none⟩) 0 0, .slice A n c]).run Try.prog (w.alloc (.cells #[] 5)) = .ok (.slice A' n c') w' ∧ BRow w' A' n c' bs ∧ Below w.heap.size w w' ∧ ∀ b, Ro.blk A' = some b → w.heap.size ≤ b := by
  have hnew : Ro.Row (w.alloc (.cells #[] 5)) 5 1 (some ⟨w.heap.size, 0, none⟩) 0 0 [] := Ro.Row.new (cs := #[]) rfl (by decide)
  obtain ⟨A', c', w', hr, hR, hO, hb⟩ := Ro.app (P := Try.prog) (ty := 27) (c2 := c) Dk.elb hnew (Mem.Sl.alloc h (Nat.le_refl _) _) (one_bv bs) (by unfold maxLen; omega) (by omega)
  simp only [Nat.zero_add, List.nil_append] at hr hR
  refine ⟨A', c', w', hr, hR, ((Ro.Only.refl (fun _ => False) w).alloc _ |>.trans hO (T := fun b => Ro.blk (some ⟨w.heap.size, 0, none⟩) = some b) (fun k hk e => ?_)).below (Nat.le_refl _) (fun _ _ c => c), fun b hb2 => ?_⟩
  · have : w.heap.size = k := by simpa [Ro.blk] using e
    omega
  · rcases hb with hb | hb
    · rw [hb] at hb2
      have : w.heap.size = b := by simpa [Ro.blk] using hb2
      omega
    · rw [hb] at hb2
      have : (w.alloc (.cells #[] 5)).heap.size = b := by simpa using hb2
      simp at this
      omega
end Ck
end Go.Proofs.Ytnaidihoijociaa
namespace Go.Proofs.Ytnaidihoijociaa.ckptKeeps
open Go.RowKit Go.Maps Dk Bs Ck
open Crc (Byte)
set_option maxRecDepth 100000 in
set_option maxHeartbeats 16000000 in
theorem core (bA : Option Addr) (n bc : Nat) (bs : List Byte) (w : World) (h1 : Hold w (fun k => k < w.heap.size) bA n bc bs) :
    Calls Try.prog 9 #[.slice bA n bc] w fun e w' => e = .returned (.bool true) ∧ Below w.heap.size w w' := by
  have hm1 := h1.le
  have HB := Lib.hid h1
  have HL := Lib.hid h1.len
  clear h1
  unfold maxLen at hm1
  go_enter Try.func9, Try.ntmps9
  go_wp2_with fail
  refine (Ck.awake_c _).mono ?_
  rintro e w1 ⟨rfl, hb1⟩
  by_cases hbn : 300 < n
  · go_wp2_with fail
    refine (Ck.awake_c _).mono ?_
    rintro e w2 ⟨rfl, hb2⟩
    go_wp2_with fail
    go_ret
    exact ⟨rfl, hb1.trans (hb2.mono hb1.size)⟩
  go_wp2_with fail
  refine ((Fm.start hb1).news (j := 1) rfl (by decide)).mono ?_
  intro e w2 hp
  obtain ⟨g, rfl, hS⟩ := CK.new hp
  have D1 := Lib.hid (open_none hS .none)
  clear hp hS hb1
  go_wp2_with fail
  refine D1.out.mono ?_
  rintro e w3 ⟨sb, rfl, hS3, -⟩
  have H3 := Lib.hid hS3
  obtain ⟨Ao, co, w4, hrun, hR4, hb4, hf4⟩ := app_new (w := w3) (c := bc) ((HB.out.below hS3.base).sl) (by omega)
  have H4 := Lib.hid (hS3.addRow hb4 hR4 hf4)
  clear D1 hS3 hR4 hb4 hf4
  go_wp2_with (at_builtin; refine Ro.wpList_app rfl _ _ _ _ rfl _ _ rfl rfl hrun ?_)
  clear hrun
  have D2 := Lib.hid (save_c (c := co) H4.out (fun x hx => (by cases hx)) (by omega) .none (H4.out.row (List.mem_cons_self ..)) (by omega))
  clear H3
  go_wp2_with fail
  refine D2.out.mono ?_
  rintro e w5 ⟨rfl, hS5⟩
  rw [show (0 : Int) + 1 = 1 from rfl] at hS5
  have D3 := Lib.hid (Crc.same_c Ao bA _ co _ bc _ _ _ _ w5 (hS5.row (List.mem_cons_self ..)) (HB.out.below hS5.base).sl)
  rw [decide_eq_true rfl] at D3
  have H5 : Hid (∃ bs', CK w w5 g ⟨fsOf (some (Crc.frame 1 bs)) none, []⟩ [(sb, 91, stk g 1)] [(Ao, n, bs')]) := Lib.hid ⟨_, hS5⟩
  clear D2 H4 hS5
  go_wp2_with fail
  refine D3.out.mono ?_
  rintro e wa ⟨rfl, hwa⟩
  subst hwa
  clear D3
  go_wp2_with fail
  go_loopw [10] (fun vi wr => ∃ k : Nat, k ≤ n ∧ vi = .int .i64 k ∧ Hid (∃ bs', CK w wr g ⟨fsOf (some (Crc.frame 1 bs)) none, []⟩ [(sb, 91, stk g 1)] [(Ao, n, bs')])) (fun i _ => n - (intOf i).toNat)
  case atStart => exact ⟨0, by omega, rfl, H5⟩
  case round =>
    clear H5
    obtain ⟨k, hk, rfl, HX⟩ := hrel
    obtain ⟨bs', hX⟩ := HX.out
    by_cases hlt : k < n
    · obtain ⟨g0, off, b, eA, hc, hz, hset⟩ := CK.turn hX hlt (by intro x hx; simp at hx; subst hx; exact (show 91 ≠ 5 by decide))
      have f1 := x255 b
      have H3 : Hid (∃ bs', CK w (wr.setCell ⟨g0, off + k, none⟩ (.int .u8 (n8 (b ^^^ 255#8)))) g ⟨fsOf (some (Crc.frame 1 bs)) none, []⟩ [(sb, 91, stk g 1)] [(Ao, n, bs')]) := Lib.hid ⟨_, hset _⟩
      rw [eA] at H3 ⊢
      clear HX hX hset
      go_wp2_with fail
      go_roundw
      case rel => exact ⟨k + 1, by omega, by go_num, H3⟩
      case measure => simp [intOf]; omega
    · have hkn : k = n := by omega
      subst hkn
      have HX := Lib.hid hX
      clear hX
      have HX2 := Lib.hid (HX.out.sub (K' := [(sb, 91, stk g 1)]) (R' := []) (fun x hx => hx) (fun x hx => (by cases hx)))
      have D4 := Lib.hid (open_frame HX2.out .none (by omega) (by omega) (by have := HL.out; omega))
      clear HX HX2
      go_wp2_with fail
      refine D4.out.mono ?_
      rintro e w6 ⟨xb, Ax, cx, rfl, hS6, -⟩
      have D5 := Lib.hid (Crc.same_c Ax bA _ cx _ bc _ _ _ _ w6 (hS6.row (List.mem_cons_self ..)) (HB.out.below hS6.base).sl)
      rw [decide_eq_true rfl] at D5
      rw [HL.out] at D5 hS6 ⊢
      have H6 : Hid (∃ bs', CK w w6 g ⟨fsOf (some (Crc.frame 1 bs)) none, []⟩ [(xb, 91, stk g 1), (sb, 91, stk g 1)] [(Ax, k, bs')]) := Lib.hid ⟨_, hS6⟩
      clear D4 hS6
      go_wp2_with fail
      refine D5.out.mono ?_
      rintro e wb ⟨rfl, hwb⟩
      subst hwb
      clear D5
      go_wp2_with fail

      go_loopw [14] (fun vi wr => ∃ j : Nat, j ≤ k ∧ vi = .int .i64 j ∧ Hid (∃ bs', CK w wr g ⟨fsOf (some (Crc.frame 1 bs)) none, []⟩ [(xb, 91, stk g 1), (sb, 91, stk g 1)] [(Ax, k, bs')])) (fun i _ => k - (intOf i).toNat)
      case atStart => exact ⟨0, by omega, rfl, H6⟩
      case round =>
        clear H6
        obtain ⟨j, hj, rfl, HX⟩ := hrel
        obtain ⟨bs', hX⟩ := HX.out
        by_cases hlt : j < k
        · obtain ⟨g0, off, b, eA, hc, hz, hset⟩ := CK.turn hX hlt (by intro x hx; simp at hx; rcases hx with rfl | rfl <;> exact (show 91 ≠ 5 by decide))
          have f1 := x255 b
          have H3 : Hid (∃ bs', CK w (wr.setCell ⟨g0, off + j, none⟩ (.int .u8 (n8 (b ^^^ 255#8)))) g ⟨fsOf (some (Crc.frame 1 bs)) none, []⟩ [(xb, 91, stk g 1), (sb, 91, stk g 1)] [(Ax, k, bs')]) := Lib.hid ⟨_, hset _⟩
          rw [eA] at H3 ⊢
          clear HX hX hset
          go_wp2_with fail
          go_roundw
          case rel => exact ⟨j + 1, by omega, by go_num, H3⟩
          case measure => simp [intOf]; omega
        · have hkn : j = k := by omega
          subst hkn
          have HX := Lib.hid hX
          clear hX
          have HX2 := Lib.hid (HX.out.sub (K' := []) (R' := []) (fun x hx => (by cases hx)) (fun x hx => (by cases hx)))
          have D5 := Lib.hid (open_frame HX2.out .none (by omega) (by omega) (by have := HL.out; omega))
          clear HX HX2
          go_wp2_with fail
          refine D5.out.mono ?_
          rintro e w7 ⟨yb, Ay, cy, rfl, hS7, -⟩
          have D6 := Lib.hid (Crc.same_c Ay bA _ cy _ bc _ _ _ _ w7 (hS7.row (List.mem_cons_self ..)) (HB.out.below hS7.base).sl)
          rw [decide_eq_true rfl] at D6
          rw [HL.out] at D6 ⊢
          have HE := Lib.hid hS7.base
          clear D5 hS7
          go_wp2_with fail
          refine D6.out.mono ?_
          rintro e wb ⟨rfl, hwb⟩
          subst hwb
          clear D6
          go_wp2_with fail
          go_ret
          exact ⟨rfl, HE.out⟩
theorem walk (v1 : Value) (w : World) (h1 : Frame.Arg Try.prog w 27 v1) :
    Calls Try.prog 9 #[v1] w fun e w' => e = .returned (.bool true) ∧ Below w.heap.size w w' := by
  obtain ⟨A1, n1, c1, bs, rfl, q1⟩ := arg_hold h1
  exact core A1 n1 c1 bs w q1
end Go.Proofs.Ytnaidihoijociaa.ckptKeeps
