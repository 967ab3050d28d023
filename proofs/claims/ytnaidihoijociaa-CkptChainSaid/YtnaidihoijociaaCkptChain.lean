/- CkptChain: the walk. -/
import Derived.Test.YtnaidihoijociaaCkA
import Derived.Test.YtnaidihoijociaaTrV
namespace Go.Proofs.Ytnaidihoijociaa.ckptChain
open Go.RowKit Go.Maps Dk Bs Ck
open Crc (Byte)
/-- what "main" is, of a version and a body -/
def mOf (v : Nat) (xs : List Byte) : Option (List Byte) := if v = 0 then none else some (Crc.frame v xs)
theorem mOf_succ (v : Nat) (xs : List Byte) : mOf (v + 1) xs = some (Crc.frame ((v : Int) + 1) xs) := by
  unfold mOf
  rw [if_neg (by omega)]
  rfl
theorem lim_mOf {v : Nat} {xs : List Byte} (hv : v ≤ 1000) (hx : xs.length ≤ 300) : Lim (mOf v xs) := by
  unfold mOf
  split
  · exact .none
  · exact .some (frame_facts (v := (v : Int)) (body := xs) (by omega) (by omega) (by omega)).2.2.2
/-- opened: the version, the body -/
theorem open_mid {W w : World} {g v : Nat} {xs : List Byte} {K : KL} {R : RL} {t : Option (List Byte)} (h : CK W w g ⟨fsOf (mOf v xs) t, []⟩ K R) (ht : Lim t) (hv : v ≤ 1000) (hx : xs.length ≤ 300) (h0 : v = 0 → xs = []) :
    Calls Try.prog 30 #[.pointer (some ⟨g, 0, none⟩)] w fun e w' => ∃ sb A n c E, e = .returned (.tuple #[.pointer (some ⟨sb, 0, none⟩), .slice A n c, .int .i64 E]) ∧ CK W w' g ⟨fsOf (mOf v xs) none, []⟩ ((sb, 91, stk g (v : Int)) :: K) ((A, n, xs) :: R) ∧ xs.length = n ∧ E = if v = 0 then 4 else 0 := by
  by_cases hz : v = 0
  · subst hz
    have hxs := h0 rfl
    subst hxs
    refine (open_none h ht).mono ?_
    rintro e w' ⟨sb, rfl, hS, -⟩
    exact ⟨sb, none, 0, 0, 4, rfl, hS.addR (Below.refl _ _) Bs.nil (fun h => absurd h (by omega)), rfl, rfl⟩
  · have hm : mOf v xs = some (Crc.frame (v : Int) xs) := by unfold mOf; rw [if_neg hz]
    rw [hm] at h ⊢
    refine (open_frame h ht (by omega) (by omega) (by omega)).mono ?_
    rintro e w' ⟨sb, A, c, rfl, hS, -⟩
    exact ⟨sb, A, _, c, 0, rfl, hS, rfl, by rw [if_neg hz]⟩
/-- tries that came in -/
structure Tries (W : World) (A : Option Addr) (n c : Nat) (ps : List TrV) : Prop where
  le : n ≤ c ∧ c ≤ maxLen
  len : ps.length = n
  ok : ∀ p ∈ ps, p.ok
  hold : ∀ p ∈ ps, Hold W (fun k => k < W.heap.size) p.bodyA p.bodyn p.bodyc p.body
  keep : ∀ p ∈ ps, Mem.Ints W W.heap.size .i64 p.keepA p.keepn p.keep
  sl : Mem.Sl W W.heap.size 3 A n (TrV.flat ps)
theorem dat_try {W : World} {cs : List Value} (h : Frame.Dat Try.prog W 70 cs) : ∃ p : TrV, cs = p.cells ∧ p.ok ∧ Hold W (fun k => k < W.heap.size) p.bodyA p.bodyn p.bodyc p.body ∧ Mem.Ints W W.heap.size .i64 p.keepA p.keepn p.keep := by
  obtain ⟨p, rfl, hp, hl⟩ := TrV.of_dat h
  obtain ⟨_, hf⟩ := h.struct Try.underlying70
  have c_1 : (Try.prog).cellsOf 27 = 1 := by kernel_rfl
  have f1 : Frame.Dat Try.prog W 27 [.slice p.bodyA p.bodyn p.bodyc] := by simpa [c_1, TrV.cells] using hf 0 _ rfl
  obtain ⟨A', n', c', bs', e, hh⟩ := dat_hold f1
  simp only [List.cons.injEq, Value.slice.injEq, and_true] at e
  obtain ⟨e1, e2, e3⟩ := e
  have h5 := hh.nil
  have h6 := hh.inC
  rw [← e1, ← e2, ← e3] at h5
  rw [← e1, ← e2] at h6
  exact ⟨p, rfl, hp, ⟨hl.body, ⟨hp.body.1, hp.body.2.1⟩, h5, h6⟩, hl.keep⟩
theorem arg_tries {W : World} {v : Value} (h : Frame.Arg Try.prog W 68 v) : ∃ (A : Option Addr) (n c : Nat) (ps : List TrV), v = .slice A n c ∧ Tries W A n c ps := by
  obtain ⟨A, n, c, rfl⟩ := h.one Try.underlying68
  obtain ⟨A', n', c', xss, hcs, h1, h2, h3, h4, h5, _⟩ := h.dat.slice (size := 3) Try.underlying68 (by kernel_rfl) (by omega)
  simp [Value.cells] at hcs
  obtain ⟨rfl, rfl, rfl⟩ := hcs
  have key : ∀ xss : List (List Value), (∀ xs ∈ xss, xs.length = 3 ∧ Frame.Dat Try.prog W 70 xs) → ∃ ps : List TrV, ps.length = xss.length ∧ (∀ p ∈ ps, p.ok ∧ Hold W (fun k => k < W.heap.size) p.bodyA p.bodyn p.bodyc p.body ∧ Mem.Ints W W.heap.size .i64 p.keepA p.keepn p.keep) ∧ xss = ps.map TrV.cells := by
    intro xss
    induction xss with
    | nil => intro _; exact ⟨[], rfl, by simp, rfl⟩
    | cons xs xss ih =>
      intro hx
      obtain ⟨ps, hb1, hb2, hb3⟩ := ih (fun y hy => hx y (by simp [hy]))
      obtain ⟨p, rfl, hp⟩ := dat_try (hx xs (by simp)).2
      exact ⟨p :: ps, by simp [hb1], by simpa using ⟨hp, hb2⟩, by simp [hb3]⟩
  obtain ⟨ps, hb1, hb2, hb3⟩ := key xss h4
  exact ⟨A, n, c, ps, rfl, ⟨h1, h2⟩, by omega, fun p hp => (hb2 p hp).1, fun p hp => (hb2 p hp).2.1, fun p hp => (hb2 p hp).2.2, by unfold TrV.flat; rw [← hb3]; exact h5⟩
set_option maxRecDepth 100000 in
set_option maxHeartbeats 16000000 in
theorem core (A : Option Addr) (n c : Nat) (ps : List TrV) (w : World) (h1 : Tries w A n c ps) :
    Calls Try.prog 12 #[.slice A n c] w fun e w' => e = .returned (.bool true) ∧ Below w.heap.size w w' := by
  have hm1 := h1.le
  have H1 := Lib.hid h1
  clear h1
  unfold maxLen at hm1
  go_enter Try.func12, Try.ntmps12
  go_wp2_with fail
  refine (Ck.awake_c _).mono ?_
  rintro e w1 ⟨rfl, hb1⟩
  by_cases hn : 20 < n
  · go_wp2_with fail
    refine (Ck.awake_c _).mono ?_
    rintro e w2 ⟨rfl, hb2⟩
    go_wp2_with fail
    go_ret
    exact ⟨rfl, hb1.trans (hb2.mono hb1.size)⟩
  go_wp2_with fail
  refine ((Fm.start hb1).news (j := 1) rfl (by decide)).mono ?_
  intro e w2 hp
  obtain ⟨g, rfl, hS⟩ := CK.new hp
  have H3 : Hid (CK w w2 g ⟨fsOf (mOf 0 []) none, []⟩ [] []) := Lib.hid hS
  clear hp hS hb1
  go_wp2_with fail
  go_loopw [4, 5, 6] (fun vb vv vi wr => ∃ (k v xn xc : Nat) (xA : Option Addr) (xs : List Byte), k ≤ n ∧ v ≤ k ∧ vb = .slice xA xn xc ∧ vv = .int .i64 v ∧ vi = .int .i64 k ∧ Hid (Hold w (fun k => k < w.heap.size) xA xn xc xs) ∧ Hid (v = 0 → xs = []) ∧ Hid (xs.length ≤ 300) ∧ Hid (CK w wr g ⟨fsOf (mOf v xs) none, []⟩ [] [])) (fun _ _ i _ => n - (intOf i).toNat)
  case atStart => exact ⟨0, 0, 0, 0, none, [], by omega, by omega, rfl, rfl, rfl, Hold.none _ _, fun _ => rfl, Lib.hid (by simp), H3⟩
  case round =>
    clear H3
    obtain ⟨k, v, xn, xc, xA, xs, hk, hvk, rfl, rfl, rfl, HXh, HXz, HXb, HX⟩ := hrel
    by_cases hlt : k < n
    · obtain ⟨ad, hl, rfl, _, hblk, hat⟩ := TrV.at_ H1.out.sl hlt
      have HAt : Hid (∀ X, Below w.heap.size w X → TrV.At X (ad.add (k * 3)) ps[k]) := Lib.hid fun X hX => hat.below hX hblk
      have HBh := Lib.hid (H1.out.hold ps[k] (List.getElem_mem hl))
      have HIt := Lib.hid (H1.out.keep ps[k] (List.getElem_mem hl))
      have hok := H1.out.ok ps[k] (List.getElem_mem hl)
      clear hat
      generalize ps[k] = p at *
      obtain ⟨bs, bA, bn, bc, q, kp, kA, kn, kc⟩ := p
      dsimp only at HBh HIt
      have HKz : Hid (∀ z ∈ kp, z ≤ 9223372036854775807) := Lib.hid fun z hz => (hok.keep.2.2.2 z hz).2
      have hbm : bn ≤ 9223372036854775807 := by have := hok.body.1; have := hok.body.2.1; unfold maxLen at this; dsimp only at *; omega
      have hkm : kn ≤ 9223372036854775807 := by have := hok.keep.1; have := hok.keep.2.1; unfold maxLen at this; dsimp only at *; omega
      obtain ⟨c0, c1, c2⟩ := HAt.out wr HX.out.base
      dsimp only at c0 c1 c2
      clear hok hl hblk
      by_cases hb3 : 300 < bn
      · have HE := Lib.hid HX.out.base
        go_wp2_with fail
        go_ret
        exact ⟨rfl, HE.out⟩
      by_cases hk6 : 60 < kn
      · have HE := Lib.hid HX.out.base
        go_wp2_with fail
        go_ret
        exact ⟨rfl, HE.out⟩
      have HBb : Hid (bs.length ≤ 300) := Lib.hid (by rw [HBh.out.len]; omega)
      have D2 := Lib.hid (open_mid HX.out .none (by omega) HXb.out HXz.out)
      clear HX
      go_wp2_with fail
      refine D2.out.mono ?_
      rintro e w4 ⟨sb, As, ns, cs, E, rfl, hS4, -, -⟩
      obtain ⟨r, hr4, hq⟩ : ∃ r : Nat, r ≤ 4 ∧ min (max q 0) 4 = (r : Int) := ⟨(min (max q 0) 4).toNat, by omega, by omega⟩
      have HQ := Lib.hid hq
      have HFr : Hid (Lim (some (Crc.frame ((v : Int) + 1) bs))) := Lib.hid (.some (frame_facts (v := (v : Int) + 1) (body := bs) (by omega) (by omega) (by have := HBb.out; omega)).2.2.2)
      have hdr : Below w4.heap.size w4 w4.drew := (Below.refl _ _).drew
      have HLM := Lib.hid (lim_mOf (v := v) (xs := xs) (by omega) HXb.out)
      have H4 : Hid (CK w w4.drew g ⟨fsOf (mOf v xs) none, []⟩ [(sb, 91, stk g (v : Int))] []) := Lib.hid ((hS4.below hdr).sub (fun x hx => hx) (fun x hx => (by cases hx)))
      have D3 := Lib.hid (part_c (c := bc) H4.out (fun x hx => (by cases hx)) (by omega) HLM.out (HBh.out.below H4.out.base).sl (by omega) q r hr4 hq)
      have HCr := Lib.hid (crash_of (fr := Crc.frame ((v : Int) + 1) bs) (mOf v xs) (HFr.out _ rfl) kp r)
      have HFs := Lib.hid (fits_step (fr := Crc.frame ((v : Int) + 1) bs) HLM.out (HFr.out _ rfl) r)
      have hbase := H4.out.base
      have HBs4 := Lib.hid hbase
      clear D2 hS4 hq hdr hbase c0 c1 c2
      go_wp2_with fail
      refine Reg.start (S := fun w' => Below w.heap.size w w') (by kernel_rfl) ?_
      refine Reg.takes (n := 3) (by kernel_rfl) (fun _ _ d _ _ h => by cases d <;> exact h) HBs4.out [0, 1, 2, 3, 4, 5, 6, 7, 8, 9, 10, 11, 12, 13] _ _ (by kernel_rfl) ?_
      iterate 14 (refine Reg.det_step rfl (fun K' hK' => ?_); go_simp; (first | (refine hK' _ ?_; clear hK' K') | (apply Exists.intro; refine ⟨fun wx hwx => ?_, hK' _ ?_⟩; (first | rfl | (obtain ⟨c0, c1, c2⟩ := HAt.out wx hwx; dsimp only at c0 c1 c2; go_simp; first | done | rfl)); clear hK' K')))
      refine Reg.det_nil ?_
      refine Reg.one (i := 14) (n := 2) (by kernel_rfl) ?_
      refine Reg.call rfl rfl (by go_simp; exact ⟨rfl, rfl⟩) ?_
      refine D3.out.mono ?_
      rintro e w5 ⟨rfl, hS5⟩
      have H5 := Lib.hid hS5
      have hb5 := hS5.base
      refine ⟨_, rfl, hb5, ?_⟩
      clear D3 hS5
      refine Reg.takes (n := 0) (by kernel_rfl) (fun _ _ d _ _ h => by cases d <;> exact h) hb5 [15, 16] _ _ (by kernel_rfl) ?_
      iterate 2 (refine Reg.det_step rfl (fun K' hK' => ?_); go_simp; (first | (refine hK' _ ?_; clear hK' K') | (apply Exists.intro; refine ⟨fun wx hwx => ?_, hK' _ ?_⟩; (first | rfl | (go_simp; first | done | rfl)); clear hK' K')))
      refine Reg.det_nil ?_
      refine wpAnyH_done (by kernel_rfl) ?_ _
      obtain ⟨c0, c1, c2⟩ := HAt.out w5 hb5
      dsimp only at c0 c1 c2
      have D8 := Lib.hid (H5.out.crash (kc := kc) (HFs.out.mono (show 4 ≤ 10 by omega)) (by omega) HIt.out HKz.out (by omega))
      clear hb5 H5 H4 HBs4
      go_wp2_with fail
      refine D8.out.mono ?_
      rintro e wc ⟨rfl, hS8⟩
      obtain ⟨T, hT, hTl⟩ := HCr.out
      rw [hT] at hS8
      have HT := Lib.hid hTl
      have HC8 := Lib.hid hS8
      clear c0 c1 c2
      obtain ⟨c0, c1, c2⟩ := HAt.out wc hS8.base
      dsimp only at c0 c1 c2
      clear D8 hT hTl HCr HFs HLM
      by_cases hs4 : 4 ≤ q
      · have hr : 4 ≤ r := by have := HQ.out; omega
        clear HQ hS8 hr4
        have HS : Hid (CK w wc g ⟨fsOf (mOf (v + 1) bs) T, []⟩ [] []) := Lib.hid (by
          have := HC8.out
          unfold afterC at this
          rw [if_pos (.inl hr)] at this
          rw [mOf_succ]
          exact this.sub (fun x hx => (by cases hx)) (fun x hx => (by cases hx)))
        have HYh := HBh
        have HYz : Hid (v + 1 = 0 → bs = []) := Lib.hid (fun h => by omega)
        have HYb := HBb
        clear HC8 HXh HXz HXb HBh HBb HIt HKz HFr
        generalize bA = yA at *
        generalize bn = yn at *
        generalize bc = yc at *
        generalize bs = ys at *

        have D10 := Lib.hid (open_mid (v := (v + 1)) HS.out HT.out (by omega) HYb.out HYz.out)
        have HYe := HYz
        clear HS HT
        go_wp2_with fail
        refine D10.out.mono ?_
        rintro e wo ⟨tb, Ao, no, co, E, rfl, hS10, hno, hE⟩
        have D11 := Lib.hid (version_c wo (hS10.blk (List.mem_cons_self ..)))
        have D12 := Lib.hid (Crc.same_c Ao yA no co yn yc _ _ _ _ wo (hS10.row (List.mem_cons_self ..)) (HYh.out.below hS10.base).sl)
        rw [decide_eq_true rfl] at D12
        have H9 := Lib.hid (hS10.sub (K' := []) (R' := []) (fun x hx => (by cases hx)) (fun x hx => (by cases hx)))
        have hE2 : E = 0 := by rw [hE]; exact if_neg (by omega)
        clear hE
        subst hE2
        clear D10 hS10 hno
        go_wp2_with fail
        refine D11.out.mono ?_
        rintro e wp ⟨rfl, hwp⟩
        subst hwp
        clear D11
        go_wp2_with fail
        refine D12.out.mono ?_
        rintro e wp ⟨rfl, hwp⟩
        subst hwp
        clear D12
        go_wp2_with fail
        go_roundw
        case rel => exact ⟨k + 1, (v + 1), yn, yc, yA, ys, by omega, by omega, rfl, by go_num, by go_num, HYh.out, HYe.out, HYb.out, H9⟩
        case measure => simp [intOf]; omega
      · have hr : ¬ 4 ≤ r := by have := HQ.out; omega
        by_cases hs3 : q = 3
        · have HR3 : Hid (r = 3) := Lib.hid (by have := HQ.out; omega)
          by_cases hkn0 : kn = 0
          · have hke : kept kp = false := by
              have := HIt.out.len
              rw [hkn0] at this
              rw [List.eq_nil_of_length_eq_zero this]
              rfl
            subst hkn0
            subst hs3
            clear hs4 HQ hS8 hr4
            have HS : Hid (CK w wc g ⟨fsOf (mOf v xs) T, []⟩ [] []) := Lib.hid (by
              have := HC8.out
              unfold afterC at this
              rw [if_neg (fun h => h.elim hr (fun h => by rw [hke] at h; cases h.2))] at this
              exact this.sub (fun x hx => (by cases hx)) (fun x hx => (by cases hx)))
            have HYh := HXh
            have HYz := HXz
            have HYb := HXb
            clear HC8 HXh HXz HXb HBh HBb HIt HKz HFr
            generalize xA = yA at *
            generalize xn = yn at *
            generalize xc = yc at *
            generalize xs = ys at *
            by_cases hv0 : v = 0
            · subst hv0
              have D10 := Lib.hid (open_mid (v := 0) HS.out HT.out (by omega) HYb.out HYz.out)
              have HYe := Lib.hid (HYz.out rfl)
              clear HS HT
              go_wp2_with fail
              refine D10.out.mono ?_
              rintro e wo ⟨tb, Ao, no, co, E, rfl, hS10, hno, hE⟩
              have D11 := Lib.hid (version_c wo (hS10.blk (List.mem_cons_self ..)))
              have D12 := Lib.hid (Crc.same_c Ao yA no co yn yc _ _ _ _ wo (hS10.row (List.mem_cons_self ..)) (HYh.out.below hS10.base).sl)
              rw [decide_eq_true rfl] at D12
              have H9 := Lib.hid (hS10.sub (K' := []) (R' := []) (fun x hx => (by cases hx)) (fun x hx => (by cases hx)))
              have hE2 : E = 4 := by rw [hE]; simp
              clear hE
              subst hE2
              clear D10 hS10 hno
              go_wp2_with fail
              refine D11.out.mono ?_
              rintro e wp ⟨rfl, hwp⟩
              subst hwp
              clear D11
              go_wp2_with fail
              refine D12.out.mono ?_
              rintro e wp ⟨rfl, hwp⟩
              subst hwp
              clear D12
              go_wp2_with fail
              go_roundw
              case rel => exact ⟨k + 1, 0, yn, yc, yA, ys, by omega, by omega, rfl, rfl, by go_num, HYh.out, fun _ => HYe.out, HYb.out, H9⟩
              case measure => simp [intOf]; omega
            · have hv1 : 0 < v := by omega
              clear hv0
              have D10 := Lib.hid (open_mid (v := v) HS.out HT.out (by omega) HYb.out HYz.out)
              have HYe := HYz
              clear HS HT
              go_wp2_with fail
              refine D10.out.mono ?_
              rintro e wo ⟨tb, Ao, no, co, E, rfl, hS10, hno, hE⟩
              have D11 := Lib.hid (version_c wo (hS10.blk (List.mem_cons_self ..)))
              have D12 := Lib.hid (Crc.same_c Ao yA no co yn yc _ _ _ _ wo (hS10.row (List.mem_cons_self ..)) (HYh.out.below hS10.base).sl)
              rw [decide_eq_true rfl] at D12
              have H9 := Lib.hid (hS10.sub (K' := []) (R' := []) (fun x hx => (by cases hx)) (fun x hx => (by cases hx)))
              have hE2 : E = 0 := by rw [hE]; exact if_neg (by omega)
              clear hE
              subst hE2
              clear D10 hS10 hno
              go_wp2_with fail
              refine D11.out.mono ?_
              rintro e wp ⟨rfl, hwp⟩
              subst hwp
              clear D11
              go_wp2_with fail
              refine D12.out.mono ?_
              rintro e wp ⟨rfl, hwp⟩
              subst hwp
              clear D12
              go_wp2_with fail
              go_roundw
              case rel => exact ⟨k + 1, v, yn, yc, yA, ys, by omega, by omega, rfl, rfl, by go_num, HYh.out, HYe.out, HYb.out, H9⟩
              case measure => simp [intOf]; omega
          · obtain ⟨adk, z, hlz, rfl, hzb, ez, hzc⟩ := (HIt.out.below hS8.base).at_ (k := 0) (by omega)
            have hkz : kept kp = (z != 0) := by
              cases kp with
              | nil => simp at hlz
              | cons y ys =>
                have : y = z := ez
                rw [this]
                rfl
            have hkp : 0 < kn := by omega
            rw [show adk.add 0 = adk from by simp [Addr.add]] at hzc
            clear hlz hzb ez hkn0 hS8
            subst hs3
            clear hs4 HQ hr4
            by_cases hz0 : z = 0
            · subst hz0
              have HS : Hid (CK w wc g ⟨fsOf (mOf v xs) T, []⟩ [] []) := Lib.hid (by
                have := HC8.out
                unfold afterC at this
                rw [if_neg (fun h => h.elim hr (fun h => by rw [hkz] at h; cases h.2))] at this
                exact this.sub (fun x hx => (by cases hx)) (fun x hx => (by cases hx)))
              have HYh := HXh
              have HYz := HXz
              have HYb := HXb
              clear HC8 HXh HXz HXb HBh HBb HIt HKz HFr
              generalize xA = yA at *
              generalize xn = yn at *
              generalize xc = yc at *
              generalize xs = ys at *
              by_cases hv0 : v = 0
              · subst hv0
                have D10 := Lib.hid (open_mid (v := 0) HS.out HT.out (by omega) HYb.out HYz.out)
                have HYe := Lib.hid (HYz.out rfl)
                clear HS HT
                go_wp2_with fail
                refine D10.out.mono ?_
                rintro e wo ⟨tb, Ao, no, co, E, rfl, hS10, hno, hE⟩
                have D11 := Lib.hid (version_c wo (hS10.blk (List.mem_cons_self ..)))
                have D12 := Lib.hid (Crc.same_c Ao yA no co yn yc _ _ _ _ wo (hS10.row (List.mem_cons_self ..)) (HYh.out.below hS10.base).sl)
                rw [decide_eq_true rfl] at D12
                have H9 := Lib.hid (hS10.sub (K' := []) (R' := []) (fun x hx => (by cases hx)) (fun x hx => (by cases hx)))
                have hE2 : E = 4 := by rw [hE]; simp
                clear hE
                subst hE2
                clear D10 hS10 hno
                go_wp2_with fail
                refine D11.out.mono ?_
                rintro e wp ⟨rfl, hwp⟩
                subst hwp
                clear D11
                go_wp2_with fail
                refine D12.out.mono ?_
                rintro e wp ⟨rfl, hwp⟩
                subst hwp
                clear D12
                go_wp2_with fail
                go_roundw
                case rel => exact ⟨k + 1, 0, yn, yc, yA, ys, by omega, by omega, rfl, rfl, by go_num, HYh.out, fun _ => HYe.out, HYb.out, H9⟩
                case measure => simp [intOf]; omega
              · have hv1 : 0 < v := by omega
                clear hv0
                have D10 := Lib.hid (open_mid (v := v) HS.out HT.out (by omega) HYb.out HYz.out)
                have HYe := HYz
                clear HS HT
                go_wp2_with fail
                refine D10.out.mono ?_
                rintro e wo ⟨tb, Ao, no, co, E, rfl, hS10, hno, hE⟩
                have D11 := Lib.hid (version_c wo (hS10.blk (List.mem_cons_self ..)))
                have D12 := Lib.hid (Crc.same_c Ao yA no co yn yc _ _ _ _ wo (hS10.row (List.mem_cons_self ..)) (HYh.out.below hS10.base).sl)
                rw [decide_eq_true rfl] at D12
                have H9 := Lib.hid (hS10.sub (K' := []) (R' := []) (fun x hx => (by cases hx)) (fun x hx => (by cases hx)))
                have hE2 : E = 0 := by rw [hE]; exact if_neg (by omega)
                clear hE
                subst hE2
                clear D10 hS10 hno
                go_wp2_with fail
                refine D11.out.mono ?_
                rintro e wp ⟨rfl, hwp⟩
                subst hwp
                clear D11
                go_wp2_with fail
                refine D12.out.mono ?_
                rintro e wp ⟨rfl, hwp⟩
                subst hwp
                clear D12
                go_wp2_with fail
                go_roundw
                case rel => exact ⟨k + 1, v, yn, yc, yA, ys, by omega, by omega, rfl, rfl, by go_num, HYh.out, HYe.out, HYb.out, H9⟩
                case measure => simp [intOf]; omega
            · have hr3 : r = 3 ∧ kept kp = true := ⟨HR3.out, by rw [hkz]; simpa using hz0⟩
              have hz0' : (z == 0) = false := beq_eq_false_iff_ne.2 hz0
              clear hkz
              have HS : Hid (CK w wc g ⟨fsOf (mOf (v + 1) bs) T, []⟩ [] []) := Lib.hid (by
                have := HC8.out
                unfold afterC at this
                rw [if_pos (.inr hr3)] at this
                rw [mOf_succ]
                exact this.sub (fun x hx => (by cases hx)) (fun x hx => (by cases hx)))
              have HYh := HBh
              have HYz : Hid (v + 1 = 0 → bs = []) := Lib.hid (fun h => by omega)
              have HYb := HBb
              clear HC8 HXh HXz HXb HBh HBb HIt HKz HFr
              generalize bA = yA at *
              generalize bn = yn at *
              generalize bc = yc at *
              generalize bs = ys at *

              have D10 := Lib.hid (open_mid (v := (v + 1)) HS.out HT.out (by omega) HYb.out HYz.out)
              have HYe := HYz
              clear HS HT
              go_wp2_with fail
              refine D10.out.mono ?_
              rintro e wo ⟨tb, Ao, no, co, E, rfl, hS10, hno, hE⟩
              have D11 := Lib.hid (version_c wo (hS10.blk (List.mem_cons_self ..)))
              have D12 := Lib.hid (Crc.same_c Ao yA no co yn yc _ _ _ _ wo (hS10.row (List.mem_cons_self ..)) (HYh.out.below hS10.base).sl)
              rw [decide_eq_true rfl] at D12
              have H9 := Lib.hid (hS10.sub (K' := []) (R' := []) (fun x hx => (by cases hx)) (fun x hx => (by cases hx)))
              have hE2 : E = 0 := by rw [hE]; exact if_neg (by omega)
              clear hE
              subst hE2
              clear D10 hS10 hno
              go_wp2_with fail
              refine D11.out.mono ?_
              rintro e wp ⟨rfl, hwp⟩
              subst hwp
              clear D11
              go_wp2_with fail
              refine D12.out.mono ?_
              rintro e wp ⟨rfl, hwp⟩
              subst hwp
              clear D12
              go_wp2_with fail
              go_roundw
              case rel => exact ⟨k + 1, (v + 1), yn, yc, yA, ys, by omega, by omega, rfl, by go_num, by go_num, HYh.out, HYe.out, HYb.out, H9⟩
              case measure => simp [intOf]; omega
        · have hr3 : ¬ (r = 3 ∧ kept kp = true) := fun h => hs3 (by have := HQ.out; have := h.1; omega)
          have hs3' : (q == 3) = false := beq_eq_false_iff_ne.2 hs3
          clear HQ hS8 hr4 hs3
          have HS : Hid (CK w wc g ⟨fsOf (mOf v xs) T, []⟩ [] []) := Lib.hid (by
            have := HC8.out
            unfold afterC at this
            rw [if_neg (fun h => h.elim hr hr3)] at this
            exact this.sub (fun x hx => (by cases hx)) (fun x hx => (by cases hx)))
          have HYh := HXh
          have HYz := HXz
          have HYb := HXb
          clear HC8 HXh HXz HXb HBh HBb HIt HKz HFr
          generalize xA = yA at *
          generalize xn = yn at *
          generalize xc = yc at *
          generalize xs = ys at *
          by_cases hv0 : v = 0
          · subst hv0
            have D10 := Lib.hid (open_mid (v := 0) HS.out HT.out (by omega) HYb.out HYz.out)
            have HYe := Lib.hid (HYz.out rfl)
            clear HS HT
            go_wp2_with fail
            refine D10.out.mono ?_
            rintro e wo ⟨tb, Ao, no, co, E, rfl, hS10, hno, hE⟩
            have D11 := Lib.hid (version_c wo (hS10.blk (List.mem_cons_self ..)))
            have D12 := Lib.hid (Crc.same_c Ao yA no co yn yc _ _ _ _ wo (hS10.row (List.mem_cons_self ..)) (HYh.out.below hS10.base).sl)
            rw [decide_eq_true rfl] at D12
            have H9 := Lib.hid (hS10.sub (K' := []) (R' := []) (fun x hx => (by cases hx)) (fun x hx => (by cases hx)))
            have hE2 : E = 4 := by rw [hE]; simp
            clear hE
            subst hE2
            clear D10 hS10 hno
            go_wp2_with fail
            refine D11.out.mono ?_
            rintro e wp ⟨rfl, hwp⟩
            subst hwp
            clear D11
            go_wp2_with fail
            refine D12.out.mono ?_
            rintro e wp ⟨rfl, hwp⟩
            subst hwp
            clear D12
            go_wp2_with fail
            go_roundw
            case rel => exact ⟨k + 1, 0, yn, yc, yA, ys, by omega, by omega, rfl, rfl, by go_num, HYh.out, fun _ => HYe.out, HYb.out, H9⟩
            case measure => simp [intOf]; omega
          · have hv1 : 0 < v := by omega
            clear hv0
            have D10 := Lib.hid (open_mid (v := v) HS.out HT.out (by omega) HYb.out HYz.out)
            have HYe := HYz
            clear HS HT
            go_wp2_with fail
            refine D10.out.mono ?_
            rintro e wo ⟨tb, Ao, no, co, E, rfl, hS10, hno, hE⟩
            have D11 := Lib.hid (version_c wo (hS10.blk (List.mem_cons_self ..)))
            have D12 := Lib.hid (Crc.same_c Ao yA no co yn yc _ _ _ _ wo (hS10.row (List.mem_cons_self ..)) (HYh.out.below hS10.base).sl)
            rw [decide_eq_true rfl] at D12
            have H9 := Lib.hid (hS10.sub (K' := []) (R' := []) (fun x hx => (by cases hx)) (fun x hx => (by cases hx)))
            have hE2 : E = 0 := by rw [hE]; exact if_neg (by omega)
            clear hE
            subst hE2
            clear D10 hS10 hno
            go_wp2_with fail
            refine D11.out.mono ?_
            rintro e wp ⟨rfl, hwp⟩
            subst hwp
            clear D11
            go_wp2_with fail
            refine D12.out.mono ?_
            rintro e wp ⟨rfl, hwp⟩
            subst hwp
            clear D12
            go_wp2_with fail
            go_roundw
            case rel => exact ⟨k + 1, v, yn, yc, yA, ys, by omega, by omega, rfl, rfl, by go_num, HYh.out, HYe.out, HYb.out, H9⟩
            case measure => simp [intOf]; omega
    · have HE := Lib.hid HX.out.base
      clear HX
      go_wp2_with fail
      go_ret
      exact ⟨rfl, HE.out⟩
theorem walk (v1 : Value) (w : World) (h1 : Frame.Arg Try.prog w 68 v1) :
    Calls Try.prog 12 #[v1] w fun e w' => e = .returned (.bool true) ∧ Below w.heap.size w w' := by
  obtain ⟨A1, n1, c1, ps, rfl, q1⟩ := arg_tries h1
  exact core A1 n1 c1 ps w q1
end Go.Proofs.Ytnaidihoijociaa.ckptChain
