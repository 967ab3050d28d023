/- Layer 10 (disk): the walk of crash. -/
import Derived.Test.YtnaidihoijociaaDkF
namespace Go.Proofs.Ytnaidihoijociaa
open Go.RowKit Go.Maps
namespace Dk
open Bs
open Crc (Byte)
/-- what is kept of one -/
def cutOp (o : OpA) (z : Int) : OpA := if o.kind = 1 ∧ 1 ≤ z ∧ z ≤ o.bytes.length then ⟨o.kind, o.name, o.nto, o.bytes.take (z - 1).toNat⟩ else o
def crash1 (l : Files) (o : OpA) (z : Int) : Files := if z = 0 then l else app1 l (cutOp o z)
/-- files behind a crash -/
def crashF (l : Files) (ops : List OpA) (keep : List Int) : Files := (ops.zip keep).foldl (fun l p => crash1 l p.1 p.2) l
theorem len_crash1 (l : Files) (o : OpA) (z : Int) : (crash1 l o z).length ≤ l.length + 1 := by
  unfold crash1
  split
  · omega
  · exact len_app1 _ _
theorem len_crash (ps : List (OpA × Int)) (l : Files) : (ps.foldl (fun l p => crash1 l p.1 p.2) l).length ≤ l.length + ps.length := by
  induction ps generalizing l with
  | nil => simp
  | cons p ps ih =>
    rw [List.foldl_cons, List.length_cons]
    have := ih (crash1 l p.1 p.2)
    have h2 := len_crash1 l p.1 p.2
    omega
/-- behind k rounds -/
def crashTo (l : Files) (ops : List OpA) (keep : List Int) (k : Nat) : Files := ((ops.zip keep).take k).foldl (fun l p => crash1 l p.1 p.2) l
theorem crashTo_len (l : Files) (ops : List OpA) (keep : List Int) (k : Nat) : (crashTo l ops keep k).length ≤ l.length + k := by
  have := len_crash ((ops.zip keep).take k) l
  unfold crashTo
  simp only [List.length_take] at this
  omega
theorem crashTo_over {l : Files} {ops : List OpA} {keep : List Int} {k : Nat} (h : keep.length ≤ k) : crashTo l ops keep (k + 1) = crashTo l ops keep k := by
  unfold crashTo
  rw [List.take_of_length_le (by simp; omega), List.take_of_length_le (by simp; omega)]
theorem crashTo_step {l : Files} {ops : List OpA} {keep : List Int} {k : Nat} (h1 : k < ops.length) (h2 : k < keep.length) : crashTo l ops keep (k + 1) = crash1 (crashTo l ops keep k) ops[k] keep[k] := by
  unfold crashTo
  rw [Mem.take_snoc _ _ (by simp; omega), List.foldl_append]
  simp
/-- bytes while it goes on -/
def CrC (w : World) (C : Nat → Prop) (w' : World) : Nat → Prop := fun k => (C k ∧ k < w.heap.size) ∨ (w.heap.size ≤ k ∧ k < w'.heap.size)
theorem crash_fin {w w2 : World} {g b nO cO : Nat} {s : Ds} {M C : Nat → Prop} {AO : Option Addr} {ps : List OpV} {l : Files} (h : AtL w g s M C b AO nO cO ps) (ho : Ro.Only (fun k => k = b) w w2) (hm : Mp w2 (CrC w C w2) b l) (hbg : b ≠ g) :
    Post M C w (w2.setCell ⟨g, 1, none⟩ (.slice none 0 0)) g ⟨l, []⟩ := by
  have hg := h.blk.lt
  have hb2 : Mem.Blk w2 g 74 #[.map (some b), .slice AO nO cO] := (ho.block g hg (fun e => hbg e.symm)).trans h.blk
  have ho3 := Ro.Only.setCell w2 ⟨g, 1, none⟩ (.slice none 0 0)
  refine ⟨fun k => M k ∧ k < w.heap.size, CrC w C w2, ⟨b, none, 0, 0, [], hb2.set_ 1 _, hm.keep ho3.size (fun k hk c => ho3.block k hk (fun e => ?_)) (ho3.block b hm.lt hbg), Ro.Row.nil, rfl, fun p hp => (by cases hp), ⟨⟨h.mg.1, hg⟩, ⟨h.mg.2.1, h.mp.lt⟩, fun k hk => (by cases hk)⟩, fun k c d => ?_⟩, fun k c => .inl c.1, fun k c => c.imp (·.1) (·.1), ?_⟩
  · have e' : k = g := e
    rcases c with c | c
    · exact h.cm k c.1 (by rw [e']; exact h.mg.1)
    · omega
  · rcases c with c | c
    · exact h.cm k c.1 d.1
    · have := d.2; omega
  · refine (ho.mono (T := M) fun k _ e => by rw [e]; exact h.mg.2.1).trans ho3 (fun k _ e => ?_)
    have e' : k = g := e
    rw [e']; exact h.mg.1
theorem map_ne {w : World} {C : Nat → Prop} {b g : Nat} {l : Files} {t : TypeId} {cs : Array Value} (h : Mp w C b l) (hb : Mem.Blk w g t cs) : b ≠ g := by
  rintro rfl
  obtain ⟨es, _, _, es0, clock, e1, _⟩ := h
  rw [show w.heap[b]? = _ from hb] at e1
  cases e1
theorem map_row {w : World} {C : Nat → Prop} {b k n c : Nat} {l : Files} {e : TypeId} {A : Option Addr} {xs : List Value} (h : Mp w C b l) (hr : Ro.Row w e k A n c xs) : ∀ g, Ro.blk A = some g → b ≠ g := by
  rintro g hg rfl
  obtain ⟨es, _, _, es0, clock, e1, _⟩ := h
  obtain ⟨cur, e2⟩ := hr.type hg
  rw [e1] at e2
  cases e2
set_option maxRecDepth 100000 in
set_option maxHeartbeats 8000000 in
theorem crash_c {w : World} {g : Nat} {s : Ds} {M C : Nat → Prop} {KA : Option Addr} {kn kc : Nat} {keep : List Int} (h : At w g s M C) (hs : Good s) (hk : Mem.Ints w w.heap.size .i64 KA kn keep) (hkM : ∀ ad, KA = some ad → 0 < kn → ¬ M ad.block) (hkz : ∀ z ∈ keep, z ≤ 9223372036854775807) (_hkn : kn ≤ 100000) :
    Calls Try.prog 22 #[.pointer (some ⟨g, 0, none⟩), .slice KA kn kc] w fun e w' => e = .returned (.tuple #[]) ∧ Post M C w w' g ⟨crashF s.fs s.op keep, []⟩ := by
  obtain ⟨b, AO, nO, cO, ps, h⟩ := h
  obtain ⟨hl1, hl2⟩ := h.len
  have hno := hs.no
  have hnf := hs.nf
  have HKs := Lib.hid hs.ok
  have hkl := hk.len
  have hbg := map_ne h.mp h.blk
  have HBR := Lib.hid (map_row h.mp h.row)
  have HKB : Hid (∀ ad, KA = some ad → 0 < kn → ad.block ≠ b) := Lib.hid fun ad e hn c => hkM ad e hn (by rw [c]; exact h.mg.2.1)
  have HCB : Hid (¬ C b) := Lib.hid fun c => h.cm b c h.mg.2.1
  have HBl := Lib.hid h.mp.lt
  have H := Lib.hid h
  have HKI := Lib.hid hk
  have HKZ := Lib.hid hkz
  have m0 := h.blk.cell 0
  have m1 := h.blk.cell 1
  clear h hs hk hkM hkz
  go_enter Try.func22, Try.ntmps22
  go_wp2_with fail
  clear m0 m1
  go_loopw [12] (fun vi wr => ∃ k : Nat, k ≤ nO ∧ vi = .int .i64 k ∧ Hid (Ro.Only (fun k => k = b) w wr) ∧ Hid (Mp wr (CrC w C wr) b (crashTo s.fs s.op keep k))) (fun i _ => nO - (intOf i).toNat)
  case atStart => exact ⟨0, by omega, rfl, Ro.Only.refl _ _, H.out.mp.mono fun k hk c => .inl ⟨c, hk⟩⟩
  case round =>
    obtain ⟨k, hk, rfl, HO, HM⟩ := hrel
    by_cases hlt : k < nO
    · obtain ⟨ad, hl, eAO, hblk, hat⟩ := opv_at H.out.row hlt
      subst eAO
      have hop : k < s.op.length := by omega
      have hok := HKs.out s.op[k] (List.getElem_mem hop)
      have hoe : s.op[k] = opOf ps[k] := by
        have := H.out.ops
        simp only [← this, List.getElem_map]
      have hHp := H.out.hold ps[k] (List.getElem_mem hl)
      have HSt := Lib.hid (fun (h2 : k < keep.length) => crashTo_step (l := s.fs) hop h2)
      have HSo := Lib.hid (fun (h2 : keep.length ≤ k) => crashTo_over (l := s.fs) (ops := s.op) h2)
      have HLen : Hid ((crashTo s.fs s.op keep k).length ≤ 2000) := Lib.hid (by have := crashTo_len s.fs s.op keep k; omega)
      rw [hoe] at hok HSt
      have hadb : (ad.add (k * 4)).block ≠ b := by rw [Mem.add_block]; exact fun e => HBR.out ad.block rfl e.symm
      have hcr : ∀ o, wr.cell? ⟨(ad.add (k * 4)).block, o, none⟩ = w.cell? ⟨(ad.add (k * 4)).block, o, none⟩ := fun o => by
        have := HO.out.block _ hblk hadb
        unfold World.cell?
        rw [this]
      have HG0 : Hid (Mem.Blk wr g 74 #[.map (some b), .slice (some ad) nO cO]) := Lib.hid ((HO.out.block g H.out.blk.lt (fun e => hbg e.symm)).trans H.out.blk)
      have HKI2 : Hid (Mem.Ints wr w.heap.size .i64 KA kn keep) := Lib.hid ⟨HKI.out.1, fun hn => by
        obtain ⟨a, e, hb, hc⟩ := HKI.out.2 hn
        refine ⟨a, e, hb, hc.keep fun p hp => ?_⟩
        have := HO.out.block a.block hb (HKB.out a e hn)
        unfold World.cell?
        rw [hp, this]⟩
      have HHo : Hid (Hold wr (CrC w C wr) ps[k].bytesA ps[k].bytesn ps[k].bytesc ps[k].bytes) := Lib.hid ((hHp.mono (C' := fun k => C k ∧ k < w.heap.size) (fun k hk hc => ⟨hc, hk⟩)).keep HO.out.size (fun k hk hc => HO.out.block k hk (fun e => HCB.out (by rw [← e]; exact hc.1))) |>.mono fun k _ hc => .inl hc)
      generalize hL' : crashTo s.fs s.op keep (k + 1) = L' at *
      have HL' := Lib.hid hL'
      clear hL'
      generalize crashTo s.fs s.op keep k = L at *
      generalize ps[k] = p at *
      obtain ⟨kd, nm, nt, bs, bA, bn, bc⟩ := p
      obtain ⟨c0, c1, c2, c3⟩ := hat
      dsimp only at c0 c1 c2 c3
      have e0 : wr.cell? (ad.add (k * 4)) = some (.int .i64 kd) := by
        have := HO.out.block _ hblk hadb
        rw [← c0]
        unfold World.cell?
        rw [this]
      have e1 := (hcr _).trans c1
      have e2 := (hcr _).trans c2
      have e3 := (hcr _).trans c3
      have HAl : Hid (Below wr.heap.size wr (wr.alloc (.cells #[.int .i64 kd, .string nm, .string nt, .slice bA bn bc] 29))) := Lib.hid ((Below.refl _ _).alloc (Nat.le_refl _) _)
      have hob := HO.out.size
      have HOn : Hid (∀ X, Below wr.heap.size wr X → Ro.Only (fun k => k = b) w X) := Lib.hid fun X hX => HO.out.trans (Ro.Only.of_below (S := fun k => k = b) hX) (fun _ _ e => e)
      have HMn : Hid (∀ X, Below wr.heap.size wr X → Mp X (CrC w C X) b L) := Lib.hid fun X hX => (HM.out.below hX).mono fun k hk c => c.imp id fun c => ⟨c.1, hk⟩
      have HHn : Hid (∀ X, Below wr.heap.size wr X → Hold X (CrC w C X) bA bn bc bs) := Lib.hid fun X hX => (HHo.out.below hX).mono fun k hk c => c.imp id fun c => ⟨c.1, hk⟩
      have hbn : bs.length = bn := HHo.out.len
      have hb5 : bs.length ≤ 100000 := hok.2.2
      have ho1 : nm.size ≤ maxLen := hok.1
      have ho2 : nt.size ≤ maxLen := hok.2.1
      have HB0 : Hid (b < wr.heap.size) := Lib.hid (by have := HBl.out; omega)
      have HGl := Lib.hid HG0.out.lt
      clear c0 c1 c2 c3 hcr hadb hHp hoe hok HM HO HHo
      by_cases hkk : kn ≤ k
      · have hL : L' = L := HSo.out (by omega)
        have hge : decide ((k : Int) ≥ (kn : Int)) = true := by simp; omega
        clear hge HSt
        go_wp2_with fail
        go_roundw
        case rel => exact ⟨k + 1, by omega, by go_num, HOn.out _ HAl.out, by show Mp _ _ _ _; rw [HL'.out, hL]; exact HMn.out _ HAl.out⟩
        case measure => simp [intOf]; omega
      · obtain ⟨adk, z, hlz, rfl, hzb, ez, hzc⟩ := HKI2.out.at_ (k := k) (by omega)
        have hstep := HSt.out (by omega)
        have hz63 := HKZ.out z (by rw [← ez]; exact List.getElem_mem _)
        rw [ez] at hstep
        have hzc2 := Mem.keep_alloc (o := .cells #[.int .i64 kd, .string nm, .string nt, .slice bA bn bc] 29) hzc
        clear HSt HSo ez hlz
        by_cases hz0 : z = 0
        · subst hz0
          have hL : L' = L := by rw [hstep]; rfl
          clear hstep
          go_wp2_with fail
          go_roundw
          case rel => exact ⟨k + 1, by omega, by go_num, HOn.out _ HAl.out, by show Mp _ _ _ _; rw [HL'.out, hL]; exact HMn.out _ HAl.out⟩
          case measure => simp [intOf]; omega
        · have hz0' : (z == 0) = false := beq_eq_false_iff_ne.2 hz0
          rw [show crash1 L _ z = app1 L (cutOp _ z) from by unfold crash1; rw [if_neg hz0]] at hstep
          by_cases hcut : kd = 1 ∧ 1 ≤ z ∧ z ≤ bn
          · obtain ⟨rfl, hz1, hz2⟩ := hcut
            obtain ⟨q, hq⟩ : ∃ q : Nat, z = (q : Int) + 1 := ⟨(z - 1).toNat, by omega⟩
            have hstep : L' = app1 L ⟨1, nm, nt, bs.take q⟩ := by
              rw [hstep]
              unfold cutOp opOf
              rw [if_pos ⟨rfl, hz1, by show _ ≤ ((bs.length : Nat) : Int); omega⟩]
              congr 2
              show bs.take (z - 1).toNat = _
              congr 1
              omega
            have hqn : q ≤ bn := by omega
            have hw : IntKind.i64.wrap (z - 1) = (q : Int) := by unfold IntKind.wrap; simp [IntKind.bits, IntKind.signed]; omega
            have hbc := (HHn.out _ (Below.refl _ _)).le.1
            clear hq
            have hHq := Lib.hid (fun X hX => (HHn.out X hX).cut hqn)
            clear HHn hz0' hz0
            go_wp2_with fail
            have HAq : Hid (Below wr.heap.size wr (wr.alloc (.cells #[.int .i64 1, .string nm, .string nt, .slice bA q bc] 29))) := Lib.hid ((Below.refl _ _).alloc (Nat.le_refl _) _)
            have N0 := Lib.hid (Mem.Blk.new (w := wr) (t := 29) (cs := #[.int .i64 1, .string nm, .string nt, .slice bA q bc]))
            have HGX := Lib.hid (HG0.out.belowS HAq.out)
            have hne : ¬ wr.heap.size = b := by have := HB0.out; omega
            have hgb : ¬ g = b := fun e => hbg e.symm
            have HZ : Hid (wr.heap.size < (wr.alloc (.cells #[.int .i64 1, .string nm, .string nt, .slice bA q bc] 29)).heap.size) := Lib.hid (by simp)
            have HOX := Lib.hid (HOn.out _ HAq.out)
            have HMX := Lib.hid (HMn.out _ HAq.out)
            have HHX := Lib.hid (hHq.out _ HAq.out)
            clear HOn HMn hHq HAq HAl e0 e1 e2 e3
            generalize wr.alloc (.cells #[.int .i64 1, .string nm, .string nt, .slice bA q bc] 29) = X at *
            refine Reg.start (S := fun w' => Ro.Only (fun k => k = b) X w') (by kernel_rfl) ?_
            refine Reg.takes (n := 1) (by kernel_rfl) (fun _ _ d _ _ h => by cases d <;> exact h) (Ro.Only.refl _ _).drew [0, 1, 2, 3, 4] _ _ (by kernel_rfl) ?_
            iterate 5 (refine Reg.det_step rfl (fun K' hK' => ?_); go_simp; (first | (refine hK' _ ?_; clear hK' K') | (apply Exists.intro; refine ⟨fun wx hwx => ?_, hK' _ ?_⟩; (first | rfl | (obtain ⟨i0, i1, i2, i3⟩ := And.intro (Mem.Blk.cell (((hwx.block _ N0.out.lt hne).trans N0.out : Mem.Blk wx wr.heap.size 29 _)) 0) (And.intro (Mem.Blk.cell (((hwx.block _ N0.out.lt hne).trans N0.out : Mem.Blk wx wr.heap.size 29 _)) 1) (And.intro (Mem.Blk.cell (((hwx.block _ N0.out.lt hne).trans N0.out : Mem.Blk wx wr.heap.size 29 _)) 2) (Mem.Blk.cell (((hwx.block _ N0.out.lt hne).trans N0.out : Mem.Blk wx wr.heap.size 29 _)) 3))); have j0 := Mem.Blk.cell ((hwx.block g (by have := HGl.out; have := HZ.out; omega) hgb).trans HGX.out) 0; go_simp; first | done | rfl)); clear hK' K')))
            refine Reg.det_nil ?_
            refine Reg.one (i := 5) (n := 0) (by kernel_rfl) ?_
            refine Reg.call rfl rfl (by go_simp; exact ⟨rfl, rfl⟩) ?_
            refine (apply_c (w := X.drew) (C := CrC w C X) (kind := 1) (name := nm) (nto := nt) (bs := bs.take q) (HMX.out.below (Below.refl _ _).drew) (fun c => ?nb) (HHX.out.below (Below.refl _ _).drew) ho1 ho2 (by have := HLen.out; omega) (by omega)).mono ?_
            case nb =>
              rcases c with c | c
              · exact HCB.out c.1
              · have := HBl.out; omega
            rintro e w2 ⟨rfl, hm, ho⟩
            have hS2 : Ro.Only (fun k => k = b) X w2 := ho.undrew
            have hz2' := hS2.size
            have hzX := HOX.out.size
            have HO2 := Lib.hid (HOX.out.trans hS2 (fun _ _ e => e))
            have HM2 : Hid (Mp w2 (CrC w C w2) b L') := Lib.hid (by
              rw [hstep]
              refine hm.mono fun k hk c => ?_
              rcases c with c | c
              · rcases c with c | c
                · exact .inl c
                · exact .inr ⟨c.1, hk⟩
              · have h1 : X.heap.size ≤ k := c.1
                exact .inr ⟨by omega, hk⟩)
            clear hm ho HMX HHX HOX
            refine ⟨_, rfl, hS2, ?_⟩
            refine wpAnyH_done (by kernel_rfl) ?_ _
            go_wp2_with fail
            go_roundw
            case rel => exact ⟨k + 1, by omega, by go_num, HO2, by show Mp _ _ _ _; rw [HL'.out]; exact HM2.out⟩
            case measure => simp [intOf]; omega
          · have hstep : L' = app1 L ⟨kd, nm, nt, bs⟩ := by
              rw [hstep]
              unfold cutOp opOf
              rw [if_neg (by show ¬ (kd = 1 ∧ 1 ≤ z ∧ z ≤ ((bs.length : Nat) : Int)); rw [hbn]; exact hcut)]
            by_cases k1 : kd = 1
            · subst k1
              by_cases hz1 : 1 ≤ z
              · have hz2 : ¬ z ≤ bn := fun c => hcut ⟨rfl, hz1, c⟩
                clear hcut hz0' hz0
                go_wp2_with fail
                have HAq : Hid (Below wr.heap.size wr (wr.alloc (.cells #[.int .i64 1, .string nm, .string nt, .slice bA bn bc] 29))) := Lib.hid ((Below.refl _ _).alloc (Nat.le_refl _) _)
                have N0 := Lib.hid (Mem.Blk.new (w := wr) (t := 29) (cs := #[.int .i64 1, .string nm, .string nt, .slice bA bn bc]))
                have HGX := Lib.hid (HG0.out.belowS HAq.out)
                have hne : ¬ wr.heap.size = b := by have := HB0.out; omega
                have hgb : ¬ g = b := fun e => hbg e.symm
                have HZ : Hid (wr.heap.size < (wr.alloc (.cells #[.int .i64 1, .string nm, .string nt, .slice bA bn bc] 29)).heap.size) := Lib.hid (by simp)
                have HOX := Lib.hid (HOn.out _ HAq.out)
                have HMX := Lib.hid (HMn.out _ HAq.out)
                have HHX := Lib.hid (HHn.out _ HAq.out)
                clear HOn HMn HHn HAq HAl e0 e1 e2 e3
                generalize wr.alloc (.cells #[.int .i64 1, .string nm, .string nt, .slice bA bn bc] 29) = X at *
                refine Reg.start (S := fun w' => Ro.Only (fun k => k = b) X w') (by kernel_rfl) ?_
                refine Reg.takes (n := 1) (by kernel_rfl) (fun _ _ d _ _ h => by cases d <;> exact h) (Ro.Only.refl _ _).drew [0, 1, 2, 3, 4] _ _ (by kernel_rfl) ?_
                iterate 5 (refine Reg.det_step rfl (fun K' hK' => ?_); go_simp; (first | (refine hK' _ ?_; clear hK' K') | (apply Exists.intro; refine ⟨fun wx hwx => ?_, hK' _ ?_⟩; (first | rfl | (obtain ⟨i0, i1, i2, i3⟩ := And.intro (Mem.Blk.cell (((hwx.block _ N0.out.lt hne).trans N0.out : Mem.Blk wx wr.heap.size 29 _)) 0) (And.intro (Mem.Blk.cell (((hwx.block _ N0.out.lt hne).trans N0.out : Mem.Blk wx wr.heap.size 29 _)) 1) (And.intro (Mem.Blk.cell (((hwx.block _ N0.out.lt hne).trans N0.out : Mem.Blk wx wr.heap.size 29 _)) 2) (Mem.Blk.cell (((hwx.block _ N0.out.lt hne).trans N0.out : Mem.Blk wx wr.heap.size 29 _)) 3))); have j0 := Mem.Blk.cell ((hwx.block g (by have := HGl.out; have := HZ.out; omega) hgb).trans HGX.out) 0; go_simp; first | done | rfl)); clear hK' K')))
                refine Reg.det_nil ?_
                refine Reg.one (i := 5) (n := 0) (by kernel_rfl) ?_
                refine Reg.call rfl rfl (by go_simp; exact ⟨rfl, rfl⟩) ?_
                refine (apply_c (w := X.drew) (C := CrC w C X) (kind := 1) (name := nm) (nto := nt) (bs := bs) (HMX.out.below (Below.refl _ _).drew) (fun c => ?nb) (HHX.out.below (Below.refl _ _).drew) ho1 ho2 (by have := HLen.out; omega) (by omega)).mono ?_
                case nb =>
                  rcases c with c | c
                  · exact HCB.out c.1
                  · have := HBl.out; omega
                rintro e w2 ⟨rfl, hm, ho⟩
                have hS2 : Ro.Only (fun k => k = b) X w2 := ho.undrew
                have hz2' := hS2.size
                have hzX := HOX.out.size
                have HO2 := Lib.hid (HOX.out.trans hS2 (fun _ _ e => e))
                have HM2 : Hid (Mp w2 (CrC w C w2) b L') := Lib.hid (by
                  rw [hstep]
                  refine hm.mono fun k hk c => ?_
                  rcases c with c | c
                  · rcases c with c | c
                    · exact .inl c
                    · exact .inr ⟨c.1, hk⟩
                  · have h1 : X.heap.size ≤ k := c.1
                    exact .inr ⟨by omega, hk⟩)
                clear hm ho HMX HHX HOX
                refine ⟨_, rfl, hS2, ?_⟩
                refine wpAnyH_done (by kernel_rfl) ?_ _
                go_wp2_with fail
                go_roundw
                case rel => exact ⟨k + 1, by omega, by go_num, HO2, by show Mp _ _ _ _; rw [HL'.out]; exact HM2.out⟩
                case measure => simp [intOf]; omega
              · clear hcut hz0
                go_wp2_with fail
                have HAq : Hid (Below wr.heap.size wr (wr.alloc (.cells #[.int .i64 1, .string nm, .string nt, .slice bA bn bc] 29))) := Lib.hid ((Below.refl _ _).alloc (Nat.le_refl _) _)
                have N0 := Lib.hid (Mem.Blk.new (w := wr) (t := 29) (cs := #[.int .i64 1, .string nm, .string nt, .slice bA bn bc]))
                have HGX := Lib.hid (HG0.out.belowS HAq.out)
                have hne : ¬ wr.heap.size = b := by have := HB0.out; omega
                have hgb : ¬ g = b := fun e => hbg e.symm
                have HZ : Hid (wr.heap.size < (wr.alloc (.cells #[.int .i64 1, .string nm, .string nt, .slice bA bn bc] 29)).heap.size) := Lib.hid (by simp)
                have HOX := Lib.hid (HOn.out _ HAq.out)
                have HMX := Lib.hid (HMn.out _ HAq.out)
                have HHX := Lib.hid (HHn.out _ HAq.out)
                clear HOn HMn HHn HAq HAl e0 e1 e2 e3
                generalize wr.alloc (.cells #[.int .i64 1, .string nm, .string nt, .slice bA bn bc] 29) = X at *
                refine Reg.start (S := fun w' => Ro.Only (fun k => k = b) X w') (by kernel_rfl) ?_
                refine Reg.takes (n := 1) (by kernel_rfl) (fun _ _ d _ _ h => by cases d <;> exact h) (Ro.Only.refl _ _).drew [0, 1, 2, 3, 4] _ _ (by kernel_rfl) ?_
                iterate 5 (refine Reg.det_step rfl (fun K' hK' => ?_); go_simp; (first | (refine hK' _ ?_; clear hK' K') | (apply Exists.intro; refine ⟨fun wx hwx => ?_, hK' _ ?_⟩; (first | rfl | (obtain ⟨i0, i1, i2, i3⟩ := And.intro (Mem.Blk.cell (((hwx.block _ N0.out.lt hne).trans N0.out : Mem.Blk wx wr.heap.size 29 _)) 0) (And.intro (Mem.Blk.cell (((hwx.block _ N0.out.lt hne).trans N0.out : Mem.Blk wx wr.heap.size 29 _)) 1) (And.intro (Mem.Blk.cell (((hwx.block _ N0.out.lt hne).trans N0.out : Mem.Blk wx wr.heap.size 29 _)) 2) (Mem.Blk.cell (((hwx.block _ N0.out.lt hne).trans N0.out : Mem.Blk wx wr.heap.size 29 _)) 3))); have j0 := Mem.Blk.cell ((hwx.block g (by have := HGl.out; have := HZ.out; omega) hgb).trans HGX.out) 0; go_simp; first | done | rfl)); clear hK' K')))
                refine Reg.det_nil ?_
                refine Reg.one (i := 5) (n := 0) (by kernel_rfl) ?_
                refine Reg.call rfl rfl (by go_simp; exact ⟨rfl, rfl⟩) ?_
                refine (apply_c (w := X.drew) (C := CrC w C X) (kind := 1) (name := nm) (nto := nt) (bs := bs) (HMX.out.below (Below.refl _ _).drew) (fun c => ?nb) (HHX.out.below (Below.refl _ _).drew) ho1 ho2 (by have := HLen.out; omega) (by omega)).mono ?_
                case nb =>
                  rcases c with c | c
                  · exact HCB.out c.1
                  · have := HBl.out; omega
                rintro e w2 ⟨rfl, hm, ho⟩
                have hS2 : Ro.Only (fun k => k = b) X w2 := ho.undrew
                have hz2' := hS2.size
                have hzX := HOX.out.size
                have HO2 := Lib.hid (HOX.out.trans hS2 (fun _ _ e => e))
                have HM2 : Hid (Mp w2 (CrC w C w2) b L') := Lib.hid (by
                  rw [hstep]
                  refine hm.mono fun k hk c => ?_
                  rcases c with c | c
                  · rcases c with c | c
                    · exact .inl c
                    · exact .inr ⟨c.1, hk⟩
                  · have h1 : X.heap.size ≤ k := c.1
                    exact .inr ⟨by omega, hk⟩)
                clear hm ho HMX HHX HOX
                refine ⟨_, rfl, hS2, ?_⟩
                refine wpAnyH_done (by kernel_rfl) ?_ _
                go_wp2_with fail
                go_roundw
                case rel => exact ⟨k + 1, by omega, by go_num, HO2, by show Mp _ _ _ _; rw [HL'.out]; exact HM2.out⟩
                case measure => simp [intOf]; omega
            · have k1' : (kd == 1) = false := beq_eq_false_iff_ne.2 k1
              clear hcut hz0 k1
              go_wp2_with fail
              have HAq : Hid (Below wr.heap.size wr (wr.alloc (.cells #[.int .i64 kd, .string nm, .string nt, .slice bA bn bc] 29))) := Lib.hid ((Below.refl _ _).alloc (Nat.le_refl _) _)
              have N0 := Lib.hid (Mem.Blk.new (w := wr) (t := 29) (cs := #[.int .i64 kd, .string nm, .string nt, .slice bA bn bc]))
              have HGX := Lib.hid (HG0.out.belowS HAq.out)
              have hne : ¬ wr.heap.size = b := by have := HB0.out; omega
              have hgb : ¬ g = b := fun e => hbg e.symm
              have HZ : Hid (wr.heap.size < (wr.alloc (.cells #[.int .i64 kd, .string nm, .string nt, .slice bA bn bc] 29)).heap.size) := Lib.hid (by simp)
              have HOX := Lib.hid (HOn.out _ HAq.out)
              have HMX := Lib.hid (HMn.out _ HAq.out)
              have HHX := Lib.hid (HHn.out _ HAq.out)
              clear HOn HMn HHn HAq HAl e0 e1 e2 e3
              generalize wr.alloc (.cells #[.int .i64 kd, .string nm, .string nt, .slice bA bn bc] 29) = X at *
              refine Reg.start (S := fun w' => Ro.Only (fun k => k = b) X w') (by kernel_rfl) ?_
              refine Reg.takes (n := 1) (by kernel_rfl) (fun _ _ d _ _ h => by cases d <;> exact h) (Ro.Only.refl _ _).drew [0, 1, 2, 3, 4] _ _ (by kernel_rfl) ?_
              iterate 5 (refine Reg.det_step rfl (fun K' hK' => ?_); go_simp; (first | (refine hK' _ ?_; clear hK' K') | (apply Exists.intro; refine ⟨fun wx hwx => ?_, hK' _ ?_⟩; (first | rfl | (obtain ⟨i0, i1, i2, i3⟩ := And.intro (Mem.Blk.cell (((hwx.block _ N0.out.lt hne).trans N0.out : Mem.Blk wx wr.heap.size 29 _)) 0) (And.intro (Mem.Blk.cell (((hwx.block _ N0.out.lt hne).trans N0.out : Mem.Blk wx wr.heap.size 29 _)) 1) (And.intro (Mem.Blk.cell (((hwx.block _ N0.out.lt hne).trans N0.out : Mem.Blk wx wr.heap.size 29 _)) 2) (Mem.Blk.cell (((hwx.block _ N0.out.lt hne).trans N0.out : Mem.Blk wx wr.heap.size 29 _)) 3))); have j0 := Mem.Blk.cell ((hwx.block g (by have := HGl.out; have := HZ.out; omega) hgb).trans HGX.out) 0; go_simp; first | done | rfl)); clear hK' K')))
              refine Reg.det_nil ?_
              refine Reg.one (i := 5) (n := 0) (by kernel_rfl) ?_
              refine Reg.call rfl rfl (by go_simp; exact ⟨rfl, rfl⟩) ?_
              refine (apply_c (w := X.drew) (C := CrC w C X) (kind := kd) (name := nm) (nto := nt) (bs := bs) (HMX.out.below (Below.refl _ _).drew) (fun c => ?nb) (HHX.out.below (Below.refl _ _).drew) ho1 ho2 (by have := HLen.out; omega) (by omega)).mono ?_
              case nb =>
                rcases c with c | c
                · exact HCB.out c.1
                · have := HBl.out; omega
              rintro e w2 ⟨rfl, hm, ho⟩
              have hS2 : Ro.Only (fun k => k = b) X w2 := ho.undrew
              have hz2' := hS2.size
              have hzX := HOX.out.size
              have HO2 := Lib.hid (HOX.out.trans hS2 (fun _ _ e => e))
              have HM2 : Hid (Mp w2 (CrC w C w2) b L') := Lib.hid (by
                rw [hstep]
                refine hm.mono fun k hk c => ?_
                rcases c with c | c
                · rcases c with c | c
                  · exact .inl c
                  · exact .inr ⟨c.1, hk⟩
                · have h1 : X.heap.size ≤ k := c.1
                  exact .inr ⟨by omega, hk⟩)
              clear hm ho HMX HHX HOX
              refine ⟨_, rfl, hS2, ?_⟩
              refine wpAnyH_done (by kernel_rfl) ?_ _
              go_wp2_with fail
              go_roundw
              case rel => exact ⟨k + 1, by omega, by go_num, HO2, by show Mp _ _ _ _; rw [HL'.out]; exact HM2.out⟩
              case measure => simp [intOf]; omega
    · obtain rfl : nO = k := by omega
      have he : crashTo s.fs s.op keep nO = crashF s.fs s.op keep := by unfold crashTo crashF; rw [List.take_of_length_le (by simp; omega)]
      rw [he] at HM
      have hb1 : Mem.Blk wr g 74 #[.map (some b), .slice AO nO cO] := (HO.out.block g H.out.blk.lt (fun e => hbg e.symm)).trans H.out.blk
      have m0 := hb1.cell 0
      have m1 := hb1.cell 1
      have mf := hb1.frozen
      have HP := Lib.hid (crash_fin H.out HO.out HM.out hbg)
      clear H HO HM hb1 he
      go_wp2_with fail
      exact bodyPost_end (results_none rfl _ _ _) rfl ⟨rfl, HP.out⟩
end Dk
end Go.Proofs.Ytnaidihoijociaa
