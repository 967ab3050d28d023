/- Layer 10 (disk): a disk in memory; the walk of look. -/
import Derived.Test.YtnaidihoijociaaDkB
namespace Go.Proofs.Ytnaidihoijociaa
open Go.RowKit Go.Maps
namespace Dk
open Bs
open Crc (Byte)
/-- a disk: lasting files; what was done since -/
structure Ds where
  fs : Files
  op : List OpA
def opOf (p : OpV) : OpA := ⟨p.kind, p.name, p.nto, p.bytes⟩
/-- all done -/
def look (s : Ds) : Files := s.op.foldl app1 s.fs
structure Good (s : Ds) : Prop where
  no : s.op.length ≤ 1000
  nf : s.fs.length ≤ 1000
  ok : ∀ o ∈ s.op, o.name.size ≤ maxLen ∧ o.nto.size ≤ maxLen ∧ o.bytes.length ≤ 100000
  fb : ∀ p ∈ s.fs, p.2.length ≤ 100000
  fk : ∀ p ∈ s.fs, p.1.length ≤ maxLen
structure AtL (w : World) (g : Nat) (s : Ds) (M C : Nat → Prop) (b : Nat) (AO : Option Addr) (nO cO : Nat) (ps : List OpV) : Prop where
  blk : Mem.Blk w g 74 #[.map (some b), .slice AO nO cO]
  mp : Mp w C b s.fs
  row : Ro.Row w 29 4 AO nO cO (OpV.flat ps)
  ops : ps.map opOf = s.op
  hold : ∀ p ∈ ps, Hold w C p.bytesA p.bytesn p.bytesc p.bytes
  mg : M g ∧ M b ∧ ∀ k, Ro.blk AO = some k → M k
  cm : ∀ k, C k → ¬ M k
/-- at block g lies a disk; what may be changed lies in blocks of M, bytes in blocks of C -/
def At (w : World) (g : Nat) (s : Ds) (M C : Nat → Prop) : Prop := ∃ b AO nO cO ps, AtL w g s M C b AO nO cO ps
section
variable {w w' : World} {g b nO cO : Nat} {s : Ds} {M C M' C' : Nat → Prop} {AO : Option Addr} {ps : List OpV}
theorem AtL.len (h : AtL w g s M C b AO nO cO ps) : ps.length = nO ∧ s.op.length = nO := by
  have h1 := h.row.len
  rw [OpV.flat_len] at h1
  have h2 := congrArg List.length h.ops
  rw [List.length_map] at h2
  omega
theorem AtL.keep (h : AtL w g s M C b AO nO cO ps) (hz : w.heap.size ≤ w'.heap.size) (hk : ∀ k, k < w.heap.size → M k ∨ C k → w'.heap[k]? = w.heap[k]?) : AtL w' g s M C b AO nO cO ps :=
  ⟨(hk g h.blk.lt (.inl h.mg.1)).trans h.blk, h.mp.keep hz (fun k hk1 hc => hk k hk1 (.inr hc)) (hk b h.mp.lt (.inl h.mg.2.1)), h.row.keep fun k hb => hk k (h.row.lt hb) (.inl (h.mg.2.2 k hb)), h.ops, fun p hp => (h.hold p hp).keep hz (fun k hk1 hc => hk k hk1 (.inr hc)), h.mg, h.cm⟩
theorem At.keep (h : At w g s M C) (hz : w.heap.size ≤ w'.heap.size) (hk : ∀ k, k < w.heap.size → M k ∨ C k → w'.heap[k]? = w.heap[k]?) : At w' g s M C := by
  obtain ⟨b, AO, nO, cO, ps, h⟩ := h
  exact ⟨b, AO, nO, cO, ps, h.keep hz hk⟩
theorem At.below (h : At w g s M C) (hb : Below w.heap.size w w') : At w' g s M C := h.keep hb.size fun k hk _ => hb.block k hk
theorem At.mono (h : At w g s M C) (hM : ∀ k, k < w.heap.size → M k → M' k) (hC : ∀ k, k < w.heap.size → C k → C' k) (hcm : ∀ k, C' k → ¬ M' k) : At w g s M' C' := by
  obtain ⟨b, AO, nO, cO, ps, h⟩ := h
  exact ⟨b, AO, nO, cO, ps, h.blk, h.mp.mono hC, h.row, h.ops, fun p hp => (h.hold p hp).mono hC, ⟨hM g h.blk.lt h.mg.1, hM b h.mp.lt h.mg.2.1, fun k hb => hM k (h.row.lt hb) (h.mg.2.2 k hb)⟩, hcm⟩
theorem At.lt (h : At w g s M C) : g < w.heap.size ∧ M g := by
  obtain ⟨b, AO, nO, cO, ps, h⟩ := h
  exact ⟨h.blk.lt, h.mg.1⟩
end
theorem len_fold (l : Files) (os : List OpA) : (os.foldl app1 l).length ≤ l.length + os.length := by
  induction os generalizing l with
  | nil => simp
  | cons o os ih =>
    rw [List.foldl_cons, List.length_cons]
    have := ih (app1 l o)
    have h2 := len_app1 l o
    omega
/-- bytes of a look's own -/
def LkC (w : World) (C : Nat → Prop) (w' : World) (b : Nat) : Nat → Prop := fun k => (C k ∨ (w.heap.size ≤ k ∧ k < w'.heap.size)) ∧ k ≠ b
theorem opv_at {w : World} {AO : Option Addr} {nO cO : Nat} {ps : List OpV} (hr : Ro.Row w 29 4 AO nO cO (OpV.flat ps)) {k : Nat} (hk : k < nO) : ∃ (ad : Addr) (hl : k < ps.length), AO = some ad ∧ (ad.add (k * 4)).block < w.heap.size ∧ OpV.At w (ad.add (k * 4)) ps[k] := by
  obtain ⟨ad, hl, e, _, hb, hat⟩ := OpV.at_ hr.sl hk
  exact ⟨ad, hl, e, hb, hat⟩
set_option maxRecDepth 100000 in
set_option maxHeartbeats 4000000 in
theorem look_c {w : World} {g : Nat} {s : Ds} {M C : Nat → Prop} (h : At w g s M C) (hs : Good s) :
    Calls Try.prog 42 #[.pointer (some ⟨g, 0, none⟩)] w fun e w' => e = .returned (.map (some w.heap.size)) ∧ Mp w' (LkC w C w' w.heap.size) w.heap.size (look s) ∧ Below w.heap.size w w' := by
  obtain ⟨b, AO, nO, cO, ps, h⟩ := h
  obtain ⟨hl1, hl2⟩ := h.len
  have hno := hs.no
  have hnf := hs.nf
  obtain ⟨es, hes1, hes2, hes3⟩ := h.mp
  have HC := Lib.hid (Try.clone_c 9 rdr b es.length (dat es) w hes3)
  have m0 := h.blk.cell 0
  have m1 := h.blk.cell 1
  have HB := Lib.hid h.blk
  have HR := Lib.hid h.row
  have HOp := Lib.hid h.ops
  have HH := Lib.hid h.hold
  have HK := Lib.hid hs.ok
  have HE := Lib.hid hes2
  have HF := Lib.hid hes1
  clear h hs hes1 hes2 hes3
  go_enter Try.func42, Try.ntmps42
  go_wp2_with fail
  refine HC.out.mono ?_
  rintro e w1 ⟨rfl, hown, -, hb1⟩
  have hlt := hown.lt
  have HM : Hid (Mp w1 (LkC w C w1 w.heap.size) w.heap.size s.fs) := Lib.hid ⟨es, HF.out, fun e he => (((HE.out e he).mono (C' := fun k => C k ∧ k < w.heap.size) (fun k hk hc => ⟨hc, hk⟩)).below hb1).mono (fun k _ hc => ⟨.inl hc.1, by have := hc.2; omega⟩), hown⟩
  have HL1 := Lib.hid hb1
  have HLT := Lib.hid hlt
  obtain ⟨n1, n2⟩ := And.intro (Mem.Blk.cell (HB.out.belowS hb1) 0) (Mem.Blk.cell (HB.out.belowS hb1) 1)
  clear HC hown hb1 m0 m1 HE HF hlt
  go_wp2_with fail
  clear n1 n2
  obtain ⟨B, hB⟩ : ∃ B, w.heap.size = B := ⟨_, rfl⟩
  rw [hB]
  rw [hB] at HM HLT
  have HBs := Lib.hid hB
  clear hB
  go_loopw [16] (fun vi wr => ∃ k : Nat, k ≤ nO ∧ vi = .int .i64 k ∧ Hid (Below w.heap.size w wr) ∧ B < wr.heap.size ∧ Hid (Mp wr (LkC w C wr B) B ((s.op.take k).foldl app1 s.fs))) (fun i _ => nO - (intOf i).toNat)
  case atStart => exact ⟨0, by omega, rfl, HL1, HLT.out, HM⟩
  case round =>
    clear HM HL1 HLT
    obtain ⟨k, hk, rfl, HL, hBl, HM⟩ := hrel
    by_cases hlt : k < nO
    · obtain ⟨ad, hl, rfl, hblk, hat⟩ := opv_at HR.out hlt
      have hop : k < s.op.length := by omega
      have hok := HK.out s.op[k] (List.getElem_mem hop)
      have hoe : s.op[k] = opOf ps[k] := by
        have := HOp.out
        simp only [← this, List.getElem_map]
      have hHp := HH.out ps[k] (List.getElem_mem hl)
      have HSt : Hid ((s.op.take (k + 1)).foldl app1 s.fs = app1 ((s.op.take k).foldl app1 s.fs) (opOf ps[k])) := Lib.hid (by
        rw [Mem.take_snoc _ _ hop, List.foldl_append, hoe]
        rfl)
      have HLen : Hid (((s.op.take k).foldl app1 s.fs).length ≤ 2000) := Lib.hid (by
        have := len_fold s.fs (s.op.take k)
        simp at this
        omega)
      rw [hoe] at hok
      generalize (s.op.take k).foldl app1 s.fs = L at *
      generalize ps[k] = p at *
      obtain ⟨kd, nm, nt, bs, bA, bn, bc⟩ := p
      have hat := hat.below HL.out hblk
      obtain ⟨c0, c1, c2, c3⟩ := hat
      dsimp only at c0 c1 c2 c3 hHp
      have hok1 : nm.size ≤ maxLen := hok.1
      have hok2 : nt.size ≤ maxLen := hok.2.1
      have hok3 : bs.length ≤ 100000 := hok.2.2
      have hbn : bn ≤ 100000 := by rw [← hHp.len]; exact hok3
      have HX := Lib.hid (fun (X : World) (hX : Below wr.heap.size wr X) => apply_c (kind := kd) (name := nm) (nto := nt) (bs := bs) (HM.out.below hX) (fun c => c.2 rfl) (((((hHp.mono (C' := fun k => C k ∧ k < w.heap.size) (fun k hk hc => ⟨hc, hk⟩)).below HL.out).below hX).mono (C' := LkC w C wr B) (fun k _ hc => ⟨.inl hc.1, by have := HBs.out; have := hc.2; omega⟩))) hok1 hok2 (by have := HLen.out; omega) hbn)
      clear hok hoe hHp hop hblk hl hok1 hok2 hok3
      have HAl : Hid (Below wr.heap.size wr (wr.alloc (.cells #[.int .i64 kd, .string nm, .string nt, .slice bA bn bc] 29))) := Lib.hid ((Below.refl _ _).alloc (Nat.le_refl _) _)
      go_wp2_with fail
      refine (HX.out _ HAl.out).mono ?_
      rintro e w2 ⟨rfl, hm, ho⟩
      have hza := HAl.out.size
      have hzo := ho.size
      have HL2 := Lib.hid (HL.out.trans (Ro.Only.below ((Ro.Only.of_below (S := fun k => k = B) HAl.out).trans ho (fun _ _ e => e)) HL.out.size (fun k hk e => by have := HBs.out; omega)))
      have HM2 : Hid (Mp w2 (LkC w C w2 B) B (app1 L (opOf ⟨kd, nm, nt, bs, bA, bn, bc⟩))) := Lib.hid (hm.mono fun k hk c => by
        rcases c with ⟨c1 | c1, c2⟩ | c
        · exact ⟨.inl c1, c2⟩
        · exact ⟨.inr ⟨c1.1, hk⟩, c2⟩
        · have := HBs.out
          exact ⟨.inr ⟨by omega, hk⟩, by omega⟩)
      have hB2 : B < w2.heap.size := by omega
      clear hm ho HX HAl c0 c1 c2 c3
      go_wp2_with fail
      go_roundw
      case rel => exact ⟨k + 1, by omega, by go_num, HL2, hB2, by rw [HSt.out]; exact HM2⟩
      case measure => simp [intOf]; omega
    · obtain rfl : nO = k := by omega
      have he : s.op.take nO = s.op := List.take_of_length_le (by omega)
      rw [he] at HM
      go_wp2_with fail
      go_ret
      have hB := HBs.out
      subst hB
      exact ⟨rfl, HM.out, HL.out⟩
end Dk
end Go.Proofs.Ytnaidihoijociaa
