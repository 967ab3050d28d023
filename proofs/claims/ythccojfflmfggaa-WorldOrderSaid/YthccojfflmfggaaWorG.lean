/- The walks of layers 15 and 16 (image, world): drop. -/
import Derived.Test.YthccojfflmfggaaWorH
namespace Go.Proofs.Ythccojfflmfggaa
open Go.RowKit
namespace Wo
/-- the images with one less -/
def dropI (im : List ImgV) (s : ByteArray) : List ImgV := if Str.has (nms im) s then im.take (Str.pos (nms im) s) ++ im.drop (Str.pos (nms im) s + 1) else im
def NewDrop (n : Nat) (f : Bool) (im : List ImgV) (w : World) (e : Ending) (w' : World) : Prop := ∃ A' c', e = .returned (.tuple #[.slice A' n c', .bool f]) ∧ IRow w' A' n c' im ∧ Below w.heap.size w w' ∧ ∀ b, Ro.blk A' = some b → w.heap.size ≤ b
set_option maxRecDepth 100000 in
set_option maxHeartbeats 4000000 in
theorem drop_c (A : Option Addr) (n c : Nat) (im : List ImgV) (s : ByteArray) (w : World) (h : Mem.Sl w w.heap.size 3 A n (ImgV.flat im)) (hr : Str.Rises (nms im)) (hlen : im.length = n) (hn : n ≤ 100000) (hA : A = none → n = 0 ∧ c = 0) :
    Calls Try.prog 38 #[.slice A n c, .string s] w (NewDrop (dropI im s).length (Str.has (nms im) s) (dropI im s) w) := by
  have hat := iat_c A n c im s w h hr hlen (by omega)
  have hcl := Lib.hid (fun w' (hb : Below w.heap.size w w') => clonei_c A n c im w' ((h.below hb).more hb.size) (by omega) hA)
  cases hh : Str.has (nms im) s
  · have hI : Hid (dropI im s = im) := by
      show _ = _
      unfold dropI
      rw [hh, if_neg (by decide)]
    have hL : Hid ((dropI im s).length = n) := by
      show _ = _
      rw [hI.out, hlen]
    rw [hh] at hat
    have Hat := Lib.hid hat
    generalize Str.pos (nms im) s = P at *
    generalize dropI im s = im' at *
    clear h hr hh hat
    go_enter Try.func38, Try.ntmps38
    go_wp2_with fail
    refine Hat.out.mono ?_
    rintro e w1 ⟨rfl, hb1⟩
    go_wp2_with fail
    refine (hcl.out _ hb1).mono ?_
    rintro e w2 ⟨A2, c2, rfl, hR2, hb2, hA2⟩
    have B2 := Lib.hid (hb1.trans (hb2.mono hb1.size))
    have hz1 := hb1.size
    have hA3 := Lib.hid hA2
    have hR3 := Lib.hid hR2
    clear Hat hb1 hb2 hcl hA2 hR2
    go_wp2_with fail
    go_ret2
    rw [hL.out, hI.out]
    exact ⟨A2, c2, rfl, hR3.out, B2.out, fun b hb => by have := hA3.out b hb; omega⟩
  · obtain ⟨hl, ht, hnm⟩ := theI_some hr hh
    have hI0 : ∀ (P : Nat) (_ : P = Str.pos (nms im) s), dropI im s = im.take P ++ im.drop (P + 1) := by
      rintro _ rfl
      unfold dropI
      rw [hh, if_pos rfl]
    rw [hh] at hat
    have Hat := Lib.hid hat
    obtain ⟨P, hP⟩ : ∃ P, P = Str.pos (nms im) s := ⟨_, rfl⟩
    have hl' : P < im.length := by rw [hP]; exact hl
    have hI := Lib.hid (hI0 P hP)
    have hL : Hid ((dropI im s).length = n - 1) := by
      show _ = _
      rw [hI.out]
      simp
      omega
    rw [← hP] at Hat
    clear hl hI0 ht hnm
    rename P < im.length => hl
    generalize dropI im s = im' at *
    clear h hr hh hat hP
    go_enter Try.func38, Try.ntmps38
    go_wp2_with fail
    refine Hat.out.mono ?_
    rintro e w1 ⟨rfl, hb1⟩
    go_wp2_with fail
    refine (hcl.out _ hb1).mono ?_
    rintro e w2 ⟨A2, c2, rfl, hR2, hb2, hA2⟩
    have B2 := Lib.hid (hb1.trans (hb2.mono hb1.size))
    have hz1 := hb1.size
    have hz2 := hb2.size
    have hA3 := Lib.hid hA2
    have HD := Lib.hid (deletei_c A2 n c2 P im w2 (hlen ▸ hR2) (by omega) (by omega))
    clear Hat hb1 hb2 hcl hA2 hR2
    go_wp2_with fail
    refine HD.out.mono ?_
    rintro e w3 ⟨rfl, hR3, hO3⟩
    have B3 := Lib.hid (B2.out.trans (Ro.Only.below hO3 (by omega) (fun k hk e => by have := hA3.out k e; omega)))
    have HR := Lib.hid hR3
    clear HD hR3 hO3 B2
    go_wp2_with fail
    go_ret2
    rw [hL.out, hI.out]
    exact ⟨A2, c2, rfl, HR.out, B3.out, fun b hb => by have := hA3.out b hb; omega⟩
theorem post_drop {w w1 w2 : World} {g : Nat} {s s2 : St} {S : Nat → Prop} {A' : Option Addr} {n' c' : Nat} {im' : List ImgV} (h : At w g s S) (hb : Below w.heap.size w w1) (hp : Post (fun k => S k ∧ k < w.heap.size) w1 w2 g s2) (hR : IRow w1 A' n' c' im') (hA : ∀ b, Ro.blk A' = some b → w.heap.size ≤ b) :
    (∃ v, w2.cell? ⟨g, 3, none⟩ = some v) ∧ (∀ o, w2.frozen? ⟨g, o, none⟩ = false) ∧ Post S w w2 g s2 ∧ Post S w (w2.setCell ⟨g, 3, none⟩ (.slice A' n' c')) g { s2 with im := im' } := by
  have hz := hb.size
  have hz2 := hp.only.size
  have O : Ro.Only S w w2 := (Ro.Only.of_below hb).trans hp.only (fun k _ c => c.1)
  have hSg : S g := by obtain ⟨_, _, _, _, _, _, _, _, _, h⟩ := h; exact h.sg
  have h2 : At w2 g s2 (ext S w w2) := hp.at_.mono fun k _ c => by
    rcases c with c | c
    · exact .inl c.1
    · exact .inr ⟨by omega, c.2⟩
  have hR2 : IRow w2 A' n' c' im' := Ro.Row.only hR hp.only (fun k hk c => by have := hA k hk; omega)
  have P2 : Post S w w2 g s2 := ⟨h2, O⟩
  obtain ⟨AQ, nq, cq, AB, nb, cb, AI, ni, ci, h2⟩ := h2
  refine ⟨⟨_, h2.blk.cell 3⟩, h2.blk.frozen, P2, ?_⟩
  have h3 := h2.setI hR2 (fun k hk => .inr ⟨hA k hk, Ro.Row.lt hR2 hk⟩)
  refine ⟨(show At _ g _ (ext S w w2) from ⟨_, _, _, _, _, _, _, _, _, h3⟩).mono fun k _ c => ?_, O.trans (Ro.Only.setCell _ _ _) fun k _ e => by rw [e]; exact hSg⟩
  rcases c with c | c
  · exact .inl c
  · exact .inr ⟨c.1, by simpa using c.2⟩
def dropS (s : St) (name : ByteArray) : St := { s with outs := s.outs.tail, im := if tk s.outs then dropI s.im name else s.im }
set_option maxRecDepth 100000 in
set_option maxHeartbeats 4000000 in
theorem wdrop_c (g : Nat) (s : St) (S : Nat → Prop) (name : ByteArray) (w : World) (h : At w g s S) (hs : Good s) :
    Calls Try.prog 22 #[.pointer (some ⟨g, 0, none⟩), .string name] w fun e w' => (Str.has (nms s.im) name = false → e = .returned (.tuple #[.bool false, .int .i64 4]) ∧ Post S w w' g s) ∧ (Str.has (nms s.im) name = true → e = .returned (.tuple #[.bool (tk s.outs), .int .i64 0]) ∧ Post S w w' g (dropS s name)) := by
  have hb := Lib.hid (fun w' (hb : Below w.heap.size w w') => Post.of_below h hb)
  have H := Lib.hid h
  have hri := hs.ri
  have hni := hs.ni
  have htk : Hid (∀ X, Below w.heap.size w X → Calls Try.prog 32 #[.pointer (some ⟨g, 0, none⟩)] X fun e w' => e = .returned (.bool (tk s.outs)) ∧ Post (fun k => S k ∧ k < w.heap.size) X w' g { s with outs := s.outs.tail }) :=
    fun X hX => take_c g s _ X ((h.mono (T := fun k => S k ∧ k < w.heap.size) fun k hk c => ⟨c, hk⟩).below hX)
  obtain ⟨AQ, nq, cq, AB, nb, cb, AI, ni, ci, hL⟩ := h
  have hlen := hL.lens.2.2
  have m3 : w.cell? ⟨g, 3, none⟩ = some (.slice AI ni ci) := hL.blk.cell 3
  have hdr := Lib.hid (drop_c AI ni ci s.im name w hL.i.sl hri hlen (by omega) (row_nil hL.i))
  clear hL hs hri
  cases hh : Str.has (nms s.im) name
  · rw [hh] at hdr
    clear hh htk
    generalize (dropI s.im name).length = nn at *
    go_enter Try.func22, Try.ntmps22
    go_wp2_with fail
    refine hdr.out.mono ?_
    rintro e w1 ⟨A', c', rfl, hR, hb1, hA⟩
    have P1 := Lib.hid (hb.out _ hb1)
    clear hdr hR hb1 hA hb
    go_wp2_with fail
    go_ret2
    exact ⟨fun _ => ⟨rfl, P1.out⟩, fun c => (by cases c)⟩
  · rw [hh] at hdr
    clear hh
    have hS : Hid (∀ b, tk s.outs = b → dropS s name = { s with outs := s.outs.tail, im := if b then dropI s.im name else s.im }) := by
      rintro _ rfl
      rfl
    generalize (dropI s.im name).length = nn at *
    obtain ⟨tb, htb⟩ : ∃ tb, tb = tk s.outs := ⟨_, rfl⟩
    have eS := Lib.hid (hS.out tb htb.symm)
    rw [← htb] at htk ⊢
    clear htb hS
    cases tb
    · go_enter Try.func22, Try.ntmps22
      go_wp2_with fail
      refine hdr.out.mono ?_
      rintro e w1 ⟨A', c', rfl, hR, hb1, hA⟩
      have HB := Lib.hid hb1
      have HR := Lib.hid hR
      have HA := Lib.hid hA
      clear hdr hR hb1 hA hb
      go_wp2_with fail
      refine (htk.out _ HB.out).mono ?_
      rintro e w2 ⟨rfl, hp⟩
      have P2 := Lib.hid (post_drop H.out HB.out hp HR.out HA.out).2.2.1
      clear htk hp
      go_wp2_with fail
      go_ret2
      exact ⟨fun c => (by cases c), fun _ => ⟨rfl, by rw [eS.out]; exact P2.out⟩⟩
    · go_enter Try.func22, Try.ntmps22
      go_wp2_with fail
      refine hdr.out.mono ?_
      rintro e w1 ⟨A', c', rfl, hR, hb1, hA⟩
      have HB := Lib.hid hb1
      have HR := Lib.hid hR
      have HA := Lib.hid hA
      clear hdr hR hb1 hA hb
      go_wp2_with fail
      refine (htk.out _ HB.out).mono ?_
      rintro e w2 ⟨rfl, hp⟩
      obtain ⟨⟨v, k3⟩, kf, _, hp3⟩ := post_drop H.out HB.out hp HR.out HA.out
      have P3 := Lib.hid hp3
      clear htk hp hp3
      go_wp2_with fail
      go_ret2
      exact ⟨fun c => (by cases c), fun _ => ⟨rfl, by rw [eS.out]; exact P3.out⟩⟩
theorem dropH {wr w : World} {ks : Nat → Prop} {g : Nat} {s : St} {name : ByteArray} (h : Has wr ks w g s) (hs : Good s) :
    Calls Try.prog 22 #[.pointer (some ⟨g, 0, none⟩), .string name] w fun e w' => (Str.has (nms s.im) name = false → e = .returned (.tuple #[.bool false, .int .i64 4]) ∧ Has wr ks w' g s) ∧ (Str.has (nms s.im) name = true → e = .returned (.tuple #[.bool (tk s.outs), .int .i64 0]) ∧ Has wr ks w' g (dropS s name)) := by
  obtain ⟨S, h1, h2, h3⟩ := h
  exact (wdrop_c g s S name w h1 hs).mono fun e w' p => ⟨fun c => ⟨(p.1 c).1, Has.step h2 h3 (p.1 c).2⟩, fun c => ⟨(p.2 c).1, Has.step h2 h3 (p.2 c).2⟩⟩
end Wo
end Go.Proofs.Ythccojfflmfggaa
