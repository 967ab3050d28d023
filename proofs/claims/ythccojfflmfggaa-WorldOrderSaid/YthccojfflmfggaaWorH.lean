/- Words of layer 16 (world) for the laws: a runtime among other things; what is asked of it leaves those alone. -/
import Derived.Test.YthccojfflmfggaaWorF
namespace Go.Proofs.Ythccojfflmfggaa
open Go.RowKit
namespace Wo
/-- in w lies a runtime; what ks names lies apart from it, and is as it was in wr -/
def Has (wr : World) (ks : Nat → Prop) (w : World) (g : Nat) (s : St) : Prop := ∃ S, At w g s S ∧ Ro.Only (fun k => ¬ ks k) wr w ∧ ∀ k, ks k → k < wr.heap.size ∧ ¬ S k
section
variable {wr w w' : World} {ks ks2 : Nat → Prop} {g : Nat} {s s' : St}
theorem Has.step {S : Nat → Prop} (h2 : Ro.Only (fun k => ¬ ks k) wr w) (h3 : ∀ k, ks k → k < wr.heap.size ∧ ¬ S k) (p : Post S w w' g s') : Has wr ks w' g s' := by
  refine ⟨ext S w w', p.at_, h2.trans p.only (fun k hk c hks => (h3 k hks).2 c), fun k hk => ⟨(h3 k hk).1, ?_⟩⟩
  rintro (c | ⟨c, _⟩)
  · exact (h3 k hk).2 c
  · have := (h3 k hk).1
    have := h2.size
    omega
theorem Has.of_post (h : Has wr ks w g s) (hp : ∀ S, At w g s S → Post S w w' g s') : Has wr ks w' g s' := by
  obtain ⟨S, h1, h2, h3⟩ := h
  exact Has.step h2 h3 (hp S h1)
theorem Has.below (h : Has wr ks w g s) (hb : Below w.heap.size w w') : Has wr ks w' g s := h.of_post fun _ h1 => Post.of_below h1 hb
theorem Has.only (h : Has wr ks w g s) : Ro.Only (fun k => ¬ ks k) wr w := by obtain ⟨_, _, h2, _⟩ := h; exact h2
theorem Has.start (h : Below wr.heap.size wr w) (hk : ∀ k, ks k → k < wr.heap.size) {S : Nat → Prop} (ha : At w g s S) (hS : ∀ k, S k → wr.heap.size ≤ k) : Has wr ks w g s :=
  ⟨S, ha, Ro.Only.of_below h, fun k h1 => ⟨hk k h1, fun c => by have := hS k c; have := hk k h1; omega⟩⟩
/-- from another world on -/
theorem Has.rebase (h : Has wr ks w g s) (hb : Below w.heap.size w w') (hk : ∀ k, ks2 k → k < w'.heap.size ∧ (ks k ∨ w.heap.size ≤ k)) : Has w' ks2 w' g s := by
  obtain ⟨S, h1, h2, h3⟩ := h
  refine ⟨fun k => S k ∧ k < w.heap.size, (h1.mono (T := fun k => S k ∧ k < w.heap.size) fun k hk c => ⟨c, hk⟩).below hb, Ro.Only.refl _ _, fun k hk2 => ⟨(hk k hk2).1, ?_⟩⟩
  · rintro ⟨c, hlt⟩
    rcases (hk k hk2).2 with e | e
    · exact (h3 k e).2 c
    · omega
end
section
variable {wr w : World} {ks : Nat → Prop} {g : Nat} {s : St}
theorem feedH {A : Option Addr} {n c : Nat} {bs : List Bool} (h : Has wr ks w g s) (hw : Mem.Sl w w.heap.size 1 A n (bs.map Value.bool)) (hn : n ≤ 1000000) (ho : s.outs.length ≤ 4096) :
    Calls Try.prog 13 #[.pointer (some ⟨g, 0, none⟩), .slice A n c] w fun e w' => (4096 < s.outs.length + n → e = .returned (.int .i64 6) ∧ Has wr ks w' g s) ∧ (s.outs.length + n ≤ 4096 → e = .returned (.int .i64 0) ∧ Has wr ks w' g { s with outs := s.outs ++ bs }) := by
  obtain ⟨S, h1, h2, h3⟩ := h
  exact (feed_c g s S A n c bs w h1 hw hn ho).mono fun e w' p => ⟨fun c => ⟨(p.1 c).1, Has.step h2 h3 (p.1 c).2⟩, fun c => ⟨(p.2 c).1, Has.step h2 h3 (p.2 c).2⟩⟩
theorem createH {id : ByteArray} {round : Int} (h : Has wr ks w g s) (hs : Good s) :
    Calls Try.prog 14 #[.pointer (some ⟨g, 0, none⟩), .string id, .int .i64 round] w fun e w' => (Str.has (ids s.bx) id = true → e = .returned (.int .i64 5) ∧ Has wr ks w' g s) ∧ (Str.has (ids s.bx) id = false → e = .returned (.int .i64 0) ∧ Has wr ks w' g { s with bx := insB s.bx id round }) := by
  obtain ⟨S, h1, h2, h3⟩ := h
  exact (wcreate_c g s S id round w h1 hs).mono fun e w' p => ⟨fun c => ⟨(p.1 c).1, Has.step h2 h3 (p.1 c).2⟩, fun c => ⟨(p.2 c).1, Has.step h2 h3 (p.2 c).2⟩⟩
theorem askH {id : ByteArray} {q round : Int} (h : Has wr ks w g s) (hs : Good s) (hq : (Lit.int .i64 q).wf = true) :
    Calls Try.prog 18 #[.pointer (some ⟨g, 0, none⟩), .string id, .int .i64 q, .int .i64 round] w fun e w' => (askE s id q ≠ 0 → e = .returned (.tuple #[.bool false, .int .i64 (askE s id q)]) ∧ Has wr ks w' g s) ∧ (askE s id q = 0 → e = .returned (.tuple #[.bool (tk s.outs), .int .i64 0]) ∧ Has wr ks w' g (askS s id q round)) := by
  obtain ⟨S, h1, h2, h3⟩ := h
  exact (wask_c g s S id q round w h1 hs hq).mono fun e w' p => ⟨fun c => ⟨(p.1 c).1, Has.step h2 h3 (p.1 c).2⟩, fun c => ⟨(p.2 c).1, Has.step h2 h3 (p.2 c).2⟩⟩
theorem pullH {id name : ByteArray} {size round : Int} (h : Has wr ks w g s) (hs : Good s) :
    Calls Try.prog 15 #[.pointer (some ⟨g, 0, none⟩), .string id, .string name, .int .i64 size, .int .i64 round] w fun e w' => (errM s.bx id 1 ≠ 0 → e = .returned (.tuple #[.bool false, .bool false, .int .i64 (errM s.bx id 1)]) ∧ Has wr ks w' g s) ∧ (errM s.bx id 1 = 0 → e = .returned (.tuple #[.bool (pullW s name), .bool (pullW s name && !Str.has (nms s.im) name), .int .i64 0]) ∧ Has wr ks w' g (pullS s id name size round)) := by
  obtain ⟨S, h1, h2, h3⟩ := h
  exact (wpull_c g s S id name size round w h1 hs).mono fun e w' p => ⟨fun c => ⟨(p.1 c).1, Has.step h2 h3 (p.1 c).2⟩, fun c => ⟨(p.2 c).1, Has.step h2 h3 (p.2 c).2⟩⟩
theorem boxH {id : ByteArray} (h : Has wr ks w g s) (hs : Good s) :
    Calls Try.prog 19 #[.pointer (some ⟨g, 0, none⟩), .string id] w fun e w' => e = .returned (.tuple #[.agg #[.int .i64 (boxOf s.bx id).1, .int .i64 (boxOf s.bx id).2], .bool (Str.has (ids s.bx) id)]) ∧ Below w.heap.size w w' ∧ Has wr ks w' g s := by
  have h' := h
  obtain ⟨S, h1, h2, h3⟩ := h
  exact (box_c g s S id w h1 hs).mono fun e w' p => ⟨p.1, p.2, h'.below p.2⟩
theorem imagesH (h : Has wr ks w g s) (hs : Good s) : Calls Try.prog 20 #[.pointer (some ⟨g, 0, none⟩)] w fun e w' => CloneISaid s.im.length s.im w e w' ∧ Has wr ks w' g s := by
  have h' := h
  obtain ⟨S, h1, h2, h3⟩ := h
  exact (images_c g s S w h1 hs).mono fun e w' p => ⟨p, h'.below (by obtain ⟨_, _, _, _, hb, _⟩ := p; exact hb)⟩
theorem containersH (h : Has wr ks w g s) (hs : Good s) : Calls Try.prog 17 #[.pointer (some ⟨g, 0, none⟩)] w fun e w' => CloneSaid s.bx.length s.bx w e w' ∧ Has wr ks w' g s := by
  have h' := h
  obtain ⟨S, h1, h2, h3⟩ := h
  exact (containers_c g s S w h1 hs).mono fun e w' p => ⟨p, h'.below (by obtain ⟨_, _, _, _, hb, _⟩ := p; exact hb)⟩
theorem waitingH (h : Has wr ks w g s) (hs : Good s) : Calls Try.prog 16 #[.pointer (some ⟨g, 0, none⟩)] w fun e w' => (∃ A' c', e = .returned (.slice A' s.outs.length c') ∧ QRow w' A' s.outs.length c' s.outs ∧ Below w.heap.size w w' ∧ ∀ b, Ro.blk A' = some b → w.heap.size ≤ b) ∧ Has wr ks w' g s := by
  have h' := h
  obtain ⟨S, h1, h2, h3⟩ := h
  exact (waiting_c g s S w h1 hs).mono fun e w' p => ⟨p, h'.below (by obtain ⟨_, _, _, _, hb, _⟩ := p; exact hb)⟩
end
end Wo
end Go.Proofs.Ythccojfflmfggaa
