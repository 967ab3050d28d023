/- The walk of the law's act of layer 16: done by the runtime and by the document. -/
import Derived.Test.YthccojfflmfggaaMgW10
import Derived.Test.YthccojfflmfggaaMgW4
namespace Go.Proofs.Ythccojfflmfggaa
open Go.RowKit
open worldLife (has_self has_turn)
namespace Wo
/-- three blocks, one behind the other -/
theorem three_blocks (w : World) (cs ds zs : Array Value) (t t2 t3 : TypeId) : Below w.heap.size w (((w.alloc (.cells cs t)).alloc (.cells ds t2)).alloc (.cells zs t3)) ∧ Mem.Blk (((w.alloc (.cells cs t)).alloc (.cells ds t2)).alloc (.cells zs t3)) w.heap.size t cs ∧
    Mem.Blk (((w.alloc (.cells cs t)).alloc (.cells ds t2)).alloc (.cells zs t3)) (w.heap.size + 1) t2 ds ∧ Mem.Blk (((w.alloc (.cells cs t)).alloc (.cells ds t2)).alloc (.cells zs t3)) (w.heap.size + 2) t3 zs := by
  obtain ⟨h1, h2, h3⟩ := two_blocks w cs ds t
  refine ⟨(((Below.refl _ _).alloc (Nat.le_refl _) _).alloc (by simp) _).alloc (by simp; omega) _, Mem.Blk.new.alloc.alloc, ?_, ?_⟩
  · have := Mem.Blk.new (w := w.alloc (.cells cs t)) (t := t2) (cs := ds)
    have := this.alloc (o := .cells zs t3)
    simpa using this
  · have := Mem.Blk.new (w := (w.alloc (.cells cs t)).alloc (.cells ds t2)) (t := t3) (cs := zs)
    simpa using this
theorem blk8 {w : World} {g : Nat} {t : TypeId} {a b c d e f i j : Value} (h : Mem.Blk w g t #[a, b, c, d, e, f, i, j]) : w.cell? ⟨g, 0, none⟩ = some a ∧ w.cell? ⟨g, 1, none⟩ = some b ∧ w.cell? ⟨g, 2, none⟩ = some c ∧ w.cell? ⟨g, 3, none⟩ = some d ∧ w.cell? ⟨g, 4, none⟩ = some e ∧ w.cell? ⟨g, 5, none⟩ = some f ∧ w.cell? ⟨g, 6, none⟩ = some i ∧ w.cell? ⟨g, 7, none⟩ = some j :=
  ⟨h.cell 0, h.cell 1, h.cell 2, h.cell 3, h.cell 4, h.cell 5, h.cell 6, h.cell 7⟩
/-- what is kept: what ks names, and all that is new -/
def Kp (w X : World) (ks : Nat → Prop) : Nat → Prop := fun k => k < X.heap.size ∧ (ks k ∨ w.heap.size ≤ k)
section
variable {w X w' : World} {ks T : Nat → Prop} {g : Nat} {s : St} {v : Value}
theorem Two.kp (h : Two w ks T g s v) (hb : Below w.heap.size w X) : Has X (Kp w X ks) X g s := h.has.rebase hb (fun _k hk => hk)
/-- a slice whose block is kept -/
theorem sl_only {w w' : World} {S : Nat → Prop} {B k n : Nat} {A : Option Addr} {xs : List Value} (h : Mem.Sl w B k A n xs) (ho : Ro.Only S w w') (hB : B ≤ w.heap.size) (hS : ∀ ad, A = some ad → 0 < n → ¬ S ad.block) : Mem.Sl w' B k A n xs :=
  ⟨h.1, fun hn => by
    obtain ⟨ad, e, hb, hc⟩ := h.2 hn
    refine ⟨ad, e, hb, hc.keep fun p hp => ?_⟩
    have := ho.block ad.block (by omega) (hS ad e hn)
    unfold World.cell?
    rw [hp, this]⟩
theorem kp_mem (_hX : Below w.heap.size w X) {k : Nat} (h1 : w.heap.size ≤ k) (h2 : k < X.heap.size) : Kp w X ks k := ⟨h2, .inr h1⟩
end

set_option maxRecDepth 100000 in
set_option maxHeartbeats 4000000 in
theorem does_0 {w : World} {ks T : Nat → Prop} {g : Nat} {s : St} {v : Value} {k : Nat} {p : ActV} (h : Two w ks T g s v) (hs : Fine k s) (hk : k ≤ 999) (hp : p.ok) (hl : ActV.lies w w.heap.size p) (hw : p.welln ≤ 5000) (hu : p.usedn ≤ 5000) (hwk : ∀ ad, p.usedA = some ad → 0 < p.usedn → ks ad.block) (hd : p.d = 0) :
    Calls Try.prog 24 #[.pointer (some ⟨g, 0, none⟩), v, .agg p.arr] w fun e w' => ∃ v', e = .returned (.tuple #[v', .bool true]) ∧ Fin w ks T g (actS s (acOf p)) v' w' := by
  obtain ⟨d, well, wA, wn, wc, id, what, name, size, round, used, uA, un, uc⟩ := p
  dsimp only at hd hw hu hwk
  subst hd
  obtain ⟨rt, AO, nO, cO, AB, nB, cB, AI, nI, cI, rfl⟩ := h.rv.shape
  have hwq : (Lit.int .i64 what).wf = true := by have := hp.what; simpa [ActV.I64, Lit.wf, IntKind.min, IntKind.max, IntKind.signed, IntKind.bits] using this
  have hlw : Mem.Sl w w.heap.size 1 wA wn (well.map Value.bool) := hl.well
  have hlu : Mem.Sl w w.heap.size 1 uA un (used.map Value.string) := hl.used
  generalize hA : acOf ⟨0, well, wA, wn, wc, id, what, name, size, round, used, uA, un, uc⟩ = a
  have ha : a.d = 0 ∧ a.well = well ∧ a.id = id ∧ a.what = what ∧ a.name = name ∧ a.size = size ∧ a.round = round ∧ a.used = used := by subst hA; exact ⟨rfl, rfl, rfl, rfl, rfl, rfl, rfl, rfl⟩
  obtain ⟨hd, rfl, rfl, rfl, rfl, rfl, rfl, rfl⟩ := ha
  clear hA hp hl
  show Calls Try.prog _ #[.pointer (some ⟨g, 0, none⟩), .agg #[.int .i64 rt, .slice AO nO cO, .slice AB nB cB, .slice AI nI cI], .agg #[.int .i64 0, .slice wA wn wc, .string a.id, .int .i64 a.what, .string a.name, .int .i64 a.size, .int .i64 a.round, .slice uA un uc]] w _
  obtain ⟨L0, N4, N5, N6⟩ := three_blocks w #[.int .i64 rt, .slice AO nO cO, .slice AB nB cB, .slice AI nI cI] #[.int .i64 0, .slice wA wn wc, .string a.id, .int .i64 a.what, .string a.name, .int .i64 a.size, .int .i64 a.round, .slice uA un uc] #[.int .i64 0, .slice none 0 0, .slice none 0 0, .slice none 0 0] 64 69 64
  have z0 : w.heap.size + 3 = (((w.alloc (.cells #[.int .i64 rt, .slice AO nO cO, .slice AB nB cB, .slice AI nI cI] 64)).alloc (.cells #[.int .i64 0, .slice wA wn wc, .string a.id, .int .i64 a.what, .string a.name, .int .i64 a.size, .int .i64 a.round, .slice uA un uc] 69)).alloc (.cells #[.int .i64 0, .slice none 0 0, .slice none 0 0, .slice none 0 0] 64)).heap.size := by simp
  have L0 := Lib.hid L0
  have N4 := Lib.hid N4
  have N5 := Lib.hid N5
  have N6 := Lib.hid N6
  have hD := Lib.hid (fun (X : World) (hX : Below w.heap.size w X) => docFeed (a := a) (d := wc) (h.rv.below hX) hs ((hlw.below hX).more hX.size) (by omega) hd)
  have hP := Lib.hid (fun (X u : World) (K : Nat → Prop) (hX : Below w.heap.size w u) (hH : Has X K u g s) => proFeed (a := a) (d := wc) hH hs ((hlw.below hX).more hX.size) (by omega) hd)
  have H := Lib.hid h
  generalize actS s a = s' at *
  generalize feedE s a = E at *
  clear h hs hk hw hu hwk hwq hlw hlu hd
  go_enter Try.func24, Try.ntmps24
  go_wp2_with fail
  generalize (((w.alloc (.cells #[.int .i64 rt, .slice AO nO cO, .slice AB nB cB, .slice AI nI cI] 64)).alloc (.cells #[.int .i64 0, .slice wA wn wc, .string a.id, .int .i64 a.what, .string a.name, .int .i64 a.size, .int .i64 a.round, .slice uA un uc] 69)).alloc (.cells #[.int .i64 0, .slice none 0 0, .slice none 0 0, .slice none 0 0] 64)) = X0 at *
  refine (hD.out X0 L0.out).mono ?_
  rintro e w1 ⟨v1, rfl, hV, hb⟩
  obtain ⟨rt1, AO1, nO1, cO1, AB1, nB1, cB1, AI1, nI1, cI1, rfl⟩ := hV.shape
  have z1 := hb.size
  obtain ⟨a0, a1, a2, a3, a4, a5, a6, a7⟩ := blk8 (N5.out.below hb N5.out.lt)
  have L1 := Lib.hid (L0.out.trans (hb.mono L0.out.size))
  have N5 := Lib.hid (N5.out.below hb N5.out.lt)
  have N6 := Lib.hid (N6.out.below hb N6.out.lt)
  have l5 := N5.out.lt
  have l6 := N6.out.lt
  have zX0 : X0.heap.size ≤ (w1.alloc (.cells #[.int .i64 rt1, .slice AO1 nO1 cO1, .slice AB1 nB1 cB1, .slice AI1 nI1 cI1] 64)).heap.size := by simp; omega
  have HX := Lib.hid (L1.out.alloc L1.out.size (.cells #[.int .i64 rt1, .slice AO1 nO1 cO1, .slice AB1 nB1 cB1, .slice AI1 nI1 cI1] 64))
  have V1 := Lib.hid ((hV.mono (T' := fun k => k < w1.heap.size ∧ (T k ∨ X0.heap.size ≤ k)) (fun k hk ht => ⟨hk, ht⟩)).below ((Below.refl _ _).alloc (Nat.le_refl _) (.cells #[.int .i64 rt1, .slice AO1 nO1 cO1, .slice AB1 nB1 cB1, .slice AI1 nI1 cI1] 64)))
  have H1 := Lib.hid (H.out.kp HX.out)
  have NX : Hid (Mem.Blk (w1.alloc (.cells #[.int .i64 rt1, .slice AO1 nO1 cO1, .slice AB1 nB1 cB1, .slice AI1 nI1 cI1] 64)) w1.heap.size 64 #[.int .i64 rt1, .slice AO1 nO1 cO1, .slice AB1 nB1 cB1, .slice AI1 nI1 cI1]) := Lib.hid Mem.Blk.new
  have N5 := Lib.hid (N5.out.alloc (o := .cells #[.int .i64 rt1, .slice AO1 nO1 cO1, .slice AB1 nB1 cB1, .slice AI1 nI1 cI1] 64))
  have N6 := Lib.hid (N6.out.alloc (o := .cells #[.int .i64 rt1, .slice AO1 nO1 cO1, .slice AB1 nB1 cB1, .slice AI1 nI1 cI1] 64))
  have K5 : Hid (Kp w (w1.alloc (.cells #[.int .i64 rt1, .slice AO1 nO1 cO1, .slice AB1 nB1 cB1, .slice AI1 nI1 cI1] 64)) ks (w.heap.size + 1) ∧ Kp w (w1.alloc (.cells #[.int .i64 rt1, .slice AO1 nO1 cO1, .slice AB1 nB1 cB1, .slice AI1 nI1 cI1] 64)) ks (w.heap.size + 2) ∧ Kp w (w1.alloc (.cells #[.int .i64 rt1, .slice AO1 nO1 cO1, .slice AB1 nB1 cB1, .slice AI1 nI1 cI1] 64)) ks w1.heap.size) := ⟨⟨by simp; omega, .inr (by omega)⟩, ⟨by simp; omega, .inr (by omega)⟩, ⟨by simp, .inr (by omega)⟩⟩
  clear hD hb hV N4 L0
  go_wp2_with fail
  have HZ : Hid ((w1.alloc (.cells #[.int .i64 rt1, .slice AO1 nO1 cO1, .slice AB1 nB1 cB1, .slice AI1 nI1 cI1] 64)).heap.size = w1.heap.size + 1) := Lib.hid (by simp)
  generalize w1.alloc (.cells #[.int .i64 rt1, .slice AO1 nO1 cO1, .slice AB1 nB1 cB1, .slice AI1 nI1 cI1] 64) = X at *
  refine Reg.start (S := fun w' => Ro.Only (fun k => ¬ Kp w X ks k ∨ k = w.heap.size + 1 + 1) X w') (by kernel_rfl) ?_
  have S0 : Ro.Only (fun k => ¬ Kp w X ks k ∨ k = w.heap.size + 1 + 1) X X.drew := (Ro.Only.refl _ _).drew
  refine Reg.takes (n := 4) (by kernel_rfl) (fun _ _ d _ _ h => by cases d <;> exact h) S0 [0, 1, 2, 3, 4, 5, 7] _ _ (by kernel_rfl) ?_
  iterate 7 (refine Reg.det_step rfl (fun K' hK' => ?_); go_simp; (first | (refine hK' _ ?_; clear hK' K') | (apply Exists.intro; refine ⟨fun wx hwx => ?_, hK' _ ?_⟩; (first | rfl | (obtain ⟨k0, k1, k2, k3, kf⟩ := blk4 ((hwx.block _ NX.out.lt (fun c => by rcases c with c | c; exact c K5.out.2.2; exact absurd c (by omega))).trans NX.out); obtain ⟨k10, k11, k12, k13, k14, k15, k16, k17⟩ := blk8 ((hwx.block _ N5.out.lt (fun c => by rcases c with c | c; exact c K5.out.1; exact absurd c (by omega))).trans N5.out); go_simp; first | done | rfl)); clear hK' K')))
  refine Reg.det_nil ?_
  refine Reg.one (i := 6) (n := 3) (by kernel_rfl) ?_
  refine Reg.call rfl rfl (by go_simp; exact ⟨rfl, rfl⟩) ?_
  refine (hP.out _ X.drew _ HX.out.drew (H1.out.below (Below.refl _ _).drew)).mono ?_
  rintro e w2 ⟨rfl, h2⟩
  have zx := HX.out.size
  have O2 := h2.only
  obtain ⟨q0, q1, q2, q3, qf⟩ := blk4 ((O2.block _ NX.out.lt (fun c => c K5.out.2.2)).trans NX.out)
  have N6b : Mem.Blk w2 (w.heap.size + 1 + 1) 64 #[.int .i64 0, .slice none 0 0, .slice none 0 0, .slice none 0 0] := (O2.block _ N6.out.lt (fun c => c K5.out.2.1)).trans N6.out
  obtain ⟨r0, r1, r2, r3, rf⟩ := blk4 N6b
  have HF := Lib.hid (Fin.of (w := w) (ks := ks) (T := T) (b2 := w.heap.size + 1 + 1) (w3 := ((((w2.setCell ⟨w.heap.size + 1 + 1, 0, none⟩ (.int .i64 rt1)).setCell ⟨w.heap.size + 1 + 1, 1, none⟩ (.slice AO1 nO1 cO1)).setCell ⟨w.heap.size + 1 + 1, 2, none⟩ (.slice AB1 nB1 cB1)).setCell ⟨w.heap.size + 1 + 1, 3, none⟩ (.slice AI1 nI1 cI1))) h2 (V1.out.own O2 (fun k _ ht c => c ⟨Nat.lt_of_lt_of_le ht.1 (by have := HZ.out; omega), ht.2.imp (H.out.sub k) (fun c => by omega)⟩)) (fun k _ ht => ⟨⟨Nat.lt_of_lt_of_le ht.1 (by have := HZ.out; omega), ht.2.imp (H.out.sub k) (fun c => by omega)⟩, by
    rcases ht.2 with c | c
    · have := H.out.lt k (H.out.sub k c)
      omega
    · omega, ht.2.imp id (fun c => by omega)⟩) ⟨K5.out.2.1, fun c => by have := H.out.lt _ c; omega⟩ (fun k hk => ⟨by have := H.out.lt k hk; have := HX.out.size; omega, .inl hk⟩) ((Ro.Only.of_below HX.out).trans O2 (fun k _ hn hk => hn ⟨by have := H.out.lt k hk; have := HX.out.size; omega, .inl hk⟩)) (by omega) (only4 _ _ _ _ _ _))
  have S2 : Ro.Only (fun k => ¬ Kp w X ks k ∨ k = w.heap.size + 1 + 1) X w2 := O2.mono (fun k _ c => .inl c)
  have S3 : Ro.Only (fun k => ¬ Kp w X ks k ∨ k = w.heap.size + 1 + 1) X ((((w2.setCell ⟨w.heap.size + 1 + 1, 0, none⟩ (.int .i64 rt1)).setCell ⟨w.heap.size + 1 + 1, 1, none⟩ (.slice AO1 nO1 cO1)).setCell ⟨w.heap.size + 1 + 1, 2, none⟩ (.slice AB1 nB1 cB1)).setCell ⟨w.heap.size + 1 + 1, 3, none⟩ (.slice AI1 nI1 cI1)) := S2.trans (only4 _ _ _ _ _ _) (fun k _ e => .inr e)
  clear O2 N6b h2 hP H1 V1 HX H L1 a0 a1 a2 a3 a4 a5 a6 a7
  refine ⟨_, rfl, S2, ?_⟩
  refine Reg.takes (n := 2) (by kernel_rfl) (fun _ _ d _ _ h => by cases d <;> exact h) S2 [8] _ _ (by kernel_rfl) ?_
  iterate 1 (refine Reg.det_step rfl (fun K' hK' => ?_); go_simp; (first | (refine hK' _ ?_; clear hK' K') | (apply Exists.intro; refine ⟨fun wx hwx => ?_, hK' _ ?_⟩; (first | rfl | (go_simp; first | done | rfl)); clear hK' K')))
  refine Reg.det_nil ?_
  refine Reg.one (i := 9) (n := 1) (by kernel_rfl) ?_
  refine Reg.skip rfl rfl (w' := ((((w2.setCell ⟨w.heap.size + 1 + 1, 0, none⟩ (.int .i64 rt1)).setCell ⟨w.heap.size + 1 + 1, 1, none⟩ (.slice AO1 nO1 cO1)).setCell ⟨w.heap.size + 1 + 1, 2, none⟩ (.slice AB1 nB1 cB1)).setCell ⟨w.heap.size + 1 + 1, 3, none⟩ (.slice AI1 nI1 cI1))) (by go_simp) S3 ?_
  refine Reg.takes (n := 0) (by kernel_rfl) (fun _ _ d _ _ h => by cases d <;> exact h) S3 [10] _ _ (by kernel_rfl) ?_
  iterate 1 (refine Reg.det_step rfl (fun K' hK' => ?_); go_simp; (first | (refine hK' _ ?_; clear hK' K') | (apply Exists.intro; refine ⟨fun wx hwx => ?_, hK' _ ?_⟩; (first | rfl | (go_simp; first | done | rfl)); clear hK' K')))
  refine Reg.det_nil ?_
  refine wpAnyH_done (by kernel_rfl) ?_ _
  go_wp2_with fail
  refine bodyPost_ret (v := .tuple #[.agg #[.int .i64 rt1, .slice AO1 nO1 cO1, .slice AB1 nB1 cB1, .slice AI1 nI1 cI1], .bool true]) (by simp [results, Try.results24, go_sem, r0, r1, r2, r3]) rfl ⟨_, rfl, HF.out⟩

set_option maxRecDepth 100000 in
set_option maxHeartbeats 4000000 in
theorem does_1 {w : World} {ks T : Nat → Prop} {g : Nat} {s : St} {v : Value} {k : Nat} {p : ActV} (h : Two w ks T g s v) (hs : Fine k s) (hk : k ≤ 999) (hp : p.ok) (hl : ActV.lies w w.heap.size p) (hw : p.welln ≤ 5000) (hu : p.usedn ≤ 5000) (hwk : ∀ ad, p.usedA = some ad → 0 < p.usedn → ks ad.block) (hd : p.d = 1) :
    Calls Try.prog 24 #[.pointer (some ⟨g, 0, none⟩), v, .agg p.arr] w fun e w' => ∃ v', e = .returned (.tuple #[v', .bool true]) ∧ Fin w ks T g (actS s (acOf p)) v' w' := by
  obtain ⟨d, well, wA, wn, wc, id, what, name, size, round, used, uA, un, uc⟩ := p
  dsimp only at hd hw hu hwk
  subst hd
  obtain ⟨rt, AO, nO, cO, AB, nB, cB, AI, nI, cI, rfl⟩ := h.rv.shape
  have hwq : (Lit.int .i64 what).wf = true := by have := hp.what; simpa [ActV.I64, Lit.wf, IntKind.min, IntKind.max, IntKind.signed, IntKind.bits] using this
  have hlw : Mem.Sl w w.heap.size 1 wA wn (well.map Value.bool) := hl.well
  have hlu : Mem.Sl w w.heap.size 1 uA un (used.map Value.string) := hl.used
  generalize hA : acOf ⟨1, well, wA, wn, wc, id, what, name, size, round, used, uA, un, uc⟩ = a
  have ha : a.d = 1 ∧ a.well = well ∧ a.id = id ∧ a.what = what ∧ a.name = name ∧ a.size = size ∧ a.round = round ∧ a.used = used := by subst hA; exact ⟨rfl, rfl, rfl, rfl, rfl, rfl, rfl, rfl⟩
  obtain ⟨hd, rfl, rfl, rfl, rfl, rfl, rfl, rfl⟩ := ha
  clear hA hp hl
  show Calls Try.prog _ #[.pointer (some ⟨g, 0, none⟩), .agg #[.int .i64 rt, .slice AO nO cO, .slice AB nB cB, .slice AI nI cI], .agg #[.int .i64 1, .slice wA wn wc, .string a.id, .int .i64 a.what, .string a.name, .int .i64 a.size, .int .i64 a.round, .slice uA un uc]] w _
  obtain ⟨L0, N4, N5, N6⟩ := three_blocks w #[.int .i64 rt, .slice AO nO cO, .slice AB nB cB, .slice AI nI cI] #[.int .i64 1, .slice wA wn wc, .string a.id, .int .i64 a.what, .string a.name, .int .i64 a.size, .int .i64 a.round, .slice uA un uc] #[.int .i64 0, .slice none 0 0, .slice none 0 0, .slice none 0 0] 64 69 64
  have z0 : w.heap.size + 3 = (((w.alloc (.cells #[.int .i64 rt, .slice AO nO cO, .slice AB nB cB, .slice AI nI cI] 64)).alloc (.cells #[.int .i64 1, .slice wA wn wc, .string a.id, .int .i64 a.what, .string a.name, .int .i64 a.size, .int .i64 a.round, .slice uA un uc] 69)).alloc (.cells #[.int .i64 0, .slice none 0 0, .slice none 0 0, .slice none 0 0] 64)).heap.size := by simp
  have L0 := Lib.hid L0
  have N4 := Lib.hid N4
  have N5 := Lib.hid N5
  have N6 := Lib.hid N6
  have hD := Lib.hid (fun (X : World) (hX : Below w.heap.size w X) => docCreate (a := a) (h.rv.below hX) hs hk hd)
  have hP := Lib.hid (fun (X u : World) (K : Nat → Prop) (hX : Below w.heap.size w u) (hH : Has X K u g s) => proCreate (a := a) hH hs hd)
  have H := Lib.hid h
  generalize actS s a = s' at *
  generalize crE s a = E at *
  clear h hs hk hw hu hwk hwq hlw hlu hd
  go_enter Try.func24, Try.ntmps24
  go_wp2_with fail
  generalize (((w.alloc (.cells #[.int .i64 rt, .slice AO nO cO, .slice AB nB cB, .slice AI nI cI] 64)).alloc (.cells #[.int .i64 1, .slice wA wn wc, .string a.id, .int .i64 a.what, .string a.name, .int .i64 a.size, .int .i64 a.round, .slice uA un uc] 69)).alloc (.cells #[.int .i64 0, .slice none 0 0, .slice none 0 0, .slice none 0 0] 64)) = X0 at *
  refine (hD.out X0 L0.out).mono ?_
  rintro e w1 ⟨v1, rfl, hV, hb⟩
  obtain ⟨rt1, AO1, nO1, cO1, AB1, nB1, cB1, AI1, nI1, cI1, rfl⟩ := hV.shape
  have z1 := hb.size
  obtain ⟨a0, a1, a2, a3, a4, a5, a6, a7⟩ := blk8 (N5.out.below hb N5.out.lt)
  have L1 := Lib.hid (L0.out.trans (hb.mono L0.out.size))
  have N5 := Lib.hid (N5.out.below hb N5.out.lt)
  have N6 := Lib.hid (N6.out.below hb N6.out.lt)
  have l5 := N5.out.lt
  have l6 := N6.out.lt
  have zX0 : X0.heap.size ≤ (w1.alloc (.cells #[.int .i64 rt1, .slice AO1 nO1 cO1, .slice AB1 nB1 cB1, .slice AI1 nI1 cI1] 64)).heap.size := by simp; omega
  have HX := Lib.hid (L1.out.alloc L1.out.size (.cells #[.int .i64 rt1, .slice AO1 nO1 cO1, .slice AB1 nB1 cB1, .slice AI1 nI1 cI1] 64))
  have V1 := Lib.hid ((hV.mono (T' := fun k => k < w1.heap.size ∧ (T k ∨ X0.heap.size ≤ k)) (fun k hk ht => ⟨hk, ht⟩)).below ((Below.refl _ _).alloc (Nat.le_refl _) (.cells #[.int .i64 rt1, .slice AO1 nO1 cO1, .slice AB1 nB1 cB1, .slice AI1 nI1 cI1] 64)))
  have H1 := Lib.hid (H.out.kp HX.out)
  have NX : Hid (Mem.Blk (w1.alloc (.cells #[.int .i64 rt1, .slice AO1 nO1 cO1, .slice AB1 nB1 cB1, .slice AI1 nI1 cI1] 64)) w1.heap.size 64 #[.int .i64 rt1, .slice AO1 nO1 cO1, .slice AB1 nB1 cB1, .slice AI1 nI1 cI1]) := Lib.hid Mem.Blk.new
  have N5 := Lib.hid (N5.out.alloc (o := .cells #[.int .i64 rt1, .slice AO1 nO1 cO1, .slice AB1 nB1 cB1, .slice AI1 nI1 cI1] 64))
  have N6 := Lib.hid (N6.out.alloc (o := .cells #[.int .i64 rt1, .slice AO1 nO1 cO1, .slice AB1 nB1 cB1, .slice AI1 nI1 cI1] 64))
  have K5 : Hid (Kp w (w1.alloc (.cells #[.int .i64 rt1, .slice AO1 nO1 cO1, .slice AB1 nB1 cB1, .slice AI1 nI1 cI1] 64)) ks (w.heap.size + 1) ∧ Kp w (w1.alloc (.cells #[.int .i64 rt1, .slice AO1 nO1 cO1, .slice AB1 nB1 cB1, .slice AI1 nI1 cI1] 64)) ks (w.heap.size + 2) ∧ Kp w (w1.alloc (.cells #[.int .i64 rt1, .slice AO1 nO1 cO1, .slice AB1 nB1 cB1, .slice AI1 nI1 cI1] 64)) ks w1.heap.size) := ⟨⟨by simp; omega, .inr (by omega)⟩, ⟨by simp; omega, .inr (by omega)⟩, ⟨by simp, .inr (by omega)⟩⟩
  clear hD hb hV N4 L0
  go_wp2_with fail
  have HZ : Hid ((w1.alloc (.cells #[.int .i64 rt1, .slice AO1 nO1 cO1, .slice AB1 nB1 cB1, .slice AI1 nI1 cI1] 64)).heap.size = w1.heap.size + 1) := Lib.hid (by simp)
  generalize w1.alloc (.cells #[.int .i64 rt1, .slice AO1 nO1 cO1, .slice AB1 nB1 cB1, .slice AI1 nI1 cI1] 64) = X at *
  refine Reg.start (S := fun w' => Ro.Only (fun k => ¬ Kp w X ks k ∨ k = w.heap.size + 1 + 1) X w') (by kernel_rfl) ?_
  have S0 : Ro.Only (fun k => ¬ Kp w X ks k ∨ k = w.heap.size + 1 + 1) X X.drew := (Ro.Only.refl _ _).drew
  refine Reg.takes (n := 4) (by kernel_rfl) (fun _ _ d _ _ h => by cases d <;> exact h) S0 [0, 1, 2, 3, 4, 5, 7] _ _ (by kernel_rfl) ?_
  iterate 7 (refine Reg.det_step rfl (fun K' hK' => ?_); go_simp; (first | (refine hK' _ ?_; clear hK' K') | (apply Exists.intro; refine ⟨fun wx hwx => ?_, hK' _ ?_⟩; (first | rfl | (obtain ⟨k0, k1, k2, k3, kf⟩ := blk4 ((hwx.block _ NX.out.lt (fun c => by rcases c with c | c; exact c K5.out.2.2; exact absurd c (by omega))).trans NX.out); obtain ⟨k10, k11, k12, k13, k14, k15, k16, k17⟩ := blk8 ((hwx.block _ N5.out.lt (fun c => by rcases c with c | c; exact c K5.out.1; exact absurd c (by omega))).trans N5.out); go_simp; first | done | rfl)); clear hK' K')))
  refine Reg.det_nil ?_
  refine Reg.one (i := 6) (n := 3) (by kernel_rfl) ?_
  refine Reg.call rfl rfl (by go_simp; exact ⟨rfl, rfl⟩) ?_
  refine (hP.out _ X.drew _ HX.out.drew (H1.out.below (Below.refl _ _).drew)).mono ?_
  rintro e w2 ⟨rfl, h2⟩
  have zx := HX.out.size
  have O2 := h2.only
  obtain ⟨q0, q1, q2, q3, qf⟩ := blk4 ((O2.block _ NX.out.lt (fun c => c K5.out.2.2)).trans NX.out)
  have N6b : Mem.Blk w2 (w.heap.size + 1 + 1) 64 #[.int .i64 0, .slice none 0 0, .slice none 0 0, .slice none 0 0] := (O2.block _ N6.out.lt (fun c => c K5.out.2.1)).trans N6.out
  obtain ⟨r0, r1, r2, r3, rf⟩ := blk4 N6b
  have HF := Lib.hid (Fin.of (w := w) (ks := ks) (T := T) (b2 := w.heap.size + 1 + 1) (w3 := ((((w2.setCell ⟨w.heap.size + 1 + 1, 0, none⟩ (.int .i64 rt1)).setCell ⟨w.heap.size + 1 + 1, 1, none⟩ (.slice AO1 nO1 cO1)).setCell ⟨w.heap.size + 1 + 1, 2, none⟩ (.slice AB1 nB1 cB1)).setCell ⟨w.heap.size + 1 + 1, 3, none⟩ (.slice AI1 nI1 cI1))) h2 (V1.out.own O2 (fun k _ ht c => c ⟨Nat.lt_of_lt_of_le ht.1 (by have := HZ.out; omega), ht.2.imp (H.out.sub k) (fun c => by omega)⟩)) (fun k _ ht => ⟨⟨Nat.lt_of_lt_of_le ht.1 (by have := HZ.out; omega), ht.2.imp (H.out.sub k) (fun c => by omega)⟩, by
    rcases ht.2 with c | c
    · have := H.out.lt k (H.out.sub k c)
      omega
    · omega, ht.2.imp id (fun c => by omega)⟩) ⟨K5.out.2.1, fun c => by have := H.out.lt _ c; omega⟩ (fun k hk => ⟨by have := H.out.lt k hk; have := HX.out.size; omega, .inl hk⟩) ((Ro.Only.of_below HX.out).trans O2 (fun k _ hn hk => hn ⟨by have := H.out.lt k hk; have := HX.out.size; omega, .inl hk⟩)) (by omega) (only4 _ _ _ _ _ _))
  have S2 : Ro.Only (fun k => ¬ Kp w X ks k ∨ k = w.heap.size + 1 + 1) X w2 := O2.mono (fun k _ c => .inl c)
  have S3 : Ro.Only (fun k => ¬ Kp w X ks k ∨ k = w.heap.size + 1 + 1) X ((((w2.setCell ⟨w.heap.size + 1 + 1, 0, none⟩ (.int .i64 rt1)).setCell ⟨w.heap.size + 1 + 1, 1, none⟩ (.slice AO1 nO1 cO1)).setCell ⟨w.heap.size + 1 + 1, 2, none⟩ (.slice AB1 nB1 cB1)).setCell ⟨w.heap.size + 1 + 1, 3, none⟩ (.slice AI1 nI1 cI1)) := S2.trans (only4 _ _ _ _ _ _) (fun k _ e => .inr e)
  clear O2 N6b h2 hP H1 V1 HX H L1 a0 a1 a2 a3 a4 a5 a6 a7
  refine ⟨_, rfl, S2, ?_⟩
  refine Reg.takes (n := 2) (by kernel_rfl) (fun _ _ d _ _ h => by cases d <;> exact h) S2 [8] _ _ (by kernel_rfl) ?_
  iterate 1 (refine Reg.det_step rfl (fun K' hK' => ?_); go_simp; (first | (refine hK' _ ?_; clear hK' K') | (apply Exists.intro; refine ⟨fun wx hwx => ?_, hK' _ ?_⟩; (first | rfl | (go_simp; first | done | rfl)); clear hK' K')))
  refine Reg.det_nil ?_
  refine Reg.one (i := 9) (n := 1) (by kernel_rfl) ?_
  refine Reg.skip rfl rfl (w' := ((((w2.setCell ⟨w.heap.size + 1 + 1, 0, none⟩ (.int .i64 rt1)).setCell ⟨w.heap.size + 1 + 1, 1, none⟩ (.slice AO1 nO1 cO1)).setCell ⟨w.heap.size + 1 + 1, 2, none⟩ (.slice AB1 nB1 cB1)).setCell ⟨w.heap.size + 1 + 1, 3, none⟩ (.slice AI1 nI1 cI1))) (by go_simp) S3 ?_
  refine Reg.takes (n := 0) (by kernel_rfl) (fun _ _ d _ _ h => by cases d <;> exact h) S3 [10] _ _ (by kernel_rfl) ?_
  iterate 1 (refine Reg.det_step rfl (fun K' hK' => ?_); go_simp; (first | (refine hK' _ ?_; clear hK' K') | (apply Exists.intro; refine ⟨fun wx hwx => ?_, hK' _ ?_⟩; (first | rfl | (go_simp; first | done | rfl)); clear hK' K')))
  refine Reg.det_nil ?_
  refine wpAnyH_done (by kernel_rfl) ?_ _
  go_wp2_with fail
  refine bodyPost_ret (v := .tuple #[.agg #[.int .i64 rt1, .slice AO1 nO1 cO1, .slice AB1 nB1 cB1, .slice AI1 nI1 cI1], .bool true]) (by simp [results, Try.results24, go_sem, r0, r1, r2, r3]) rfl ⟨_, rfl, HF.out⟩

set_option maxRecDepth 100000 in
set_option maxHeartbeats 4000000 in
theorem does_2 {w : World} {ks T : Nat → Prop} {g : Nat} {s : St} {v : Value} {k : Nat} {p : ActV} (h : Two w ks T g s v) (hs : Fine k s) (hk : k ≤ 999) (hp : p.ok) (hl : ActV.lies w w.heap.size p) (hw : p.welln ≤ 5000) (hu : p.usedn ≤ 5000) (hwk : ∀ ad, p.usedA = some ad → 0 < p.usedn → ks ad.block) (hd : p.d = 2) :
    Calls Try.prog 24 #[.pointer (some ⟨g, 0, none⟩), v, .agg p.arr] w fun e w' => ∃ v', e = .returned (.tuple #[v', .bool true]) ∧ Fin w ks T g (actS s (acOf p)) v' w' := by
  obtain ⟨d, well, wA, wn, wc, id, what, name, size, round, used, uA, un, uc⟩ := p
  dsimp only at hd hw hu hwk
  subst hd
  obtain ⟨rt, AO, nO, cO, AB, nB, cB, AI, nI, cI, rfl⟩ := h.rv.shape
  have hwq : (Lit.int .i64 what).wf = true := by have := hp.what; simpa [ActV.I64, Lit.wf, IntKind.min, IntKind.max, IntKind.signed, IntKind.bits] using this
  have hlw : Mem.Sl w w.heap.size 1 wA wn (well.map Value.bool) := hl.well
  have hlu : Mem.Sl w w.heap.size 1 uA un (used.map Value.string) := hl.used
  generalize hA : acOf ⟨2, well, wA, wn, wc, id, what, name, size, round, used, uA, un, uc⟩ = a
  have ha : a.d = 2 ∧ a.well = well ∧ a.id = id ∧ a.what = what ∧ a.name = name ∧ a.size = size ∧ a.round = round ∧ a.used = used := by subst hA; exact ⟨rfl, rfl, rfl, rfl, rfl, rfl, rfl, rfl⟩
  obtain ⟨hd, rfl, rfl, rfl, rfl, rfl, rfl, rfl⟩ := ha
  clear hA hp hl
  show Calls Try.prog _ #[.pointer (some ⟨g, 0, none⟩), .agg #[.int .i64 rt, .slice AO nO cO, .slice AB nB cB, .slice AI nI cI], .agg #[.int .i64 2, .slice wA wn wc, .string a.id, .int .i64 a.what, .string a.name, .int .i64 a.size, .int .i64 a.round, .slice uA un uc]] w _
  obtain ⟨L0, N4, N5, N6⟩ := three_blocks w #[.int .i64 rt, .slice AO nO cO, .slice AB nB cB, .slice AI nI cI] #[.int .i64 2, .slice wA wn wc, .string a.id, .int .i64 a.what, .string a.name, .int .i64 a.size, .int .i64 a.round, .slice uA un uc] #[.int .i64 0, .slice none 0 0, .slice none 0 0, .slice none 0 0] 64 69 64
  have z0 : w.heap.size + 3 = (((w.alloc (.cells #[.int .i64 rt, .slice AO nO cO, .slice AB nB cB, .slice AI nI cI] 64)).alloc (.cells #[.int .i64 2, .slice wA wn wc, .string a.id, .int .i64 a.what, .string a.name, .int .i64 a.size, .int .i64 a.round, .slice uA un uc] 69)).alloc (.cells #[.int .i64 0, .slice none 0 0, .slice none 0 0, .slice none 0 0] 64)).heap.size := by simp
  have L0 := Lib.hid L0
  have N4 := Lib.hid N4
  have N5 := Lib.hid N5
  have N6 := Lib.hid N6
  have hD := Lib.hid (fun (X : World) (hX : Below w.heap.size w X) => docAsk (a := a) (h.rv.below hX) hs hk hd)
  have hP := Lib.hid (fun (X u : World) (K : Nat → Prop) (hX : Below w.heap.size w u) (hH : Has X K u g s) => proAsk (a := a) hH hs hwq hd)
  have H := Lib.hid h
  generalize actS s a = s' at *
  generalize askB s a = B at *
  generalize askE s a.id a.what = E at *
  clear h hs hk hw hu hwk hwq hlw hlu hd
  go_enter Try.func24, Try.ntmps24
  go_wp2_with fail
  generalize (((w.alloc (.cells #[.int .i64 rt, .slice AO nO cO, .slice AB nB cB, .slice AI nI cI] 64)).alloc (.cells #[.int .i64 2, .slice wA wn wc, .string a.id, .int .i64 a.what, .string a.name, .int .i64 a.size, .int .i64 a.round, .slice uA un uc] 69)).alloc (.cells #[.int .i64 0, .slice none 0 0, .slice none 0 0, .slice none 0 0] 64)) = X0 at *
  refine (hD.out X0 L0.out).mono ?_
  rintro e w1 ⟨v1, rfl, hV, hb⟩
  obtain ⟨rt1, AO1, nO1, cO1, AB1, nB1, cB1, AI1, nI1, cI1, rfl⟩ := hV.shape
  have z1 := hb.size
  obtain ⟨a0, a1, a2, a3, a4, a5, a6, a7⟩ := blk8 (N5.out.below hb N5.out.lt)
  have L1 := Lib.hid (L0.out.trans (hb.mono L0.out.size))
  have N5 := Lib.hid (N5.out.below hb N5.out.lt)
  have N6 := Lib.hid (N6.out.below hb N6.out.lt)
  have l5 := N5.out.lt
  have l6 := N6.out.lt
  have zX0 : X0.heap.size ≤ (w1.alloc (.cells #[.int .i64 rt1, .slice AO1 nO1 cO1, .slice AB1 nB1 cB1, .slice AI1 nI1 cI1] 64)).heap.size := by simp; omega
  have HX := Lib.hid (L1.out.alloc L1.out.size (.cells #[.int .i64 rt1, .slice AO1 nO1 cO1, .slice AB1 nB1 cB1, .slice AI1 nI1 cI1] 64))
  have V1 := Lib.hid ((hV.mono (T' := fun k => k < w1.heap.size ∧ (T k ∨ X0.heap.size ≤ k)) (fun k hk ht => ⟨hk, ht⟩)).below ((Below.refl _ _).alloc (Nat.le_refl _) (.cells #[.int .i64 rt1, .slice AO1 nO1 cO1, .slice AB1 nB1 cB1, .slice AI1 nI1 cI1] 64)))
  have H1 := Lib.hid (H.out.kp HX.out)
  have NX : Hid (Mem.Blk (w1.alloc (.cells #[.int .i64 rt1, .slice AO1 nO1 cO1, .slice AB1 nB1 cB1, .slice AI1 nI1 cI1] 64)) w1.heap.size 64 #[.int .i64 rt1, .slice AO1 nO1 cO1, .slice AB1 nB1 cB1, .slice AI1 nI1 cI1]) := Lib.hid Mem.Blk.new
  have N5 := Lib.hid (N5.out.alloc (o := .cells #[.int .i64 rt1, .slice AO1 nO1 cO1, .slice AB1 nB1 cB1, .slice AI1 nI1 cI1] 64))
  have N6 := Lib.hid (N6.out.alloc (o := .cells #[.int .i64 rt1, .slice AO1 nO1 cO1, .slice AB1 nB1 cB1, .slice AI1 nI1 cI1] 64))
  have K5 : Hid (Kp w (w1.alloc (.cells #[.int .i64 rt1, .slice AO1 nO1 cO1, .slice AB1 nB1 cB1, .slice AI1 nI1 cI1] 64)) ks (w.heap.size + 1) ∧ Kp w (w1.alloc (.cells #[.int .i64 rt1, .slice AO1 nO1 cO1, .slice AB1 nB1 cB1, .slice AI1 nI1 cI1] 64)) ks (w.heap.size + 2) ∧ Kp w (w1.alloc (.cells #[.int .i64 rt1, .slice AO1 nO1 cO1, .slice AB1 nB1 cB1, .slice AI1 nI1 cI1] 64)) ks w1.heap.size) := ⟨⟨by simp; omega, .inr (by omega)⟩, ⟨by simp; omega, .inr (by omega)⟩, ⟨by simp, .inr (by omega)⟩⟩
  clear hD hb hV N4 L0
  obtain ⟨b0, b1, b2, b3, b4, b5, b6, b7⟩ := blk8 N5.out
  go_wp2_with fail
  refine (hP.out _ _ _ HX.out H1.out).mono ?_
  rintro e w2 ⟨rfl, h2⟩
  have O2 := h2.only
  obtain ⟨q0, q1, q2, q3, qf⟩ := blk4 ((O2.block _ NX.out.lt (fun c => c K5.out.2.2)).trans NX.out)
  have N6b : Mem.Blk w2 (w.heap.size + 1 + 1) 64 #[.int .i64 0, .slice none 0 0, .slice none 0 0, .slice none 0 0] := (O2.block _ N6.out.lt (fun c => c K5.out.2.1)).trans N6.out
  obtain ⟨r0, r1, r2, r3, rf⟩ := blk4 N6b
  have HF := Lib.hid (Fin.of (w := w) (ks := ks) (T := T) (b2 := w.heap.size + 1 + 1) (w3 := ((((w2.setCell ⟨w.heap.size + 1 + 1, 0, none⟩ (.int .i64 rt1)).setCell ⟨w.heap.size + 1 + 1, 1, none⟩ (.slice AO1 nO1 cO1)).setCell ⟨w.heap.size + 1 + 1, 2, none⟩ (.slice AB1 nB1 cB1)).setCell ⟨w.heap.size + 1 + 1, 3, none⟩ (.slice AI1 nI1 cI1))) h2 (V1.out.own O2 (fun k _ ht c => c ⟨by have := ht.1; exact Nat.lt_of_lt_of_le ht.1 (by simp), ht.2.imp (H.out.sub k) (fun c => by omega)⟩)) (fun k _ ht => ⟨⟨Nat.lt_of_lt_of_le ht.1 (by simp), ht.2.imp (H.out.sub k) (fun c => by omega)⟩, by
    rcases ht.2 with c | c
    · have := H.out.lt k (H.out.sub k c)
      omega
    · omega, ht.2.imp id (fun c => by omega)⟩) ⟨K5.out.2.1, fun c => by have := H.out.lt _ c; omega⟩ (fun k hk => ⟨by have := H.out.lt k hk; have := HX.out.size; omega, .inl hk⟩) ((Ro.Only.of_below HX.out).trans O2 (fun k _ hn hk => hn ⟨by have := H.out.lt k hk; have := HX.out.size; omega, .inl hk⟩)) (by omega) (only4 _ _ _ _ _ _))
  clear O2 N6b h2 hP H1 V1 HX H N5 N6 NX K5 L1 a0 a1 a2 a3 a4 a5 a6 a7 b0 b1 b2 b3 b4 b5 b6 b7
  go_wp2_with fail
  refine bodyPost_ret (v := .tuple #[.agg #[.int .i64 rt1, .slice AO1 nO1 cO1, .slice AB1 nB1 cB1, .slice AI1 nI1 cI1], .bool true]) (by simp [results, Try.results24, go_sem, r0, r1, r2, r3]) rfl ⟨_, rfl, HF.out⟩

set_option maxRecDepth 100000 in
set_option maxHeartbeats 4000000 in
theorem does_3 {w : World} {ks T : Nat → Prop} {g : Nat} {s : St} {v : Value} {k : Nat} {p : ActV} (h : Two w ks T g s v) (hs : Fine k s) (hk : k ≤ 999) (hp : p.ok) (hl : ActV.lies w w.heap.size p) (hw : p.welln ≤ 5000) (hu : p.usedn ≤ 5000) (hwk : ∀ ad, p.usedA = some ad → 0 < p.usedn → ks ad.block) (hd : p.d = 3) :
    Calls Try.prog 24 #[.pointer (some ⟨g, 0, none⟩), v, .agg p.arr] w fun e w' => ∃ v', e = .returned (.tuple #[v', .bool true]) ∧ Fin w ks T g (actS s (acOf p)) v' w' := by
  obtain ⟨d, well, wA, wn, wc, id, what, name, size, round, used, uA, un, uc⟩ := p
  dsimp only at hd hw hu hwk
  subst hd
  obtain ⟨rt, AO, nO, cO, AB, nB, cB, AI, nI, cI, rfl⟩ := h.rv.shape
  have hwq : (Lit.int .i64 what).wf = true := by have := hp.what; simpa [ActV.I64, Lit.wf, IntKind.min, IntKind.max, IntKind.signed, IntKind.bits] using this
  have hlw : Mem.Sl w w.heap.size 1 wA wn (well.map Value.bool) := hl.well
  have hlu : Mem.Sl w w.heap.size 1 uA un (used.map Value.string) := hl.used
  generalize hA : acOf ⟨3, well, wA, wn, wc, id, what, name, size, round, used, uA, un, uc⟩ = a
  have ha : a.d = 3 ∧ a.well = well ∧ a.id = id ∧ a.what = what ∧ a.name = name ∧ a.size = size ∧ a.round = round ∧ a.used = used := by subst hA; exact ⟨rfl, rfl, rfl, rfl, rfl, rfl, rfl, rfl⟩
  obtain ⟨hd, rfl, rfl, rfl, rfl, rfl, rfl, rfl⟩ := ha
  clear hA hp hl
  show Calls Try.prog _ #[.pointer (some ⟨g, 0, none⟩), .agg #[.int .i64 rt, .slice AO nO cO, .slice AB nB cB, .slice AI nI cI], .agg #[.int .i64 3, .slice wA wn wc, .string a.id, .int .i64 a.what, .string a.name, .int .i64 a.size, .int .i64 a.round, .slice uA un uc]] w _
  obtain ⟨L0, N4, N5, N6⟩ := three_blocks w #[.int .i64 rt, .slice AO nO cO, .slice AB nB cB, .slice AI nI cI] #[.int .i64 3, .slice wA wn wc, .string a.id, .int .i64 a.what, .string a.name, .int .i64 a.size, .int .i64 a.round, .slice uA un uc] #[.int .i64 0, .slice none 0 0, .slice none 0 0, .slice none 0 0] 64 69 64
  have z0 : w.heap.size + 3 = (((w.alloc (.cells #[.int .i64 rt, .slice AO nO cO, .slice AB nB cB, .slice AI nI cI] 64)).alloc (.cells #[.int .i64 3, .slice wA wn wc, .string a.id, .int .i64 a.what, .string a.name, .int .i64 a.size, .int .i64 a.round, .slice uA un uc] 69)).alloc (.cells #[.int .i64 0, .slice none 0 0, .slice none 0 0, .slice none 0 0] 64)).heap.size := by simp
  have L0 := Lib.hid L0
  have N4 := Lib.hid N4
  have N5 := Lib.hid N5
  have N6 := Lib.hid N6
  have hD := Lib.hid (fun (X : World) (hX : Below w.heap.size w X) => docPull (a := a) (h.rv.below hX) hs hk hd)
  have hP := Lib.hid (fun (X u : World) (K : Nat → Prop) (hX : Below w.heap.size w u) (hH : Has X K u g s) => proPull (a := a) hH hs hd)
  have H := Lib.hid h
  generalize actS s a = s' at *
  generalize pullB s a = B at *
  generalize pullC s a = C at *
  generalize errM s.bx a.id 1 = E at *
  clear h hs hk hw hu hwk hwq hlw hlu hd
  go_enter Try.func24, Try.ntmps24
  go_wp2_with fail
  generalize (((w.alloc (.cells #[.int .i64 rt, .slice AO nO cO, .slice AB nB cB, .slice AI nI cI] 64)).alloc (.cells #[.int .i64 3, .slice wA wn wc, .string a.id, .int .i64 a.what, .string a.name, .int .i64 a.size, .int .i64 a.round, .slice uA un uc] 69)).alloc (.cells #[.int .i64 0, .slice none 0 0, .slice none 0 0, .slice none 0 0] 64)) = X0 at *
  refine (hD.out X0 L0.out).mono ?_
  rintro e w1 ⟨v1, rfl, hV, hb⟩
  obtain ⟨rt1, AO1, nO1, cO1, AB1, nB1, cB1, AI1, nI1, cI1, rfl⟩ := hV.shape
  have z1 := hb.size
  obtain ⟨a0, a1, a2, a3, a4, a5, a6, a7⟩ := blk8 (N5.out.below hb N5.out.lt)
  have L1 := Lib.hid (L0.out.trans (hb.mono L0.out.size))
  have N5 := Lib.hid (N5.out.below hb N5.out.lt)
  have N6 := Lib.hid (N6.out.below hb N6.out.lt)
  have l5 := N5.out.lt
  have l6 := N6.out.lt
  have zX0 : X0.heap.size ≤ (w1.alloc (.cells #[.int .i64 rt1, .slice AO1 nO1 cO1, .slice AB1 nB1 cB1, .slice AI1 nI1 cI1] 64)).heap.size := by simp; omega
  have HX := Lib.hid (L1.out.alloc L1.out.size (.cells #[.int .i64 rt1, .slice AO1 nO1 cO1, .slice AB1 nB1 cB1, .slice AI1 nI1 cI1] 64))
  have V1 := Lib.hid ((hV.mono (T' := fun k => k < w1.heap.size ∧ (T k ∨ X0.heap.size ≤ k)) (fun k hk ht => ⟨hk, ht⟩)).below ((Below.refl _ _).alloc (Nat.le_refl _) (.cells #[.int .i64 rt1, .slice AO1 nO1 cO1, .slice AB1 nB1 cB1, .slice AI1 nI1 cI1] 64)))
  have H1 := Lib.hid (H.out.kp HX.out)
  have NX : Hid (Mem.Blk (w1.alloc (.cells #[.int .i64 rt1, .slice AO1 nO1 cO1, .slice AB1 nB1 cB1, .slice AI1 nI1 cI1] 64)) w1.heap.size 64 #[.int .i64 rt1, .slice AO1 nO1 cO1, .slice AB1 nB1 cB1, .slice AI1 nI1 cI1]) := Lib.hid Mem.Blk.new
  have N5 := Lib.hid (N5.out.alloc (o := .cells #[.int .i64 rt1, .slice AO1 nO1 cO1, .slice AB1 nB1 cB1, .slice AI1 nI1 cI1] 64))
  have N6 := Lib.hid (N6.out.alloc (o := .cells #[.int .i64 rt1, .slice AO1 nO1 cO1, .slice AB1 nB1 cB1, .slice AI1 nI1 cI1] 64))
  have K5 : Hid (Kp w (w1.alloc (.cells #[.int .i64 rt1, .slice AO1 nO1 cO1, .slice AB1 nB1 cB1, .slice AI1 nI1 cI1] 64)) ks (w.heap.size + 1) ∧ Kp w (w1.alloc (.cells #[.int .i64 rt1, .slice AO1 nO1 cO1, .slice AB1 nB1 cB1, .slice AI1 nI1 cI1] 64)) ks (w.heap.size + 2) ∧ Kp w (w1.alloc (.cells #[.int .i64 rt1, .slice AO1 nO1 cO1, .slice AB1 nB1 cB1, .slice AI1 nI1 cI1] 64)) ks w1.heap.size) := ⟨⟨by simp; omega, .inr (by omega)⟩, ⟨by simp; omega, .inr (by omega)⟩, ⟨by simp, .inr (by omega)⟩⟩
  clear hD hb hV N4 L0
  obtain ⟨b0, b1, b2, b3, b4, b5, b6, b7⟩ := blk8 N5.out
  go_wp2_with fail
  refine (hP.out _ _ _ HX.out H1.out).mono ?_
  rintro e w2 ⟨rfl, h2⟩
  have O2 := h2.only
  obtain ⟨q0, q1, q2, q3, qf⟩ := blk4 ((O2.block _ NX.out.lt (fun c => c K5.out.2.2)).trans NX.out)
  have N6b : Mem.Blk w2 (w.heap.size + 1 + 1) 64 #[.int .i64 0, .slice none 0 0, .slice none 0 0, .slice none 0 0] := (O2.block _ N6.out.lt (fun c => c K5.out.2.1)).trans N6.out
  obtain ⟨r0, r1, r2, r3, rf⟩ := blk4 N6b
  have HF := Lib.hid (Fin.of (w := w) (ks := ks) (T := T) (b2 := w.heap.size + 1 + 1) (w3 := ((((w2.setCell ⟨w.heap.size + 1 + 1, 0, none⟩ (.int .i64 rt1)).setCell ⟨w.heap.size + 1 + 1, 1, none⟩ (.slice AO1 nO1 cO1)).setCell ⟨w.heap.size + 1 + 1, 2, none⟩ (.slice AB1 nB1 cB1)).setCell ⟨w.heap.size + 1 + 1, 3, none⟩ (.slice AI1 nI1 cI1))) h2 (V1.out.own O2 (fun k _ ht c => c ⟨by have := ht.1; exact Nat.lt_of_lt_of_le ht.1 (by simp), ht.2.imp (H.out.sub k) (fun c => by omega)⟩)) (fun k _ ht => ⟨⟨Nat.lt_of_lt_of_le ht.1 (by simp), ht.2.imp (H.out.sub k) (fun c => by omega)⟩, by
    rcases ht.2 with c | c
    · have := H.out.lt k (H.out.sub k c)
      omega
    · omega, ht.2.imp id (fun c => by omega)⟩) ⟨K5.out.2.1, fun c => by have := H.out.lt _ c; omega⟩ (fun k hk => ⟨by have := H.out.lt k hk; have := HX.out.size; omega, .inl hk⟩) ((Ro.Only.of_below HX.out).trans O2 (fun k _ hn hk => hn ⟨by have := H.out.lt k hk; have := HX.out.size; omega, .inl hk⟩)) (by omega) (only4 _ _ _ _ _ _))
  clear O2 N6b h2 hP H1 V1 HX H N5 N6 NX K5 L1 a0 a1 a2 a3 a4 a5 a6 a7 b0 b1 b2 b3 b4 b5 b6 b7
  go_wp2_with fail
  refine bodyPost_ret (v := .tuple #[.agg #[.int .i64 rt1, .slice AO1 nO1 cO1, .slice AB1 nB1 cB1, .slice AI1 nI1 cI1], .bool true]) (by simp [results, Try.results24, go_sem, r0, r1, r2, r3]) rfl ⟨_, rfl, HF.out⟩

set_option maxRecDepth 100000 in
set_option maxHeartbeats 4000000 in
theorem does_4 {w : World} {ks T : Nat → Prop} {g : Nat} {s : St} {v : Value} {k : Nat} {p : ActV} (h : Two w ks T g s v) (hs : Fine k s) (hk : k ≤ 999) (hp : p.ok) (hl : ActV.lies w w.heap.size p) (hw : p.welln ≤ 5000) (hu : p.usedn ≤ 5000) (hwk : ∀ ad, p.usedA = some ad → 0 < p.usedn → ks ad.block) (hd : p.d = 4) :
    Calls Try.prog 24 #[.pointer (some ⟨g, 0, none⟩), v, .agg p.arr] w fun e w' => ∃ v', e = .returned (.tuple #[v', .bool true]) ∧ Fin w ks T g (actS s (acOf p)) v' w' := by
  obtain ⟨d, well, wA, wn, wc, id, what, name, size, round, used, uA, un, uc⟩ := p
  dsimp only at hd hw hu hwk
  subst hd
  obtain ⟨rt, AO, nO, cO, AB, nB, cB, AI, nI, cI, rfl⟩ := h.rv.shape
  have hwq : (Lit.int .i64 what).wf = true := by have := hp.what; simpa [ActV.I64, Lit.wf, IntKind.min, IntKind.max, IntKind.signed, IntKind.bits] using this
  have hlw : Mem.Sl w w.heap.size 1 wA wn (well.map Value.bool) := hl.well
  have hlu : Mem.Sl w w.heap.size 1 uA un (used.map Value.string) := hl.used
  generalize hA : acOf ⟨4, well, wA, wn, wc, id, what, name, size, round, used, uA, un, uc⟩ = a
  have ha : a.d = 4 ∧ a.well = well ∧ a.id = id ∧ a.what = what ∧ a.name = name ∧ a.size = size ∧ a.round = round ∧ a.used = used := by subst hA; exact ⟨rfl, rfl, rfl, rfl, rfl, rfl, rfl, rfl⟩
  obtain ⟨hd, rfl, rfl, rfl, rfl, rfl, rfl, rfl⟩ := ha
  clear hA hp hl
  show Calls Try.prog _ #[.pointer (some ⟨g, 0, none⟩), .agg #[.int .i64 rt, .slice AO nO cO, .slice AB nB cB, .slice AI nI cI], .agg #[.int .i64 4, .slice wA wn wc, .string a.id, .int .i64 a.what, .string a.name, .int .i64 a.size, .int .i64 a.round, .slice uA un uc]] w _
  obtain ⟨L0, N4, N5, N6⟩ := three_blocks w #[.int .i64 rt, .slice AO nO cO, .slice AB nB cB, .slice AI nI cI] #[.int .i64 4, .slice wA wn wc, .string a.id, .int .i64 a.what, .string a.name, .int .i64 a.size, .int .i64 a.round, .slice uA un uc] #[.int .i64 0, .slice none 0 0, .slice none 0 0, .slice none 0 0] 64 69 64
  have z0 : w.heap.size + 3 = (((w.alloc (.cells #[.int .i64 rt, .slice AO nO cO, .slice AB nB cB, .slice AI nI cI] 64)).alloc (.cells #[.int .i64 4, .slice wA wn wc, .string a.id, .int .i64 a.what, .string a.name, .int .i64 a.size, .int .i64 a.round, .slice uA un uc] 69)).alloc (.cells #[.int .i64 0, .slice none 0 0, .slice none 0 0, .slice none 0 0] 64)).heap.size := by simp
  have L0 := Lib.hid L0
  have N4 := Lib.hid N4
  have N5 := Lib.hid N5
  have N6 := Lib.hid N6
  have hD := Lib.hid (fun (X : World) (hX : Below w.heap.size w X) => docDrop (a := a) (h.rv.below hX) hs hk hd)
  have hP := Lib.hid (fun (X u : World) (K : Nat → Prop) (hX : Below w.heap.size w u) (hH : Has X K u g s) => proDrop (a := a) hH hs hd)
  have H := Lib.hid h
  generalize actS s a = s' at *
  generalize dropB s a = B at *
  generalize dropE s a = E at *
  clear h hs hk hw hu hwk hwq hlw hlu hd
  go_enter Try.func24, Try.ntmps24
  go_wp2_with fail
  generalize (((w.alloc (.cells #[.int .i64 rt, .slice AO nO cO, .slice AB nB cB, .slice AI nI cI] 64)).alloc (.cells #[.int .i64 4, .slice wA wn wc, .string a.id, .int .i64 a.what, .string a.name, .int .i64 a.size, .int .i64 a.round, .slice uA un uc] 69)).alloc (.cells #[.int .i64 0, .slice none 0 0, .slice none 0 0, .slice none 0 0] 64)) = X0 at *
  refine (hD.out X0 L0.out).mono ?_
  rintro e w1 ⟨v1, rfl, hV, hb⟩
  obtain ⟨rt1, AO1, nO1, cO1, AB1, nB1, cB1, AI1, nI1, cI1, rfl⟩ := hV.shape
  have z1 := hb.size
  obtain ⟨a0, a1, a2, a3, a4, a5, a6, a7⟩ := blk8 (N5.out.below hb N5.out.lt)
  have L1 := Lib.hid (L0.out.trans (hb.mono L0.out.size))
  have N5 := Lib.hid (N5.out.below hb N5.out.lt)
  have N6 := Lib.hid (N6.out.below hb N6.out.lt)
  have l5 := N5.out.lt
  have l6 := N6.out.lt
  have zX0 : X0.heap.size ≤ (w1.alloc (.cells #[.int .i64 rt1, .slice AO1 nO1 cO1, .slice AB1 nB1 cB1, .slice AI1 nI1 cI1] 64)).heap.size := by simp; omega
  have HX := Lib.hid (L1.out.alloc L1.out.size (.cells #[.int .i64 rt1, .slice AO1 nO1 cO1, .slice AB1 nB1 cB1, .slice AI1 nI1 cI1] 64))
  have V1 := Lib.hid ((hV.mono (T' := fun k => k < w1.heap.size ∧ (T k ∨ X0.heap.size ≤ k)) (fun k hk ht => ⟨hk, ht⟩)).below ((Below.refl _ _).alloc (Nat.le_refl _) (.cells #[.int .i64 rt1, .slice AO1 nO1 cO1, .slice AB1 nB1 cB1, .slice AI1 nI1 cI1] 64)))
  have H1 := Lib.hid (H.out.kp HX.out)
  have NX : Hid (Mem.Blk (w1.alloc (.cells #[.int .i64 rt1, .slice AO1 nO1 cO1, .slice AB1 nB1 cB1, .slice AI1 nI1 cI1] 64)) w1.heap.size 64 #[.int .i64 rt1, .slice AO1 nO1 cO1, .slice AB1 nB1 cB1, .slice AI1 nI1 cI1]) := Lib.hid Mem.Blk.new
  have N5 := Lib.hid (N5.out.alloc (o := .cells #[.int .i64 rt1, .slice AO1 nO1 cO1, .slice AB1 nB1 cB1, .slice AI1 nI1 cI1] 64))
  have N6 := Lib.hid (N6.out.alloc (o := .cells #[.int .i64 rt1, .slice AO1 nO1 cO1, .slice AB1 nB1 cB1, .slice AI1 nI1 cI1] 64))
  have K5 : Hid (Kp w (w1.alloc (.cells #[.int .i64 rt1, .slice AO1 nO1 cO1, .slice AB1 nB1 cB1, .slice AI1 nI1 cI1] 64)) ks (w.heap.size + 1) ∧ Kp w (w1.alloc (.cells #[.int .i64 rt1, .slice AO1 nO1 cO1, .slice AB1 nB1 cB1, .slice AI1 nI1 cI1] 64)) ks (w.heap.size + 2) ∧ Kp w (w1.alloc (.cells #[.int .i64 rt1, .slice AO1 nO1 cO1, .slice AB1 nB1 cB1, .slice AI1 nI1 cI1] 64)) ks w1.heap.size) := ⟨⟨by simp; omega, .inr (by omega)⟩, ⟨by simp; omega, .inr (by omega)⟩, ⟨by simp, .inr (by omega)⟩⟩
  clear hD hb hV N4 L0
  obtain ⟨b0, b1, b2, b3, b4, b5, b6, b7⟩ := blk8 N5.out
  go_wp2_with fail
  refine (hP.out _ _ _ HX.out H1.out).mono ?_
  rintro e w2 ⟨rfl, h2⟩
  have O2 := h2.only
  obtain ⟨q0, q1, q2, q3, qf⟩ := blk4 ((O2.block _ NX.out.lt (fun c => c K5.out.2.2)).trans NX.out)
  have N6b : Mem.Blk w2 (w.heap.size + 1 + 1) 64 #[.int .i64 0, .slice none 0 0, .slice none 0 0, .slice none 0 0] := (O2.block _ N6.out.lt (fun c => c K5.out.2.1)).trans N6.out
  obtain ⟨r0, r1, r2, r3, rf⟩ := blk4 N6b
  have HF := Lib.hid (Fin.of (w := w) (ks := ks) (T := T) (b2 := w.heap.size + 1 + 1) (w3 := ((((w2.setCell ⟨w.heap.size + 1 + 1, 0, none⟩ (.int .i64 rt1)).setCell ⟨w.heap.size + 1 + 1, 1, none⟩ (.slice AO1 nO1 cO1)).setCell ⟨w.heap.size + 1 + 1, 2, none⟩ (.slice AB1 nB1 cB1)).setCell ⟨w.heap.size + 1 + 1, 3, none⟩ (.slice AI1 nI1 cI1))) h2 (V1.out.own O2 (fun k _ ht c => c ⟨by have := ht.1; exact Nat.lt_of_lt_of_le ht.1 (by simp), ht.2.imp (H.out.sub k) (fun c => by omega)⟩)) (fun k _ ht => ⟨⟨Nat.lt_of_lt_of_le ht.1 (by simp), ht.2.imp (H.out.sub k) (fun c => by omega)⟩, by
    rcases ht.2 with c | c
    · have := H.out.lt k (H.out.sub k c)
      omega
    · omega, ht.2.imp id (fun c => by omega)⟩) ⟨K5.out.2.1, fun c => by have := H.out.lt _ c; omega⟩ (fun k hk => ⟨by have := H.out.lt k hk; have := HX.out.size; omega, .inl hk⟩) ((Ro.Only.of_below HX.out).trans O2 (fun k _ hn hk => hn ⟨by have := H.out.lt k hk; have := HX.out.size; omega, .inl hk⟩)) (by omega) (only4 _ _ _ _ _ _))
  clear O2 N6b h2 hP H1 V1 HX H N5 N6 NX K5 L1 a0 a1 a2 a3 a4 a5 a6 a7 b0 b1 b2 b3 b4 b5 b6 b7
  go_wp2_with fail
  refine bodyPost_ret (v := .tuple #[.agg #[.int .i64 rt1, .slice AO1 nO1 cO1, .slice AB1 nB1 cB1, .slice AI1 nI1 cI1], .bool true]) (by simp [results, Try.results24, go_sem, r0, r1, r2, r3]) rfl ⟨_, rfl, HF.out⟩

set_option maxRecDepth 100000 in
set_option maxHeartbeats 4000000 in
theorem does_5 {w : World} {ks T : Nat → Prop} {g : Nat} {s : St} {v : Value} {k : Nat} {p : ActV} (h : Two w ks T g s v) (hs : Fine k s) (hk : k ≤ 999) (hp : p.ok) (hl : ActV.lies w w.heap.size p) (hw : p.welln ≤ 5000) (hu : p.usedn ≤ 5000) (hwk : ∀ ad, p.usedA = some ad → 0 < p.usedn → ks ad.block) (hd : p.d ≠ 0 ∧ p.d ≠ 1 ∧ p.d ≠ 2 ∧ p.d ≠ 3 ∧ p.d ≠ 4) :
    Calls Try.prog 24 #[.pointer (some ⟨g, 0, none⟩), v, .agg p.arr] w fun e w' => ∃ v', e = .returned (.tuple #[v', .bool true]) ∧ Fin w ks T g (actS s (acOf p)) v' w' := by
  obtain ⟨d, well, wA, wn, wc, id, what, name, size, round, used, uA, un, uc⟩ := p
  dsimp only at hd hw hu hwk
  
  obtain ⟨rt, AO, nO, cO, AB, nB, cB, AI, nI, cI, rfl⟩ := h.rv.shape
  have hwq : (Lit.int .i64 what).wf = true := by have := hp.what; simpa [ActV.I64, Lit.wf, IntKind.min, IntKind.max, IntKind.signed, IntKind.bits] using this
  have hlw : Mem.Sl w w.heap.size 1 wA wn (well.map Value.bool) := hl.well
  have hlu : Mem.Sl w w.heap.size 1 uA un (used.map Value.string) := hl.used
  generalize hA : acOf ⟨d, well, wA, wn, wc, id, what, name, size, round, used, uA, un, uc⟩ = a
  have ha : a.d = d ∧ a.well = well ∧ a.id = id ∧ a.what = what ∧ a.name = name ∧ a.size = size ∧ a.round = round ∧ a.used = used := by subst hA; exact ⟨rfl, rfl, rfl, rfl, rfl, rfl, rfl, rfl⟩
  obtain ⟨hda, rfl, rfl, rfl, rfl, rfl, rfl, rfl⟩ := ha
  clear hA hp hl
  show Calls Try.prog _ #[.pointer (some ⟨g, 0, none⟩), .agg #[.int .i64 rt, .slice AO nO cO, .slice AB nB cB, .slice AI nI cI], .agg #[.int .i64 d, .slice wA wn wc, .string a.id, .int .i64 a.what, .string a.name, .int .i64 a.size, .int .i64 a.round, .slice uA un uc]] w _
  obtain ⟨L0, N4, N5, N6⟩ := three_blocks w #[.int .i64 rt, .slice AO nO cO, .slice AB nB cB, .slice AI nI cI] #[.int .i64 d, .slice wA wn wc, .string a.id, .int .i64 a.what, .string a.name, .int .i64 a.size, .int .i64 a.round, .slice uA un uc] #[.int .i64 0, .slice none 0 0, .slice none 0 0, .slice none 0 0] 64 69 64
  have z0 : w.heap.size + 3 = (((w.alloc (.cells #[.int .i64 rt, .slice AO nO cO, .slice AB nB cB, .slice AI nI cI] 64)).alloc (.cells #[.int .i64 d, .slice wA wn wc, .string a.id, .int .i64 a.what, .string a.name, .int .i64 a.size, .int .i64 a.round, .slice uA un uc] 69)).alloc (.cells #[.int .i64 0, .slice none 0 0, .slice none 0 0, .slice none 0 0] 64)).heap.size := by simp
  have L0 := Lib.hid L0
  have N4 := Lib.hid N4
  have N5 := Lib.hid N5
  have N6 := Lib.hid N6
  obtain ⟨d0, d1, d2, d3, d4⟩ := hd
  have hdd : isTouch a := ⟨by rw [hda]; exact d0, by rw [hda]; exact d1, by rw [hda]; exact d2, by rw [hda]; exact d3, by rw [hda]; exact d4⟩
  have hP := Lib.hid (fun (X u : World) (K : Nat → Prop) (hX : Below w.heap.size w u) (hH : Has X K u g s) => proTouch (a := a) (d := uc) hH hs ((hlu.below hX).more hX.size) (by omega) hdd)
  have hD := Lib.hid (fun (u : World) (hR : RV u T (.agg #[.int .i64 rt, .slice AO nO cO, .slice AB nB cB, .slice AI nI cI]) s) (hS : Strs u u.heap.size uA un a.used) => docTouch (a := a) (d := uc) hR hs hk hS (by omega) hdd)
  have H := Lib.hid h
  have HU := Lib.hid hlu
  have HW := Lib.hid hwk
  have e0 : (d == 0) = false := beq_eq_false_iff_ne.2 d0
  have e1 : (d == 1) = false := beq_eq_false_iff_ne.2 d1
  have e2 : (d == 2) = false := beq_eq_false_iff_ne.2 d2
  have e3 : (d == 3) = false := beq_eq_false_iff_ne.2 d3
  have e4 : (d == 4) = false := beq_eq_false_iff_ne.2 d4
  generalize actS s a = s' at *
  clear h hs hk hw hu hwk hwq hlw hlu hda hdd d0 d1 d2 d3 d4
  go_enter Try.func24, Try.ntmps24
  go_wp2_with fail
  have l4 := N4.out.lt
  have l5 := N5.out.lt
  have l6 := N6.out.lt
  generalize (((w.alloc (.cells #[.int .i64 rt, .slice AO nO cO, .slice AB nB cB, .slice AI nI cI] 64)).alloc (.cells #[.int .i64 d, .slice wA wn wc, .string a.id, .int .i64 a.what, .string a.name, .int .i64 a.size, .int .i64 a.round, .slice uA un uc] 69)).alloc (.cells #[.int .i64 0, .slice none 0 0, .slice none 0 0, .slice none 0 0] 64)) = X at *
  refine (hP.out X X _ L0.out (H.out.kp L0.out)).mono ?_
  rintro e w1 ⟨rfl, h2⟩
  have O2 := h2.only
  have z1 := O2.size
  obtain ⟨q0, q1, q2, q3, qf⟩ := blk4 ((O2.block _ l4 (fun c => c ⟨l4, .inr (by omega)⟩)).trans N4.out)
  obtain ⟨b0, b1, b2, b3, b4, b5, b6, b7⟩ := blk8 ((O2.block _ l5 (fun c => c ⟨l5, .inr (by omega)⟩)).trans N5.out)
  have N6 : Hid (Mem.Blk w1 (w.heap.size + 1 + 1) 64 #[.int .i64 0, .slice none 0 0, .slice none 0 0, .slice none 0 0]) := Lib.hid ((O2.block _ l6 (fun c => c ⟨l6, .inr (by omega)⟩)).trans N6.out)
  have ho : Hid (∀ k, ks k → Kp w X ks k) := Lib.hid (fun k hk => ⟨by have := H.out.lt k hk; have := L0.out.size; omega, .inl hk⟩)
  have R1 := Lib.hid ((H.out.rv.below L0.out).own O2 (fun k _ ht c => c (ho.out k (H.out.sub k ht))))
  have U1 : Hid (Strs w1 w1.heap.size uA un a.used) := Lib.hid ((sl_only (HU.out.below L0.out) O2 L0.out.size (fun ad e hn c => c (ho.out _ (HW.out ad e hn)))).more (by have := L0.out.size; omega))
  have LO : Hid (Ro.Only (fun k => ¬ ks k) w w1) := Lib.hid ((Ro.Only.of_below L0.out).trans O2 (fun k _ hn hk => hn (ho.out k hk)))
  have H2 := Lib.hid h2
  clear h2 O2 hP HU HW L0 N4 N5
  go_wp2_with fail
  refine (hD.out w1 R1.out U1.out).mono ?_
  rintro e w2 ⟨v1, rfl, hV, hb⟩
  obtain ⟨rt1, AO1, nO1, cO1, AB1, nB1, cB1, AI1, nI1, cI1, rfl⟩ := hV.shape
  have z2 := hb.size
  obtain ⟨r0, r1, r2, r3, rf⟩ := blk4 (N6.out.below hb N6.out.lt)
  have l6' := N6.out.lt
  have HF := Lib.hid (Fin.of (w := w) (ks := ks) (T := T) (b2 := w.heap.size + 1 + 1) (w3 := ((((w2.setCell ⟨w.heap.size + 1 + 1, 0, none⟩ (.int .i64 rt1)).setCell ⟨w.heap.size + 1 + 1, 1, none⟩ (.slice AO1 nO1 cO1)).setCell ⟨w.heap.size + 1 + 1, 2, none⟩ (.slice AB1 nB1 cB1)).setCell ⟨w.heap.size + 1 + 1, 3, none⟩ (.slice AI1 nI1 cI1)))
    (K2 := fun k => k < w2.heap.size ∧ (Kp w X ks k ∨ w1.heap.size ≤ k)) (H2.out.rebase hb (fun k hk => hk)) hV (fun k hk ht => ⟨⟨hk, ht.imp (fun c => ho.out k (H.out.sub k c)) id⟩, by
      rcases ht with c | c
      · have := H.out.lt k (H.out.sub k c)
        omega
      · omega, ht.imp id (fun c => by have := LO.out.size; omega)⟩) ⟨⟨by omega, .inl ⟨l6, .inr (by omega)⟩⟩, fun c => by have := H.out.lt _ c; omega⟩ (fun k hk => ⟨by have := (ho.out k hk).1; omega, .inl (ho.out k hk)⟩) (LO.out.trans (Ro.Only.of_below hb) (T := fun _ => False) (fun _ _ c => c.elim)) (by omega) (only4 _ _ _ _ _ _))
  clear hD hb hV H2 LO R1 U1 N6 H ho q0 q1 q2 q3 qf b0 b1 b2 b3 b4 b5 b6 b7
  go_wp2_with fail
  refine bodyPost_ret (v := .tuple #[.agg #[.int .i64 rt1, .slice AO1 nO1 cO1, .slice AB1 nB1 cB1, .slice AI1 nI1 cI1], .bool true]) (by simp [results, Try.results24, go_sem, r0, r1, r2, r3]) rfl ⟨_, rfl, HF.out⟩
end Wo
end Go.Proofs.Ythccojfflmfggaa
