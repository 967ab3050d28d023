/- The walk of layer 10 (disk): something is done to files. -/
import Derived.Test.YtnaidihoijociaaDkA
namespace Go.Proofs.Ytnaidihoijociaa
open Go.RowKit Go.Maps
namespace Dk
open Bs
open Crc (Byte)
section
variable {P : Program} {w w' : World} {ops : Array Oper} {rest : List Oper} {o : Oper} {a : Act} {Q : Exit → Act → World → Prop}
/-- a store into a map whose run is known -/
theorem wpList_upd (hg : o.guard = none) {m x v : Operand} {t : TypeId} (hop : o.op = Op.mapUpdate t m x v) {M K V : Value} (hm : a.eval m = M) (hx : a.eval x = K) (hv : a.eval v = V) (hrun : (Instr.mapUpdate t M K V).run P w = .ok () w')
    (h : wpList P ops Q rest (a.put o.dst undef) w') : wpList P ops Q (o :: rest) a w := by
  refine wpList_plain hg fun K' hK' => ?_
  unfold Oper.wp
  simp [execOp, hop, hm, hx, hv, hrun, Result.andThen]
  exact hK' _ _ h
theorem wpList_look (hg : o.guard = none) {m x : Operand} {t : TypeId} (hop : o.op = Op.lookup t m x true) {M K V : Value} (hm : a.eval m = M) (hx : a.eval x = K) (hrun : (Instr.lookup t M K true).run P w = .ok V w)
    (h : wpList P ops Q rest (a.put o.dst V) w) : wpList P ops Q (o :: rest) a w := by
  refine wpList_plain hg fun K' hK' => ?_
  unfold Oper.wp
  simp [execOp, hop, hm, hx, hrun, Result.andThen]
  exact hK' _ _ h
theorem wpList_del (hg : o.guard = none) {m x : Operand} {t k : TypeId} (hop : o.op = Op.call { callee := Callee.builtin Builtin.delete, args := #[m, x], argTypes := #[t, k] }) {M K V : Value} (hm : a.eval m = M) (hx : a.eval x = K) (hrun : (Builtin.delete_ #[t, k] o.type #[M, K]).run P w = .ok V w')
    (h : wpList P ops Q rest (a.put o.dst V) w') : wpList P ops Q (o :: rest) a w := by
  refine wpList_plain hg fun K' hK' => ?_
  unfold Oper.wp
  simp [execOp, hop, resolve, invoke, builtin, hm, hx, hrun, Result.andThen]
  exact hK' _ _ h
end
set_option maxRecDepth 100000 in
set_option maxHeartbeats 4000000 in
theorem apply_c {w : World} {C : Nat → Prop} {b : Nat} {l : Files} {kind : Int} {name nto : ByteArray} {A : Option Addr} {n c : Nat} {bs : List Byte} (h : Mp w C b l) (hb : ¬ C b) (ho : Hold w C A n c bs) (h1 : name.size ≤ maxLen) (h2 : nto.size ≤ maxLen) (hl : l.length ≤ 10000) (hn : n ≤ 100000) :
    Calls Try.prog 43 #[.map (some b), .agg #[.int .i64 kind, .string name, .string nto, .slice A n c]] w fun e w' => e = .returned (.tuple #[]) ∧ Mp w' (OpN w C w') b (app1 l ⟨kind, name, nto, bs⟩) ∧ Ro.Only (fun k => k = b) w w' := by
  have hal : Below w.heap.size w (w.alloc (.cells #[.int .i64 kind, .string name, .string nto, .slice A n c] 29)) := (Below.refl _ _).alloc (Nat.le_refl _) _
  have hblt := h.lt
  have N0 := Lib.hid (Mem.Blk.new (w := w) (t := 29) (cs := #[.int .i64 kind, .string name, .string nto, .slice A n c]))
  have HM := Lib.hid (h.below hal)
  have HH := Lib.hid (ho.below hal)
  have HA := Lib.hid hal
  have hz : (w.alloc (.cells #[.int .i64 kind, .string name, .string nto, .slice A n c] 29)).heap.size = w.heap.size + 1 := by simp
  have HZ := Lib.hid hz
  -- what the end asks
  have HE : Hid (∀ (u : World) (l' : Files), Mp u (fun k => C k ∨ w.heap.size ≤ k) b l' → Ro.Only (fun k => k = b) w u → Mp u (OpN w C u) b l') := fun u l' hm hu =>
    hm.mono fun k hk c => c.imp id fun c => ⟨c, hk⟩
  have hC2 : Hid (¬ (fun k => C k ∨ w.heap.size ≤ k) b) := Lib.hid (by
    rintro (e | e)
    · exact hb e
    · omega)
  by_cases k1 : kind = 1
  · subst k1
    have e1 : app1 l ⟨1, name, nto, bs⟩ = fput l (key name) bs := by unfold app1; rw [if_pos rfl]
    rw [e1]
    clear h ho hal e1 hz
    go_enter Try.func43, Try.ntmps43
    go_wp2_with fail
    generalize w.alloc (.cells #[.int .i64 1, .string name, .string nto, .slice A n c] 29) = X at *
    refine Reg.start (S := fun w' => Ro.Only (fun k => k = b) X w') (by kernel_rfl) ?_
    refine Reg.takes (n := 2) (by kernel_rfl) (fun _ _ d _ _ h => by cases d <;> exact h) (Ro.Only.refl _ _).drew [0, 1, 2, 3, 4] _ _ (by kernel_rfl) ?_
    iterate 5 (refine Reg.det_step rfl (fun K' hK' => ?_); go_simp; (first | (refine hK' _ ?_; clear hK' K') | (apply Exists.intro; refine ⟨fun wx hwx => ?_, hK' _ ?_⟩; (first | rfl | (obtain ⟨i0, i1, i2, i3⟩ := And.intro (Mem.Blk.cell (((hwx.block _ N0.out.lt (by omega)).trans N0.out : Mem.Blk wx w.heap.size 29 _)) 0) (And.intro (Mem.Blk.cell (((hwx.block _ N0.out.lt (by omega)).trans N0.out : Mem.Blk wx w.heap.size 29 _)) 1) (And.intro (Mem.Blk.cell (((hwx.block _ N0.out.lt (by omega)).trans N0.out : Mem.Blk wx w.heap.size 29 _)) 2) (Mem.Blk.cell (((hwx.block _ N0.out.lt (by omega)).trans N0.out : Mem.Blk wx w.heap.size 29 _)) 3))); go_simp; first | done | rfl)); clear hK' K')))
    refine Reg.det_nil ?_
    refine Reg.one (i := 5) (n := 1) (by kernel_rfl) ?_
    refine Reg.call rfl rfl (by go_simp; exact ⟨rfl, rfl⟩) ?_
    refine (clone_c (HH.out.below (Below.refl _ _).drew) (by omega)).mono ?_
    rintro e w1 ⟨A', c', rfl, hR, hb1, hf⟩
    have hS1 : Ro.Only (fun k => k = b) X w1 := Ro.Only.of_below ((Below.refl _ _).drew.trans hb1)
    have hz1 : X.heap.size ≤ w1.heap.size := hS1.size
    refine ⟨_, rfl, hS1, ?_⟩
    obtain ⟨w2, hr3, hm2, ho2⟩ := ((HM.out.below (Below.refl _ _).drew).below hb1 |>.mono (C' := fun k => C k ∨ w.heap.size ≤ k) (fun k _ c => .inl c)).put hC2.out h1 (Hold.of_row hR (fun k hk => .inr (by have h1 := hf k hk; have h2 : X.heap.size ≤ k := h1; have := HZ.out; omega))) (by omega)
    have hS2 := hS1.trans ho2 (fun _ _ e => e)
    have HO := Lib.hid ((Ro.Only.of_below (S := fun k => k = b) HA.out).trans hS2 (fun _ _ e => e))
    have HF := Lib.hid (HE.out w2 _ hm2 HO.out)
    clear hR hb1 hf hm2 ho2 HM HH N0 HA HE hC2
    refine Reg.one (i := 6) (n := 0) (by kernel_rfl) ?_
    refine Reg.skip rfl rfl (w' := w2) (by go_simp) hS2 ?_
    refine wpAnyH_done (by kernel_rfl) ?_ _
    go_wp2_with fail
    exact bodyPost_end (results_none rfl _ _ _) rfl ⟨rfl, HF.out, HO.out⟩
  · have e1 : (kind == 1) = false := beq_eq_false_iff_ne.2 k1
    by_cases k3 : kind = 3
    · subst k3
      have e2 : app1 l ⟨3, name, nto, bs⟩ = fdel l (key name) := by unfold app1; rw [if_neg (show ¬ (3 : Int) = 1 by decide), if_pos rfl]
      rw [e2]
      obtain ⟨w1, hr, hm1, ho1⟩ := HM.out.del hb h1 0
      have HF := Lib.hid (HE.out w1 _ (hm1.mono fun k _ c => .inl c) ((Ro.Only.of_below HA.out).trans ho1 (fun _ _ e => e)))
      have HO := Lib.hid ((Ro.Only.of_below (S := fun k => k = b) HA.out).trans ho1 (fun _ _ e => e))
      clear h ho hal e1 e2 hz hm1 ho1 HM HH N0 HA HZ HE hC2
      go_enter Try.func43, Try.ntmps43
      go_wp2_with (first | (at_delete; refine wpList_del rfl rfl rfl rfl hr ?_))
      exact bodyPost_end (results_none rfl _ _ _) rfl ⟨rfl, HF.out, HO.out⟩
    · have e3 : (kind == 3) = false := beq_eq_false_iff_ne.2 k3
      by_cases k2 : kind = 2
      · subst k2
        obtain ⟨A1, n1, c1, hr, hh1⟩ := HM.out.look h1
        cases hg : fget l (key name) with
        | none =>
          have e4 : app1 l ⟨2, name, nto, bs⟩ = l := by unfold app1; rw [if_neg (show ¬ (2 : Int) = 1 by decide), if_neg (show ¬ (2 : Int) = 3 by decide), if_pos rfl]; dsimp only; rw [hg]
          rw [e4]
          have hr : (Instr.lookup 72 (.map (some b)) (.string name) true).run Try.prog (w.alloc (.cells #[.int .i64 2, .string name, .string nto, .slice A n c] 29)) = .ok (.tuple #[.slice A1 n1 c1, .bool false]) (w.alloc (.cells #[.int .i64 2, .string name, .string nto, .slice A n c] 29)) := by rw [hr]; show _ = _; rw [show fget l name.data.toList = none from hg]; rfl
          have HF := Lib.hid (HE.out _ _ (HM.out.mono fun k _ c => .inl c) (Ro.Only.of_below HA.out))
          have HO := Lib.hid (Ro.Only.of_below (S := fun k => k = b) HA.out)
          clear h ho hal e1 e3 e4 hz HM HH N0 HA HZ HE hC2 hh1 hg
          go_enter Try.func43, Try.ntmps43
          go_wp2_with (first | (at_lookup; refine wpList_look rfl rfl rfl rfl hr ?_))
          exact bodyPost_end (results_none rfl _ _ _) rfl ⟨rfl, HF.out, HO.out⟩
        | some bs1 =>
          have e4 : app1 l ⟨2, name, nto, bs⟩ = fput (fdel l (key name)) (key nto) bs1 := by unfold app1; rw [if_neg (show ¬ (2 : Int) = 1 by decide), if_neg (show ¬ (2 : Int) = 3 by decide), if_pos rfl]; dsimp only; rw [hg]
          rw [e4]
          have hr : (Instr.lookup 72 (.map (some b)) (.string name) true).run Try.prog (w.alloc (.cells #[.int .i64 2, .string name, .string nto, .slice A n c] 29)) = .ok (.tuple #[.slice A1 n1 c1, .bool true]) (w.alloc (.cells #[.int .i64 2, .string name, .string nto, .slice A n c] 29)) := by rw [hr]; show _ = _; rw [show fget l name.data.toList = some bs1 from hg]; rfl
          have hh1 : Hold (w.alloc (.cells #[.int .i64 2, .string name, .string nto, .slice A n c] 29)) C A1 n1 c1 bs1 := by rw [show fget l name.data.toList = some bs1 from hg] at hh1; exact hh1
          obtain ⟨w1, hr2, hm1, ho1⟩ := HM.out.del hb h1 0
          have hh2 := hh1.keep ho1.size (fun k hk hc => ho1.block k hk (fun e => hb (by rw [← e]; exact hc)))
          obtain ⟨w2, hr3, hm2, ho2⟩ := hm1.put hb h2 hh2 (by have := len_del l (key name); show (fdel l name.data.toList).length ≤ 100000; unfold key at this; omega)
          have N1 := (ho1.block w.heap.size N0.out.lt (by omega)).trans N0.out
          obtain ⟨x0, x1, x2, x3⟩ := And.intro (Mem.Blk.cell (w := w1) N1 0) (And.intro (Mem.Blk.cell (w := w1) N1 1) (And.intro (Mem.Blk.cell (w := w1) N1 2) (Mem.Blk.cell (w := w1) N1 3)))
          have HO := Lib.hid (((Ro.Only.of_below (S := fun k => k = b) HA.out).trans ho1 (fun _ _ e => e)).trans ho2 (fun _ _ e => e))
          have HF := Lib.hid (HE.out w2 _ (hm2.mono fun k _ c => .inl c) HO.out)
          clear h ho hal e1 e3 e4 hz HM HH N0 HA HZ HE hC2 hh1 hg hm1 ho1 hh2 hm2 ho2 N1
          go_enter Try.func43, Try.ntmps43
          go_wp2_with (first | (at_lookup; refine wpList_look rfl rfl rfl rfl hr ?_) | (at_delete; refine wpList_del rfl rfl rfl rfl hr2 ?_) | (at_mapUpdate; refine wpList_upd rfl rfl rfl rfl rfl hr3 ?_))
          exact bodyPost_end (results_none rfl _ _ _) rfl ⟨rfl, HF.out, HO.out⟩
      · have e2 : (kind == 2) = false := beq_eq_false_iff_ne.2 k2
        have e4 : app1 l ⟨kind, name, nto, bs⟩ = l := by unfold app1; rw [if_neg k1, if_neg k3, if_neg k2]
        rw [e4]
        have HF := Lib.hid (HE.out _ _ (HM.out.mono fun k _ c => .inl c) (Ro.Only.of_below HA.out))
        have HO := Lib.hid (Ro.Only.of_below (S := fun k => k = b) HA.out)
        clear h ho hal e4 hz HM HH N0 HA HZ HE hC2 k1 k2 k3
        go_enter Try.func43, Try.ntmps43
        go_wp2_with fail
        exact bodyPost_end (results_none rfl _ _ _) rfl ⟨rfl, HF.out, HO.out⟩
end Dk
end Go.Proofs.Ytnaidihoijociaa
