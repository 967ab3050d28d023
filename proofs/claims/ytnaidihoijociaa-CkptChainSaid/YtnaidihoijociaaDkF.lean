/- Layer 10 (disk): the walk of do. -/
import Derived.Test.YtnaidihoijociaaDkE
namespace Go.Proofs.Ytnaidihoijociaa
open Go.RowKit Go.Maps
namespace Dk
open Bs
open Crc (Byte)
/-- may something be done? -/
def right (o : OpA) : Bool := decide (1 ≤ o.kind ∧ o.kind ≤ 3 ∧ 1 ≤ o.name.size ∧ o.name.size ≤ 32 ∧ (o.kind = 2 → 1 ≤ o.nto.size ∧ o.nto.size ≤ 32))
theorem named_c (s : ByteArray) (w : World) (hs : s.size ≤ maxLen) : Calls Try.prog 38 #[.string s] w fun e w' => e = .returned (.bool (decide (1 ≤ s.size ∧ s.size ≤ 32))) ∧ w' = w := by
  unfold maxLen at hs
  by_cases h1 : 1 ≤ s.size
  · by_cases h2 : s.size ≤ 32
    · rw [show decide (1 ≤ s.size ∧ s.size ≤ 32) = true from by simp [h1, h2]]
      go_enter Try.func38, Try.ntmps38
      go_wp2_with fail
      go_ret
      exact ⟨by first | rfl | (simp; omega), rfl⟩
    · rw [show decide (1 ≤ s.size ∧ s.size ≤ 32) = false from by simp; omega]
      go_enter Try.func38, Try.ntmps38
      go_wp2_with fail
      go_ret
      exact ⟨by first | rfl | (simp; omega), rfl⟩
  · rw [show decide (1 ≤ s.size ∧ s.size ≤ 32) = false from by simp; omega]
    go_enter Try.func38, Try.ntmps38
    go_wp2_with fail
    go_ret
    exact ⟨by first | rfl | (simp; omega), rfl⟩
/-- an append's run -/
theorem exec_app {P : Program} {w w' : World} {o : Oper} {a : Act} {s x : Operand} {t t2 : TypeId} {v1 v2 v' : Value} (ho : o.op = .call { callee := .builtin .append, args := #[s, x], argTypes := #[t, t2] }) (hv : a.eval s = v1) (hx : a.eval x = v2) (hr : (Builtin.append_ #[t, t2] o.type #[v1, v2]).run P w = .ok v' w') :
    (execOp a.eval o).run P w = .ok (.value v') w' := by
  unfold execOp
  simp only [ho, resolve, invoke, builtin, Sem.run_bind, Sem.run_pure, Result.andThen_ok, List.map_toArray, List.map_cons, List.map_nil, hv, hx, hr]
section
variable {w Y Z w2 w3 : World} {g b nO cO n c' c2 : Nat} {s : Ds} {M C : Nat → Prop} {AO A' A2 : Option Addr} {ps : List OpV}
theorem do_app {v : Array Value} (h : AtL Z g s M C b AO nO cO ps) (hv : v.size = 4) (h1 : ∀ u ∈ v.toList, u.oneCell' = true) (hn : nO ≤ 100000) :
    ∃ A2 c2 w2, (Builtin.append_ #[22, 22] 22 #[.slice AO nO cO, .slice (some ⟨Z.heap.size, 0, none⟩) 1 1]).run Try.prog (Z.alloc (.cells v 29)) = .ok (.slice A2 (nO + 1) c2) w2 ∧
      Ro.Row w2 29 4 A2 (nO + 1) c2 (OpV.flat ps ++ v.toList) ∧ Ro.Only (fun k => Ro.blk AO = some k) (Z.alloc (.cells v 29)) w2 ∧ (Ro.blk A2 = Ro.blk AO ∨ Ro.blk A2 = some (Z.heap.size + 1)) := by
  obtain ⟨A2, c2, w2, hr, hR2, hO2, hA2⟩ := Ro.app (P := Try.prog) (ty := 22) (c2 := 1) elo (h.row.keep fun k hk => Below.heap_alloc Z (.cells v 29) k (h.row.lt hk)) (Mem.new_sl (w := Z) (n := 1) (cs := v) (e := 29) (size := 4) rfl (by omega) rfl) h1 (by unfold maxLen; omega) (by omega)
  exact ⟨A2, c2, w2, hr, hR2, hO2, hA2.imp id fun e => by simpa using e⟩
theorem AtL.grow_only {v : Obj} (_h : AtL Y g s M C b AO nO cO ps) (hZ : Below Y.heap.size Y Z) (hO : Ro.Only (fun k => Ro.blk AO = some k) (Z.alloc v) w2) : Ro.Only (fun k => Ro.blk AO = some k) Y w2 :=
  (Ro.Only.of_below (hZ.alloc hZ.size v)).trans hO (fun _ _ e => e)
theorem AtL.grow_blk {v : Obj} (h : AtL Y g s M C b AO nO cO ps) (hZ : Below Y.heap.size Y Z) (hO : Ro.Only (fun k => Ro.blk AO = some k) (Z.alloc v) w2) : Mem.Blk w2 g 74 #[.map (some b), .slice AO nO cO] :=
  ((h.grow_only hZ hO).block g h.blk.lt (fun e => h.row.apartB h.blk (by decide) g e rfl)).trans h.blk
theorem do_post {kind : Int} {name nto : ByteArray} {bs : List Byte} (h : AtL w g s M C b AO nO cO ps) (hY : Below w.heap.size w Y) (hHo : Hold Y (fun k => (C k ∧ k < w.heap.size) ∨ w.heap.size < k) A' n c' bs) (hz : w.heap.size < Y.heap.size)
    (hO2 : Ro.Only (fun k => Ro.blk AO = some k) Y w2) (hA2 : Ro.blk A2 = Ro.blk AO ∨ Ro.blk A2 = some (Y.heap.size + 1)) (hR2 : Ro.Row w2 29 4 A2 (nO + 1) c2 (OpV.flat ps ++ #[.int .i64 kind, .string name, .string nto, .slice A' n c'].toList))
    (ho3 : Ro.Only (fun k => k = g) w2 w3) (hb3 : Mem.Blk w3 g 74 #[.map (some b), .slice A2 (nO + 1) c2]) : Post M C w w3 g ⟨s.fs, s.op ++ [⟨kind, name, nto, bs⟩]⟩ := by
  have hAO : ∀ k, Ro.blk AO = some k → M k ∧ k < w.heap.size := fun k hk => ⟨h.mg.2.2 k hk, h.row.lt hk⟩
  have hg := h.blk.lt
  have hbl := h.mp.lt
  have hbne : b ≠ g := by
    rintro rfl
    obtain ⟨es, _, _, es0, clock, e1, _⟩ := h.mp
    rw [show w.heap[b]? = _ from h.blk] at e1
    cases e1
  have hall : Ro.Only (fun k => Ro.blk AO = some k ∨ k = g) Y w3 := (hO2.mono fun k _ e => .inl e).trans ho3 (fun _ _ e => .inr e)
  have hCn : ∀ k, (C k ∧ k < w.heap.size) ∨ (w.heap.size < k ∧ k < Y.heap.size) → ¬ (Ro.blk AO = some k ∨ k = g) := by
    rintro k (⟨c, d⟩ | d) (e | e)
    · exact h.cm k c (hAO k e).1
    · exact h.cm k c (by rw [e]; exact h.mg.1)
    · have := (hAO k e).2; omega
    · omega
  have hA2' : ∀ k, Ro.blk A2 = some k → (M k ∧ k < w.heap.size) ∨ k = Y.heap.size + 1 := by
    intro k hk
    rcases hA2 with e | e
    · rw [e] at hk; exact .inl (hAO k hk)
    · rw [e] at hk
      have : Y.heap.size + 1 = k := by simpa using hk
      exact .inr this.symm
  refine ⟨fun k => (M k ∧ k < w.heap.size) ∨ k = Y.heap.size + 1, fun k => (C k ∧ k < w.heap.size) ∨ (w.heap.size < k ∧ k < Y.heap.size), ⟨b, A2, nO + 1, c2, ps ++ [⟨kind, name, nto, bs, A', n, c'⟩], hb3, ?_, ?_, ?_, ?_, ⟨.inl ⟨h.mg.1, hg⟩, .inl ⟨h.mg.2.1, hbl⟩, hA2'⟩, ?_⟩, ?_, ?_, ?_⟩
  · have h1 := ((h.mp.mono (C' := fun k => (C k ∧ k < w.heap.size) ∨ (w.heap.size < k ∧ k < Y.heap.size)) (fun k hk c => .inl ⟨c, hk⟩)).below hY)
    refine h1.keep hall.size (fun k hk c => hall.block k hk (hCn k c)) (hall.block b (by omega) ?_)
    rintro (e | e)
    · obtain ⟨es, _, _, es0, clock, e1, _⟩ := h.mp
      obtain ⟨cur, e2⟩ := h.row.type e
      rw [e1] at e2
      cases e2
    · exact hbne e
  · rw [OpV.flat_app]
    exact hR2.only ho3 fun k hk e => by
      rcases hA2' k hk with c | c
      · rcases hA2 with e2 | e2
        · rw [e2] at hk
          exact h.row.apartB h.blk (by decide) k hk e
        · rw [e2] at hk
          have : Y.heap.size + 1 = k := by simpa using hk
          omega
      · have e' : k = g := e
        omega
  · rw [List.map_append, h.ops]
    rfl
  · intro p hp
    rcases List.mem_append.1 hp with hp | hp
    · exact (((h.hold p hp).mono (C' := fun k => (C k ∧ k < w.heap.size) ∨ (w.heap.size < k ∧ k < Y.heap.size)) (fun k hk c => .inl ⟨c, hk⟩)).below hY).keep hall.size (fun k hk c => hall.block k hk (hCn k c))
    · rw [List.mem_singleton] at hp
      subst hp
      exact (hHo.mono (C' := fun k => (C k ∧ k < w.heap.size) ∨ (w.heap.size < k ∧ k < Y.heap.size)) (fun k hk c => c.imp id fun c => ⟨c, hk⟩)).keep hall.size (fun k hk c => hall.block k hk (hCn k c))
  · rintro k (c | c) (d | d)
    · exact h.cm k c.1 d.1
    · omega
    · omega
    · omega
  · exact fun k c => c.imp (·.1) fun e => by omega
  · exact fun k c => c.imp (·.1) fun e => by omega
  · refine (Ro.Only.of_below hY).trans (hall.mono (T := M) fun k _ e => ?_) (fun k _ e => e)
    rcases e with e | e
    · exact (hAO k e).1
    · rw [e]; exact h.mg.1
end
set_option maxRecDepth 100000 in
set_option maxHeartbeats 4000000 in
theorem do_c {w : World} {g : Nat} {s : Ds} {M C C0 : Nat → Prop} {kind : Int} {name nto : ByteArray} {A : Option Addr} {n c : Nat} {bs : List Byte} (h : At w g s M C) (hs : Good s) (ho : Hold w C0 A n c bs) (h1 : name.size ≤ maxLen) (h2 : nto.size ≤ maxLen) (hn : n ≤ 100000) :
    Calls Try.prog 16 #[.pointer (some ⟨g, 0, none⟩), .agg #[.int .i64 kind, .string name, .string nto, .slice A n c]] w fun e w' => (right ⟨kind, name, nto, bs⟩ = false → e = .returned (.int .i64 1) ∧ Below w.heap.size w w') ∧ (right ⟨kind, name, nto, bs⟩ = true → e = .returned (.int .i64 0) ∧ Post M C w w' g ⟨s.fs, s.op ++ [⟨kind, name, nto, bs⟩]⟩) := by
  have hno := hs.no
  obtain ⟨b, AO, nO, cO, ps, h⟩ := h
  have hlen0 := h.len
  have N0 := Lib.hid (Mem.Blk.new (w := w) (t := 29) (cs := #[.int .i64 kind, .string name, .string nto, .slice A n c]))
  have HA := Lib.hid ((Below.refl w.heap.size w).alloc (Nat.le_refl _) (.cells #[.int .i64 kind, .string name, .string nto, .slice A n c] 29))
  have hCl := Lib.hid (fun (X : World) (hX : Below w.heap.size w X) => clone_c (ho.below hX) (by omega))
  have H := Lib.hid h
  have HN1 := Lib.hid (fun X => named_c name X h1)
  have HN2 := Lib.hid (fun X => named_c nto X h2)
  have hm1 := h1
  have hm2 := h2
  unfold maxLen at hm1 hm2
  clear h hs ho h1 h2
  by_cases k1 : kind < 1
  · rw [show right ⟨kind, name, nto, bs⟩ = false from by unfold right; simp; omega]
    refine (show Calls Try.prog 16 #[.pointer (some ⟨g, 0, none⟩), .agg #[.int .i64 kind, .string name, .string nto, .slice A n c]] w fun e w' => e = .returned (.int .i64 1) ∧ Below w.heap.size w w' from ?_).mono fun e w' p => ⟨fun _ => p, fun c => (by cases c)⟩
    go_enter Try.func16, Try.ntmps16
    go_wp2_with fail
    go_ret
    exact ⟨rfl, HA.out⟩
  by_cases k3 : 3 < kind
  · rw [show right ⟨kind, name, nto, bs⟩ = false from by unfold right; simp; omega]
    refine (show Calls Try.prog 16 #[.pointer (some ⟨g, 0, none⟩), .agg #[.int .i64 kind, .string name, .string nto, .slice A n c]] w fun e w' => e = .returned (.int .i64 1) ∧ Below w.heap.size w w' from ?_).mono fun e w' p => ⟨fun _ => p, fun c => (by cases c)⟩
    go_enter Try.func16, Try.ntmps16
    go_wp2_with fail
    go_ret
    exact ⟨rfl, HA.out⟩
  by_cases n1 : 1 ≤ name.size ∧ name.size ≤ 32
  · rw [show decide (1 ≤ name.size ∧ name.size ≤ 32) = true from decide_eq_true n1] at HN1
    by_cases k2 : kind = 2
    · subst k2
      by_cases n2 : 1 ≤ nto.size ∧ nto.size ≤ 32
      · rw [show decide (1 ≤ nto.size ∧ nto.size ≤ 32) = true from decide_eq_true n2] at HN2
        rw [show right ⟨2, name, nto, bs⟩ = true from by unfold right; simp; omega]
        refine (show Calls Try.prog 16 #[.pointer (some ⟨g, 0, none⟩), .agg #[.int .i64 2, .string name, .string nto, .slice A n c]] w fun e w' => e = .returned (.int .i64 0) ∧ Post M C w w' g ⟨s.fs, s.op ++ [⟨2, name, nto, bs⟩]⟩ from ?_).mono fun e w' p => ⟨fun c => (by cases c), fun _ => p⟩
        clear n1 n2 k1 k3
        go_enter Try.func16, Try.ntmps16
        go_wp2_with fail
        refine (HN1.out _).mono ?_
        rintro e wz ⟨rfl, hwz⟩
        subst hwz
        go_wp2_with fail
        refine (HN2.out _).mono ?_
        rintro e wz ⟨rfl, hwz⟩
        subst hwz
        clear HN1 HN2
        go_wp2_with fail
        refine (hCl.out _ HA.out).mono ?_
        rintro e X ⟨A', c', rfl, hR, hbX, hfX⟩
        have N1 := N0.out.belowS hbX
        obtain ⟨i0, i1, i2, i3⟩ := And.intro (N1.cell 0) (And.intro (N1.cell 1) (And.intro (N1.cell 2) (N1.cell 3)))
        have hif := N1.frozen
        have hbw : Below w.heap.size w X := HA.out.trans (hbX.mono HA.out.size)
        have N2 : Mem.Blk (X.setCell ⟨w.heap.size, 3, none⟩ (.slice A' n c')) w.heap.size 29 #[.int .i64 2, .string name, .string nto, .slice A' n c'] := N1.set_ 3 (.slice A' n c')
        have hzX : w.heap.size + 1 ≤ X.heap.size := by have := hbX.size; simpa using this
        have hY : Below w.heap.size w (X.setCell ⟨w.heap.size, 3, none⟩ (.slice A' n c')) := hbw.setCell (Nat.le_refl _) _
        have HL := Lib.hid (H.out.keep hY.size (fun k hk _ => hY.block k hk))
        have hHo : Hold (X.setCell ⟨w.heap.size, 3, none⟩ (.slice A' n c')) (fun k => (C k ∧ k < w.heap.size) ∨ w.heap.size < k) A' n c' bs := by
          refine Hold.of_row (hR.only (Ro.Only.setCell X ⟨w.heap.size, 3, none⟩ _) (fun k hk e => ?_)) (fun k hk => .inr ?_)
          · have h1 := hfX k hk
            have h2 : k = w.heap.size := e
            simp at h1
            omega
          · have h1 := hfX k hk
            simp at h1
            omega
        have HHo := Lib.hid hHo
        have N2 := Lib.hid N2
        have HY := Lib.hid hY
        have HZ : Hid (w.heap.size < (X.setCell ⟨w.heap.size, 3, none⟩ (.slice A' n c')).heap.size) := Lib.hid (by simp; omega)
        clear hR hbX hfX N1 hbw hY hHo hCl HA N0 hzX
        go_wp2_with fail
        clear i0 i1 i2 i3 hif
        generalize (X.setCell ⟨w.heap.size, 3, none⟩ (.slice A' n c')) = Y at *
        have hlen := HL.out.len
        have HD := Lib.hid (fun (Z : World) (hZ : Below Y.heap.size Y Z) => do_app (v := #[.int .i64 2, .string name, .string nto, .slice A' n c']) (HL.out.keep hZ.size (fun k hk _ => hZ.block k hk)) rfl (by intro u hu; simp at hu; rcases hu with rfl | rfl | rfl | rfl <;> rfl) (by omega))
        have hD0 : Below Y.heap.size Y Y.drew := (Below.refl _ _).drew
        obtain ⟨A2, c2, w2, hr, hR2, hO2, hA2⟩ := HD.out Y.drew hD0
        have hb2 := HL.out.grow_blk hD0 hO2
        have m0 := hb2.cell 0
        have m1 := hb2.cell 1
        have mf := hb2.frozen
        have HP := Lib.hid (do_post (kind := 2) (name := name) (nto := nto) H.out HY.out HHo.out HZ.out (HL.out.grow_only hD0 hO2) hA2 hR2 (Ro.Only.setCell w2 ⟨g, 1, none⟩ (.slice A2 (nO + 1) c2)) (hb2.set_ 1 (.slice A2 (nO + 1) c2)))
        have hgY := HL.out.blk
        have n1 := hgY.cell 1
        have S0 : Ro.Only (fun k => k = g ∨ Ro.blk AO = some k) Y Y.drew := (Ro.Only.refl _ _).drew
        have S1 : Ro.Only (fun k => k = g ∨ Ro.blk AO = some k) Y (Y.drew.alloc (.cells #[.int .i64 2, .string name, .string nto, .slice A' n c'] 29)) := S0.alloc _
        have S2 : Ro.Only (fun k => k = g ∨ Ro.blk AO = some k) Y w2 := S1.trans hO2 (fun _ _ e => .inr e)
        have S3 : Ro.Only (fun k => k = g ∨ Ro.blk AO = some k) Y (w2.setCell ⟨g, 1, none⟩ (.slice A2 (nO + 1) c2)) := S2.trans (Ro.Only.setCell w2 ⟨g, 1, none⟩ _) (fun _ _ e => .inl e)
        have hne : ¬ (w.heap.size = g ∨ Ro.blk AO = some w.heap.size) := by
          rintro (e | e)
          · exact absurd H.out.blk.lt (by omega)
          · exact absurd (H.out.row.lt e) (by omega)
        clear hR2 hO2 hA2 hb2 HD hgY HL HHo HY HZ H
        refine Reg.start (S := fun w' => Ro.Only (fun k => k = g ∨ Ro.blk AO = some k) Y w') (by kernel_rfl) ?_
        refine Reg.takes (n := 6) (by kernel_rfl) (fun _ _ d _ _ h => by cases d <;> exact h) S0 [0, 1, 2, 3, 5] _ _ (by kernel_rfl) ?_
        iterate 5 (refine Reg.det_step rfl (fun K' hK' => ?_); go_simp; (first | (refine hK' _ ?_; clear hK' K') | (apply Exists.intro; refine ⟨fun wx hwx => ?_, hK' _ ?_⟩; (first | rfl | (obtain ⟨i0, i1, i2, i3⟩ := And.intro (Mem.Blk.cell (((hwx.block _ N2.out.lt hne).trans N2.out : Mem.Blk wx w.heap.size 29 _)) 0) (And.intro (Mem.Blk.cell (((hwx.block _ N2.out.lt hne).trans N2.out : Mem.Blk wx w.heap.size 29 _)) 1) (And.intro (Mem.Blk.cell (((hwx.block _ N2.out.lt hne).trans N2.out : Mem.Blk wx w.heap.size 29 _)) 2) (Mem.Blk.cell (((hwx.block _ N2.out.lt hne).trans N2.out : Mem.Blk wx w.heap.size 29 _)) 3))); go_simp; first | done | rfl)); clear hK' K')))
        refine Reg.det_nil ?_
        refine Reg.two (i := 4) (j := 6) (n := 5) (by kernel_rfl) ?_ ?_
        · refine Reg.val rfl rfl (v := .slice AO nO cO) (w' := Y.drew) (by go_simp) S0 ?_
          refine Reg.one (i := 6) (n := 4) (by kernel_rfl) ?_
          refine Reg.val rfl rfl (v := .slice (some ⟨Y.heap.size, 0, none⟩) 1 1) (w' := Y.drew.alloc (.cells #[.int .i64 2, .string name, .string nto, .slice A' n c'] 29)) (by go_simp) S1 ?_
          refine Reg.one (i := 7) (n := 3) (by kernel_rfl) ?_
          refine Reg.val rfl rfl (v := .slice A2 (nO + 1) c2) (w' := w2) (exec_app rfl (by go_simp) (by go_simp) hr) S2 ?_
          refine Reg.takes (n := 1) (by kernel_rfl) (fun _ _ d _ _ h => by cases d <;> exact h) S2 [8, 9] _ _ (by kernel_rfl) ?_
          iterate 2 (refine Reg.det_step rfl (fun K' hK' => ?_); go_simp; (first | (refine hK' _ ?_; clear hK' K') | (apply Exists.intro; refine ⟨fun wx hwx => ?_, hK' _ ?_⟩; (first | rfl | (go_simp; first | done | rfl)); clear hK' K')))
          refine Reg.det_nil ?_
          refine Reg.one (i := 10) (n := 0) (by kernel_rfl) ?_
          refine Reg.skip rfl rfl (w' := w2.setCell ⟨g, 1, none⟩ (.slice A2 (nO + 1) c2)) (by go_simp) S3 ?_
          refine wpAnyH_done (by kernel_rfl) ?_ _
          go_wp2_with fail
          go_ret
          exact ⟨rfl, HP.out⟩
        · refine Reg.val rfl rfl (v := .slice (some ⟨Y.heap.size, 0, none⟩) 1 1) (w' := Y.drew.alloc (.cells #[.int .i64 2, .string name, .string nto, .slice A' n c'] 29)) (by go_simp) S1 ?_
          have n1' := Mem.keep_alloc (o := .cells #[.int .i64 2, .string name, .string nto, .slice A' n c'] 29) n1
          refine Reg.one (i := 4) (n := 4) (by kernel_rfl) ?_
          refine Reg.val rfl rfl (v := .slice AO nO cO) (w' := Y.drew.alloc (.cells #[.int .i64 2, .string name, .string nto, .slice A' n c'] 29)) (by go_simp) S1 ?_
          refine Reg.one (i := 7) (n := 3) (by kernel_rfl) ?_
          refine Reg.val rfl rfl (v := .slice A2 (nO + 1) c2) (w' := w2) (exec_app rfl (by go_simp) (by go_simp) hr) S2 ?_
          refine Reg.takes (n := 1) (by kernel_rfl) (fun _ _ d _ _ h => by cases d <;> exact h) S2 [8, 9] _ _ (by kernel_rfl) ?_
          iterate 2 (refine Reg.det_step rfl (fun K' hK' => ?_); go_simp; (first | (refine hK' _ ?_; clear hK' K') | (apply Exists.intro; refine ⟨fun wx hwx => ?_, hK' _ ?_⟩; (first | rfl | (go_simp; first | done | rfl)); clear hK' K')))
          refine Reg.det_nil ?_
          refine Reg.one (i := 10) (n := 0) (by kernel_rfl) ?_
          refine Reg.skip rfl rfl (w' := w2.setCell ⟨g, 1, none⟩ (.slice A2 (nO + 1) c2)) (by go_simp) S3 ?_
          refine wpAnyH_done (by kernel_rfl) ?_ _
          go_wp2_with fail
          go_ret
          exact ⟨rfl, HP.out⟩
      · rw [show decide (1 ≤ nto.size ∧ nto.size ≤ 32) = false from decide_eq_false n2] at HN2
        rw [show right ⟨2, name, nto, bs⟩ = false from by unfold right; simp; omega]
        refine (show Calls Try.prog 16 #[.pointer (some ⟨g, 0, none⟩), .agg #[.int .i64 2, .string name, .string nto, .slice A n c]] w fun e w' => e = .returned (.int .i64 1) ∧ Below w.heap.size w w' from ?_).mono fun e w' p => ⟨fun _ => p, fun c => (by cases c)⟩
        clear n1 n2 k1 k3 H hCl
        go_enter Try.func16, Try.ntmps16
        go_wp2_with fail
        refine (HN1.out _).mono ?_
        rintro e wz ⟨rfl, hwz⟩
        subst hwz
        go_wp2_with fail
        refine (HN2.out _).mono ?_
        rintro e wz ⟨rfl, hwz⟩
        subst hwz
        go_wp2_with fail
        go_ret
        exact ⟨rfl, HA.out⟩
    · have hk2 : (kind == 2) = false := beq_eq_false_iff_ne.2 k2
      rw [show right ⟨kind, name, nto, bs⟩ = true from by unfold right; simp; omega]
      refine (show Calls Try.prog 16 #[.pointer (some ⟨g, 0, none⟩), .agg #[.int .i64 kind, .string name, .string nto, .slice A n c]] w fun e w' => e = .returned (.int .i64 0) ∧ Post M C w w' g ⟨s.fs, s.op ++ [⟨kind, name, nto, bs⟩]⟩ from ?_).mono fun e w' p => ⟨fun c => (by cases c), fun _ => p⟩
      clear n1 HN2 k2
      go_enter Try.func16, Try.ntmps16
      go_wp2_with fail
      refine (HN1.out _).mono ?_
      rintro e wz ⟨rfl, hwz⟩
      subst hwz
      clear HN1
      go_wp2_with fail
      refine (hCl.out _ HA.out).mono ?_
      rintro e X ⟨A', c', rfl, hR, hbX, hfX⟩
      have N1 := N0.out.belowS hbX
      obtain ⟨i0, i1, i2, i3⟩ := And.intro (N1.cell 0) (And.intro (N1.cell 1) (And.intro (N1.cell 2) (N1.cell 3)))
      have hif := N1.frozen
      have hbw : Below w.heap.size w X := HA.out.trans (hbX.mono HA.out.size)
      have N2 : Mem.Blk (X.setCell ⟨w.heap.size, 3, none⟩ (.slice A' n c')) w.heap.size 29 #[.int .i64 kind, .string name, .string nto, .slice A' n c'] := N1.set_ 3 (.slice A' n c')
      have hzX : w.heap.size + 1 ≤ X.heap.size := by have := hbX.size; simpa using this
      have hY : Below w.heap.size w (X.setCell ⟨w.heap.size, 3, none⟩ (.slice A' n c')) := hbw.setCell (Nat.le_refl _) _
      have HL := Lib.hid (H.out.keep hY.size (fun k hk _ => hY.block k hk))
      have hHo : Hold (X.setCell ⟨w.heap.size, 3, none⟩ (.slice A' n c')) (fun k => (C k ∧ k < w.heap.size) ∨ w.heap.size < k) A' n c' bs := by
        refine Hold.of_row (hR.only (Ro.Only.setCell X ⟨w.heap.size, 3, none⟩ _) (fun k hk e => ?_)) (fun k hk => .inr ?_)
        · have h1 := hfX k hk
          have h2 : k = w.heap.size := e
          simp at h1
          omega
        · have h1 := hfX k hk
          simp at h1
          omega
      have HHo := Lib.hid hHo
      have N2 := Lib.hid N2
      have HY := Lib.hid hY
      have HZ : Hid (w.heap.size < (X.setCell ⟨w.heap.size, 3, none⟩ (.slice A' n c')).heap.size) := Lib.hid (by simp; omega)
      clear hR hbX hfX N1 hbw hY hHo hCl HA N0 hzX
      go_wp2_with fail
      clear i0 i1 i2 i3 hif
      generalize (X.setCell ⟨w.heap.size, 3, none⟩ (.slice A' n c')) = Y at *
      have hlen := HL.out.len
      have HD := Lib.hid (fun (Z : World) (hZ : Below Y.heap.size Y Z) => do_app (v := #[.int .i64 kind, .string name, .string nto, .slice A' n c']) (HL.out.keep hZ.size (fun k hk _ => hZ.block k hk)) rfl (by intro u hu; simp at hu; rcases hu with rfl | rfl | rfl | rfl <;> rfl) (by omega))
      have hD0 : Below Y.heap.size Y Y.drew := (Below.refl _ _).drew
      obtain ⟨A2, c2, w2, hr, hR2, hO2, hA2⟩ := HD.out Y.drew hD0
      have hb2 := HL.out.grow_blk hD0 hO2
      have m0 := hb2.cell 0
      have m1 := hb2.cell 1
      have mf := hb2.frozen
      have HP := Lib.hid (do_post (kind := kind) (name := name) (nto := nto) H.out HY.out HHo.out HZ.out (HL.out.grow_only hD0 hO2) hA2 hR2 (Ro.Only.setCell w2 ⟨g, 1, none⟩ (.slice A2 (nO + 1) c2)) (hb2.set_ 1 (.slice A2 (nO + 1) c2)))
      have hgY := HL.out.blk
      have n1 := hgY.cell 1
      have S0 : Ro.Only (fun k => k = g ∨ Ro.blk AO = some k) Y Y.drew := (Ro.Only.refl _ _).drew
      have S1 : Ro.Only (fun k => k = g ∨ Ro.blk AO = some k) Y (Y.drew.alloc (.cells #[.int .i64 kind, .string name, .string nto, .slice A' n c'] 29)) := S0.alloc _
      have S2 : Ro.Only (fun k => k = g ∨ Ro.blk AO = some k) Y w2 := S1.trans hO2 (fun _ _ e => .inr e)
      have S3 : Ro.Only (fun k => k = g ∨ Ro.blk AO = some k) Y (w2.setCell ⟨g, 1, none⟩ (.slice A2 (nO + 1) c2)) := S2.trans (Ro.Only.setCell w2 ⟨g, 1, none⟩ _) (fun _ _ e => .inl e)
      have hne : ¬ (w.heap.size = g ∨ Ro.blk AO = some w.heap.size) := by
        rintro (e | e)
        · exact absurd H.out.blk.lt (by omega)
        · exact absurd (H.out.row.lt e) (by omega)
      clear hR2 hO2 hA2 hb2 HD hgY HL HHo HY HZ H
      refine Reg.start (S := fun w' => Ro.Only (fun k => k = g ∨ Ro.blk AO = some k) Y w') (by kernel_rfl) ?_
      refine Reg.takes (n := 6) (by kernel_rfl) (fun _ _ d _ _ h => by cases d <;> exact h) S0 [0, 1, 2, 3, 5] _ _ (by kernel_rfl) ?_
      iterate 5 (refine Reg.det_step rfl (fun K' hK' => ?_); go_simp; (first | (refine hK' _ ?_; clear hK' K') | (apply Exists.intro; refine ⟨fun wx hwx => ?_, hK' _ ?_⟩; (first | rfl | (obtain ⟨i0, i1, i2, i3⟩ := And.intro (Mem.Blk.cell (((hwx.block _ N2.out.lt hne).trans N2.out : Mem.Blk wx w.heap.size 29 _)) 0) (And.intro (Mem.Blk.cell (((hwx.block _ N2.out.lt hne).trans N2.out : Mem.Blk wx w.heap.size 29 _)) 1) (And.intro (Mem.Blk.cell (((hwx.block _ N2.out.lt hne).trans N2.out : Mem.Blk wx w.heap.size 29 _)) 2) (Mem.Blk.cell (((hwx.block _ N2.out.lt hne).trans N2.out : Mem.Blk wx w.heap.size 29 _)) 3))); go_simp; first | done | rfl)); clear hK' K')))
      refine Reg.det_nil ?_
      refine Reg.two (i := 4) (j := 6) (n := 5) (by kernel_rfl) ?_ ?_
      · refine Reg.val rfl rfl (v := .slice AO nO cO) (w' := Y.drew) (by go_simp) S0 ?_
        refine Reg.one (i := 6) (n := 4) (by kernel_rfl) ?_
        refine Reg.val rfl rfl (v := .slice (some ⟨Y.heap.size, 0, none⟩) 1 1) (w' := Y.drew.alloc (.cells #[.int .i64 kind, .string name, .string nto, .slice A' n c'] 29)) (by go_simp) S1 ?_
        refine Reg.one (i := 7) (n := 3) (by kernel_rfl) ?_
        refine Reg.val rfl rfl (v := .slice A2 (nO + 1) c2) (w' := w2) (exec_app rfl (by go_simp) (by go_simp) hr) S2 ?_
        refine Reg.takes (n := 1) (by kernel_rfl) (fun _ _ d _ _ h => by cases d <;> exact h) S2 [8, 9] _ _ (by kernel_rfl) ?_
        iterate 2 (refine Reg.det_step rfl (fun K' hK' => ?_); go_simp; (first | (refine hK' _ ?_; clear hK' K') | (apply Exists.intro; refine ⟨fun wx hwx => ?_, hK' _ ?_⟩; (first | rfl | (go_simp; first | done | rfl)); clear hK' K')))
        refine Reg.det_nil ?_
        refine Reg.one (i := 10) (n := 0) (by kernel_rfl) ?_
        refine Reg.skip rfl rfl (w' := w2.setCell ⟨g, 1, none⟩ (.slice A2 (nO + 1) c2)) (by go_simp) S3 ?_
        refine wpAnyH_done (by kernel_rfl) ?_ _
        go_wp2_with fail
        go_ret
        exact ⟨rfl, HP.out⟩
      · refine Reg.val rfl rfl (v := .slice (some ⟨Y.heap.size, 0, none⟩) 1 1) (w' := Y.drew.alloc (.cells #[.int .i64 kind, .string name, .string nto, .slice A' n c'] 29)) (by go_simp) S1 ?_
        have n1' := Mem.keep_alloc (o := .cells #[.int .i64 kind, .string name, .string nto, .slice A' n c'] 29) n1
        refine Reg.one (i := 4) (n := 4) (by kernel_rfl) ?_
        refine Reg.val rfl rfl (v := .slice AO nO cO) (w' := Y.drew.alloc (.cells #[.int .i64 kind, .string name, .string nto, .slice A' n c'] 29)) (by go_simp) S1 ?_
        refine Reg.one (i := 7) (n := 3) (by kernel_rfl) ?_
        refine Reg.val rfl rfl (v := .slice A2 (nO + 1) c2) (w' := w2) (exec_app rfl (by go_simp) (by go_simp) hr) S2 ?_
        refine Reg.takes (n := 1) (by kernel_rfl) (fun _ _ d _ _ h => by cases d <;> exact h) S2 [8, 9] _ _ (by kernel_rfl) ?_
        iterate 2 (refine Reg.det_step rfl (fun K' hK' => ?_); go_simp; (first | (refine hK' _ ?_; clear hK' K') | (apply Exists.intro; refine ⟨fun wx hwx => ?_, hK' _ ?_⟩; (first | rfl | (go_simp; first | done | rfl)); clear hK' K')))
        refine Reg.det_nil ?_
        refine Reg.one (i := 10) (n := 0) (by kernel_rfl) ?_
        refine Reg.skip rfl rfl (w' := w2.setCell ⟨g, 1, none⟩ (.slice A2 (nO + 1) c2)) (by go_simp) S3 ?_
        refine wpAnyH_done (by kernel_rfl) ?_ _
        go_wp2_with fail
        go_ret
        exact ⟨rfl, HP.out⟩
  · rw [show decide (1 ≤ name.size ∧ name.size ≤ 32) = false from decide_eq_false n1] at HN1
    rw [show right ⟨kind, name, nto, bs⟩ = false from by unfold right; simp; omega]
    refine (show Calls Try.prog 16 #[.pointer (some ⟨g, 0, none⟩), .agg #[.int .i64 kind, .string name, .string nto, .slice A n c]] w fun e w' => e = .returned (.int .i64 1) ∧ Below w.heap.size w w' from ?_).mono fun e w' p => ⟨fun _ => p, fun c => (by cases c)⟩
    clear n1 H hCl HN2
    go_enter Try.func16, Try.ntmps16
    go_wp2_with fail
    refine (HN1.out _).mono ?_
    rintro e wz ⟨rfl, hwz⟩
    subst hwz
    go_wp2_with fail
    go_ret
    exact ⟨rfl, HA.out⟩
end Dk
end Go.Proofs.Ytnaidihoijociaa
