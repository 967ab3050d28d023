/- Layer 10 (disk): what is asked of one of some disks. -/
import Derived.Test.YtnaidihoijociaaDkK
namespace Go.Proofs.Ytnaidihoijociaa
open Go.RowKit Go.Maps
namespace Dk
open Bs
open Crc (Byte)
theorem upd_id {D : Dks} {i : Nat} {x : Nat × Ds} (h : D i = some x) : upd D i x = D := by
  funext k
  unfold upd
  split
  · rename_i e; rw [e, h]
  · rfl
def doS (s : Ds) (o : OpA) : Ds := if right o then ⟨s.fs, s.op ++ [o]⟩ else s
def doE (o : OpA) : Int := if right o then 0 else 1
theorem Fits.doS {N : Nat} {s : Ds} {o : OpA} (h : Fits N s) (ho : OkOp o) : Fits (N + 1) (doS s o) := by
  unfold Dk.doS
  split
  · exact h.does ho
  · exact h.mono (by omega)
/-- behind work on disk i -/
def After (W w : World) (col : Nat → Nat) (D : Dks) (i g : Nat) (s : Ds) (w' : World) : Prop := ∃ col', (∀ k, k < w.heap.size → col' k = col k) ∧ Fm W w' col' (upd D i (g, s)) ∧ Ro.Only (fun k => col k = i) w w'
section
variable {W w w' : World} {col : Nat → Nat} {D : Dks} {i j g N : Nat} {s s' : Ds}
theorem After.same (h : Fm W w col D) (hD : D i = some (g, s)) (hb : Below w.heap.size w w') : After W w col D i g s w' :=
  ⟨_, fun k hk => if_pos hk, by rw [upd_id hD]; exact h.below hb (fun _ => 0), .of_below hb⟩
theorem Fm.does {kind : Int} {name nto : ByteArray} {A : Option Addr} {n c : Nat} {bs : List Byte} {C0 : Nat → Prop} (h : Fm W w col D) (hD : D i = some (g, s)) (hs : Fits N s) (hN : N ≤ 1000) (ho : Hold w C0 A n c bs) (h1 : name.size ≤ maxLen) (h2 : nto.size ≤ maxLen) (hn : n ≤ 100000) :
    Calls Try.prog 16 #[.pointer (some ⟨g, 0, none⟩), .agg #[.int .i64 kind, .string name, .string nto, .slice A n c]] w fun e w' => e = .returned (.int .i64 (doE ⟨kind, name, nto, bs⟩)) ∧ After W w col D i g (doS s ⟨kind, name, nto, bs⟩) w' := by
  refine (do_c (h.at_ i g s hD) (hs.good hN) ho h1 h2 hn).mono ?_
  rintro e w' ⟨p1, p2⟩
  unfold doE doS
  cases hr : right ⟨kind, name, nto, bs⟩
  · rw [if_neg (by decide), if_neg (by decide)]
    exact ⟨(p1 hr).1, After.same h hD (p1 hr).2⟩
  · rw [if_pos rfl, if_pos rfl]
    exact ⟨(p2 hr).1, h.op hD (p2 hr).2⟩
theorem Fm.sync (h : Fm W w col D) (hD : D i = some (g, s)) (hs : Fits N s) (hN : N ≤ 1000) :
    Calls Try.prog 21 #[.pointer (some ⟨g, 0, none⟩)] w fun e w' => e = .returned (.tuple #[]) ∧ After W w col D i g ⟨look s, []⟩ w' :=
  (sync_c (h.at_ i g s hD) (hs.good hN)).mono fun _e _w' p => ⟨p.1, h.op hD p.2⟩
theorem Fm.crash {KA : Option Addr} {kn kc : Nat} {keep : List Int} (h : Fm W w col D) (hD : D i = some (g, s)) (hs : Fits N s) (hN : N ≤ 1000) (hk : Mem.Ints w w.heap.size .i64 KA kn keep) (hkM : ∀ ad, KA = some ad → 0 < kn → col ad.block ≠ i) (hkz : ∀ z ∈ keep, z ≤ 9223372036854775807) (hkn : kn ≤ 100000) :
    Calls Try.prog 22 #[.pointer (some ⟨g, 0, none⟩), .slice KA kn kc] w fun e w' => e = .returned (.tuple #[]) ∧ After W w col D i g ⟨crashF s.fs s.op keep, []⟩ w' :=
  (crash_c (h.at_ i g s hD) (hs.good hN) hk hkM hkz hkn).mono fun _e _w' p => ⟨p.1, h.op hD p.2⟩
theorem Fm.read {name : ByteArray} (h : Fm W w col D) (hD : D i = some (g, s)) (hs : Fits N s) (hN : N ≤ 1000) (hn : name.size ≤ maxLen) :
    Calls Try.prog 18 #[.pointer (some ⟨g, 0, none⟩), .string name] w (ReadSaid w (fget (look s) (key name))) := read_c (h.at_ i g s hD) (hs.good hN) hn
theorem Fm.names (h : Fm W w col D) (hD : D i = some (g, s)) (hs : Fits N s) (hN : N ≤ 1000) :
    Calls Try.prog 17 #[.pointer (some ⟨g, 0, none⟩)] w (NamesSaid w ((look s).map (·.1))) := names_c (h.at_ i g s hD) (hs.good hN)
theorem Fm.opens (h : Fm W w col D) (hD : D i = some (g, s)) :
    Calls Try.prog 20 #[.pointer (some ⟨g, 0, none⟩)] w fun e w' => e = .returned (.int .i64 s.op.length) ∧ w' = w := open_c (h.at_ i g s hD)
/-- behind the making of disk j -/
def Made (W w : World) (col : Nat → Nat) (D : Dks) (j : Nat) (s : Ds) (e : Ending) (w' : World) : Prop := ∃ g' col', e = .returned (.pointer (some ⟨g', 0, none⟩)) ∧ (∀ k, k < w.heap.size → col' k = col k) ∧ Fm W w' col' (upd D j (g', s)) ∧ Below w.heap.size w w'
theorem Fm.copy (h : Fm W w col D) (hD : D i = some (g, s)) (hs : Fits N s) (hN : N ≤ 1000) (hj : D j = none) (hj0 : j ≠ 0) :
    Calls Try.prog 27 #[.pointer (some ⟨g, 0, none⟩)] w (Made W w col D j s) := by
  refine (copy_c (h.at_ i g s hD) (hs.good hN)).mono ?_
  rintro e w' ⟨g', rfl, hb, ha⟩
  exact ⟨g', _, rfl, fun k hk => if_pos hk, h.new hb ha (fun k c => ⟨c.2, c.1⟩) hj hj0, hb⟩
theorem Fm.news (h : Fm W w col D) (hj : D j = none) (hj0 : j ≠ 0) : Calls Try.prog 15 #[] w (Made W w col D j ⟨[], []⟩) := by
  refine (new_c w).mono ?_
  rintro e w' ⟨rfl, ha, hb⟩
  exact ⟨_, _, rfl, fun k hk => if_pos hk, h.new hb ha (fun k c => c.elim) hj hj0, hb⟩
end
/-- some bool; if it is true, so is Q; nothing is changed -/
def NR (Q : Prop) (W : World) (e : Ending) (w' : World) : Prop := ∃ b, e = .returned (.bool b) ∧ (b = true → Q) ∧ w' = W
/-- a small act -/
def Small (p : OpV) : Prop := p.name.size ≤ 50 ∧ p.nto.size ≤ 50 ∧ p.bytesn ≤ 200
set_option maxRecDepth 100000 in
set_option maxHeartbeats 4000000 in
theorem few_c (A : Option Addr) (n c : Nat) (ps : List OpV) (w : World) (h : Mem.Sl w w.heap.size 4 A n (OpV.flat ps)) (hok : ∀ p ∈ ps, p.ok) (hn : n ≤ maxLen) :
    Calls Try.prog 14 #[.slice A n c] w (NR (n ≤ 50 ∧ ∀ p ∈ ps, Small p) w) := by
  have hpl : ps.length = n := by have := h.1; rw [OpV.flat_len] at this; omega
  unfold maxLen at hn
  go_enter Try.func14, Try.ntmps14
  go_wp2_with fail
  go_loop [3] (fun vi => ∃ k : Nat, k ≤ n ∧ vi = .int .i64 k ∧ Hid (∀ (j : Nat) (hj : j < ps.length), j < k → Small ps[j])) (fun i => n - (intOf i).toNat)
  case atStart => exact ⟨0, by omega, rfl, fun j hj c => absurd c (by omega)⟩
  case round =>
    obtain ⟨k, hk, rfl, HN⟩ := hrel
    by_cases hlt : k < n ∧ k < 100
    · obtain ⟨h1, h2⟩ := hlt
      obtain ⟨ad, hl, rfl, _, hbk, hat⟩ := OpV.at_ h h1
      have hpo := hok _ (List.getElem_mem hl)
      have hstep : Hid (Small ps[k] → Hid (∀ (j : Nat) (hj : j < ps.length), j < k + 1 → Small ps[j])) := Lib.hid fun hs j hj hjk => by
        rcases Nat.lt_succ_iff_lt_or_eq.1 hjk with h | h
        · exact HN.out j hj h
        · subst h; exact hs
      generalize ps[k] = p at *
      obtain ⟨c0, c1, c2, c3⟩ := hat
      have b1 := hpo.name
      have b2 := hpo.nto
      have b3 : p.bytesn ≤ 9223372036854775807 := by have := hpo.bytes.1; have := hpo.bytes.2.1; unfold maxLen at this; omega
      unfold maxLen at b1 b2
      unfold Small at hstep
      clear hpo hok h hpl HN
      obtain ⟨kd, nm, nt, bs, bA, bn, bc⟩ := p
      dsimp only at *
      by_cases g1 : 50 < nm.size
      · go_wp2_with fail
        go_ret
        exact ⟨false, rfl, fun h => (by cases h), rfl⟩
      by_cases g2 : 50 < nt.size
      · go_wp2_with fail
        go_ret
        exact ⟨false, rfl, fun h => (by cases h), rfl⟩
      by_cases g3 : 200 < bn
      · go_wp2_with fail
        go_ret
        exact ⟨false, rfl, fun h => (by cases h), rfl⟩
      have hnx := hstep.out ⟨by omega, by omega, by omega⟩
      clear hstep
      go_wp2_with fail
      go_round
      case rel => exact ⟨k + 1, by omega, by go_num, hnx⟩
      case measure => simp [intOf]; omega
    · have hor : k < n ∧ 100 ≤ k ∨ k = n := by omega
      rcases hor with ⟨h1, h2⟩ | rfl
      · clear hok h
        go_wp2_with fail
        go_ret
        exact ⟨_, rfl, fun h => (by have := of_decide_eq_true h; omega), rfl⟩
      · have hall : Hid (∀ p ∈ ps, Small p) := Lib.hid fun p hp => by
          obtain ⟨j, hj, rfl⟩ := List.getElem_of_mem hp
          exact HN.out j hj (by omega)
        clear hok h HN
        go_wp2_with fail
        go_ret
        exact ⟨_, rfl, fun h => ⟨by have := of_decide_eq_true h; omega, hall.out⟩, rfl⟩
end Dk
end Go.Proofs.Ytnaidihoijociaa
