/- The walks of layer 9 (frame): a word's number, by a range over a function. -/
import Derived.RangeFuncNested
import Derived.RangeFuncBound
import Derived.RangeFuncCalls
import Derived.RangeFuncLeaves
import Derived.RangeFuncBox
import Derived.Shelf.Abstract
import Derived.Shelf.RegionOpen
import Derived.OwnWalkIn
import Derived.TacticsInMore
import Derived.LoopNIn
import Derived.LoopIn
import Derived.Test.YtnaidihoijociaaOwnB
namespace Go.Proofs.Ytnaidihoijociaa
open Go.RowKit Go.Shelf Bs
namespace Crc
attribute [local go_sem] Oper.semAt_some
def upto {α : Type} (f : Nat → α) (k : Nat) : List α := (List.range k).map f
theorem upto_succ {α : Type} (f : Nat → α) (k : Nat) : upto f (k + 1) = upto f k ++ [f k] := by simp [upto, List.range_succ]
theorem upto_length {α : Type} (f : Nat → α) (k : Nat) : (upto f k).length = k := by simp [upto]
/-- what comes in the k-th round -/
def back (bs : List Byte) (k : Nat) : Nat × Byte := (bs.length - 1 - k, bs.getD (bs.length - 1 - k) 0#8)
/-- what a round keeps: all below n₀, and one block -/
def KeepB (n₀ Bx : Nat) (A B : World) : Prop := Below n₀ A B ∧ B.heap[Bx]? = A.heap[Bx]?
theorem KeepB.refl (n₀ Bx : Nat) (A : World) : KeepB n₀ Bx A A := ⟨Below.refl _ _, rfl⟩
theorem KeepB.trans {n₀ Bx : Nat} {A B C : World} (h : KeepB n₀ Bx A B) (k : KeepB n₀ Bx B C) : KeepB n₀ Bx A C := ⟨h.1.trans k.1, k.2.trans h.2⟩
theorem keepB_b {n₀ Bx : Nat} {w : World} (hn : n₀ ≤ w.heap.size) (hx : Bx < w.heap.size) (W : World) (l : Nat) (o o' : Obj) (hl : w.heap.size ≤ l) (h : W.heap[l]? = some o) (h1 : o.isCells = false) (h2 : o.isWalk = false) : KeepB n₀ Bx W (W.putObj l o') :=
  ⟨belowK_b hn W l o o' hl h h1 h2, (grownBy_putObj' W l o').block Bx (by have := (Array.getElem?_eq_some_iff.1 h).1; omega) (fun e => by cases e; omega)⟩
set_option maxRecDepth 100000 in
set_option maxHeartbeats 2000000 in
theorem back1_in (F : Fence) (n : Nat) (h8 : F.fn 88) (hro : F.round = none) (_hn : 1 ≤ n) (l Bx n₀ len cap : Nat) (ad : Addr) (bs : List Byte) (hlen : bs.length = len) (hreach : len ≤ 140737488351232) (hb : ad.block < n₀) (J Jx : List (Nat × Byte) → World → Prop)
    (hY : ∀ pre x W, J pre W → pre.length < len → YieldAt F (n - 1) Try.prog l #[.int .i64 (x.1 : Int), .int .u8 (n8 x.2)] W fun e W' =>
      (e = .returned (.bool true) ∧ J (pre ++ [x]) W' ∧ KeepB n₀ Bx W W') ∨ (e = .returned (.bool false) ∧ Jx (pre ++ [x]) W'))
    (W : World) (hBs : W.cell? ⟨Bx, 0, none⟩ = some (.slice (some ad) len cap)) (hc : Bs W n₀ (some ad) len bs) (h0 : J [] W) :
    CallsIn F n Try.prog 88 #[.func (.yield l) #[] #[], .pointer (some ⟨Bx, 0, none⟩)] W fun e W' => (∃ v, e = .returned v) ∧
      ((∃ ys, ys = upto (back bs) len ∧ J ys W') ∨ (∃ pre, (∃ k, k ≤ len ∧ pre = upto (back bs) k) ∧ Jx pre W')) := by
  have Hlen := Lib.hid hlen
  clear hlen
  refine callsIn_of_wp Try.func88 rfl h8 ?_ hro
  simp only [Try.ntmps88, List.size_toArray, List.length_cons, List.length_nil, Nat.reduceAdd, Nat.reduceSub, Array.replicate_succ, Array.replicate_zero, List.push_toArray, List.append_toArray, List.nil_append, List.cons_append]
  gi_wp2
  gi_loopw [3] (fun i wr => ∃ k : Nat, k ≤ len ∧ i = .int .i64 ((len : Int) - 1 - k) ∧ J (upto (back bs) k) wr ∧ KeepB n₀ Bx W wr)
    (fun i _ => (intOf i + 1).toNat)
  case atStart => exact ⟨0, Nat.zero_le _, by simp, h0, KeepB.refl _ _ _⟩
  case round =>
    obtain ⟨k, hk, rfl, hJs, hnx⟩ := hrel
    have hbx : wr.cell? ⟨Bx, 0, none⟩ = some (.slice (some ad) len cap) := (World.cell?_of_block (w := W) hnx.2).trans hBs
    by_cases hlt : k < len
    · obtain ⟨m, hm⟩ : ∃ m, m = len - 1 - k := ⟨_, rfl⟩
      obtain ⟨ad', b, hl, e1, _, hbe, hcb⟩ := (hc.below hnx.1).at_ (k := m) (by omega)
      obtain rfl : ad = ad' := by simpa using e1
      have hbk : back bs k = (m, b) := by
        unfold back
        rw [Hlen.out, ← hm, ← hbe]; simp [List.getD_eq_getElem?_getD, hl]
      have HS : Hid (upto (back bs) (k + 1) = upto (back bs) k ++ [(m, b)]) := by show _ = _; rw [upto_succ, hbk]
      have hmi : (len : Int) - 1 - k = (m : Int) := by omega
      rw [hmi]
      clear hbe hbk e1
      have Hmi := Lib.hid hmi
      have hml : m < len := by omega
      have Hm := Lib.hid hm
      clear hmi hm
      obtain ⟨fn, tmps, assign, body, hy, hR⟩ := hY _ (m, b) wr hJs (by rw [upto_length]; exact hlt)
      dsimp only at hy
      gi_wp2
      refine hR.mono ?_
      rintro e W3 (⟨rfl, hJ3, hk3⟩ | ⟨rfl, hJx3⟩)
      · gi_wp2
        go_roundw
        case rel => exact ⟨k + 1, by omega, by have := Hmi.out; exact congrArg (Value.int .i64) (by omega), by rw [HS.out]; exact hJ3, hnx.trans hk3⟩
        case measure => simp [intOf]
      · gi_wp2
        refine bodyPost_ret (results_none rfl _ _ _) rfl ?_
        exact ⟨⟨_, rfl⟩, .inr ⟨_, ⟨k + 1, by omega, HS.out.symm⟩, hJx3⟩⟩
    · obtain rfl : k = len := by omega
      gi_wp2
      go_end0
      exact ⟨⟨_, rfl⟩, .inl ⟨_, rfl, hJs⟩⟩
set_option maxHeartbeats 1000000 in
theorem back_in (F : Fence) (n : Nat) (h6 : F.fn 74) (hro : F.round = none) (a : Option Addr) (len cap : Nat) (w : World) :
    CallsIn F n Try.prog 74 #[.slice a len cap] w fun e w' => e = .returned (.func (.func 88) #[] #[.pointer (some ⟨w.heap.size, 0, none⟩)]) ∧ w' = w.alloc (.cells #[.slice a len cap] 27) := by
  refine callsIn_of_wp Try.func74 rfl h6 ?_ hro
  simp only [Try.ntmps74, List.size_toArray, List.length_cons, List.length_nil, Nat.reduceAdd, Nat.reduceSub, Array.replicate_succ, Array.replicate_zero, List.push_toArray, List.append_toArray, List.nil_append, List.cons_append]
  gi_wp2
  go_ret
  exact ⟨rfl, rfl⟩
theorem back_stops (F : Fence) (n : Nat) (h8 : F.fn 88) (hro : F.round = none) (hn : 1 ≤ n) (Bx n₀ : Nat) (ad : Addr) (cap : Nat) (bs : List Byte) (hreach : bs.length ≤ 140737488351232) (w : World) (hBs : Bx < w.heap.size) (hn₀ : n₀ ≤ w.heap.size)
    (hc : w.cell? ⟨Bx, 0, none⟩ = some (.slice (some ad) bs.length cap)) (hI : Bs w n₀ (some ad) bs.length bs) (had : ad.block < n₀) :
    SeqStopsK F n Try.prog 88 #[.pointer (some ⟨Bx, 0, none⟩)] (fun x : Nat × Byte => #[Value.int .i64 (x.1 : Int), Value.int .u8 (n8 x.2)]) (KeepB n₀ Bx) (fun ys => ys = upto (back bs) bs.length)
      (fun pre => ∃ k, k ≤ bs.length ∧ pre = upto (back bs) k) bs.length w := fun l J Jx W hW _ _ hY h0 => by
  have hc' := (hW.cell (p := ⟨Bx, 0, none⟩) hBs).trans hc
  exact back1_in F n h8 hro hn l Bx n₀ bs.length cap ad bs rfl hreach had J Jx hY W hc' (hI.below (hW.mono hn₀)) h0
/-- the number of what has come -/
def numOf (l : List (Nat × Byte)) : Int := l.foldl (fun n x => n * 256 + n8 x.2) 0
theorem numOf_snoc (l : List (Nat × Byte)) (x : Nat × Byte) : numOf (l ++ [x]) = numOf l * 256 + n8 x.2 := by unfold numOf; rw [List.foldl_append]; rfl
theorem numOf_bd (l : List (Nat × Byte)) : 0 ≤ numOf l ∧ numOf l < 256 ^ l.length := by
  rcases List.eq_nil_or_concat l with h | ⟨l', a, h⟩
  · subst h; simp [numOf]
  · subst h
    have ih := numOf_bd l'
    have hb := n8_bd a.2
    rw [List.concat_eq_append, numOf_snoc, List.length_append, List.length_singleton, Int.pow_succ]
    omega
termination_by l.length
decreasing_by subst h; simp
theorem numOf_small {l : List (Nat × Byte)} (h : l.length ≤ 3) : 0 ≤ numOf l ∧ numOf l < 16777216 := by
  obtain ⟨h0, h1⟩ := numOf_bd l
  refine ⟨h0, Int.lt_of_lt_of_le h1 ?_⟩
  have : l.length = 0 ∨ l.length = 1 ∨ l.length = 2 ∨ l.length = 3 := by omega
  rcases this with e | e | e | e <;> rw [e] <;> decide
theorem or_byte (n c : Int) (hn : 0 ≤ n) (hn1 : n < 16777216) (hc : 0 ≤ c) (hc1 : c ≤ 255) : bits .or .i64 (n * 256) c = n * 256 + c := by
  obtain ⟨n, rfl⟩ := Int.eq_ofNat_of_zero_le hn
  obtain ⟨c, rfl⟩ := Int.eq_ofNat_of_zero_le hc
  have q : (((2 ^ 64 : Nat)) : Int) = 18446744073709551616 := by decide
  have e : (BitVec.ofInt 64 ((n : Int) * 256) ||| BitVec.ofInt 64 (c : Int)).toNat = n * 256 + c := by
    rw [BitVec.toNat_or, BitVec.toNat_ofInt, BitVec.toNat_ofInt]
    have e1 : ((n : Int) * 256 % (((2 ^ 64 : Nat)) : Int)).toNat = 2 ^ 8 * n := by rw [q]; omega
    have e2 : ((c : Int) % (((2 ^ 64 : Nat)) : Int)).toNat = c := by rw [q]; omega
    rw [e1, e2, ← Nat.two_pow_add_eq_or_of_lt (by omega)]
    omega
  show IntKind.i64.wrap ((BitVec.ofInt 64 ((n : Int) * 256) ||| BitVec.ofInt 64 (c : Int)).toNat : Int) = _
  rw [e]
  exact IntWalk.i64_in _ (by omega)
/-- the number of the first four bytes, the lowest first -/
def numLE (bs : List Byte) : Int := n8 (bs.getD 0 0#8) + 256 * n8 (bs.getD 1 0#8) + 65536 * n8 (bs.getD 2 0#8) + 16777216 * n8 (bs.getD 3 0#8)
theorem numOf_four (bs : List Byte) (h : bs.length = 4) : numOf (upto (back bs) 4) = numLE bs := by
  have e : upto (back bs) 4 = [back bs 0, back bs 1, back bs 2, back bs 3] := rfl
  rw [e]
  unfold numOf numLE back
  rw [h]
  simp only [List.foldl_cons, List.foldl_nil, Nat.reduceSub]
  omega
set_option maxRecDepth 100000 in
set_option maxHeartbeats 2000000 in
theorem number_in (F : Fence) (n : Nat) (h3 : F.fn 62) (h5 : F.fn 74) (h7 : F.fn 88) (hro : F.round = none) (hn : 3 ≤ n) (ad : Addr) (len cap : Nat) (bs : List Byte) (w : World) (h4 : 4 ≤ len) (hlc : len ≤ cap) (hcm : cap ≤ 9223372036854775807) (hI : Bs w w.heap.size (some ad) len bs) (had : ad.block < w.heap.size) :
    CallsIn F n Try.prog 62 #[.slice (some ad) len cap] w fun e W' => e = .returned (.int .i64 (numLE (bs.take 4))) ∧ Below w.heap.size w W' := by
  have h1 : 1 ≤ n := by omega
  have hl4 : (bs.take 4).length = 4 := by have := hI.len; simp; omega
  have hI4 : Bs w w.heap.size (some ad) 4 (bs.take 4) := by
    obtain ⟨m, rfl⟩ : ∃ m, len = 4 + m := ⟨len - 4, by omega⟩
    exact Bs.front hI
  refine callsIn_of_wp_marks Try.func62 rfl h3 ?_ hro
  simp only [Try.ntmps62, List.size_toArray, List.length_cons, List.length_nil, Nat.reduceAdd, Nat.reduceSub, Array.replicate_succ, Array.replicate_zero, List.push_toArray, List.append_toArray, List.nil_append, List.cons_append]
  gi_wp2_with (gi_at_call 74; refine (back_in F (n - 1) h5 hro _ _ _ _).mono ?_; rintro e w' ⟨rfl, rfl⟩)
  have bS := Boxed.new w 3 (.int .i64 0)
  have bN := Boxed.new (w.alloc (.cells #[.int .i64 0] 3)) 27 (.slice (some ad) 4 cap)
  rw [World.size_alloc] at bN
  have hB0 : Below w.heap.size w ((w.alloc (.cells #[.int .i64 0] 3)).alloc (.cells #[.slice (some ad) 4 cap] 27)) := ((Below.refl _ w).alloc (Nat.le_refl _) _).alloc (by simp) _
  have hst := back_stops F (n - 1) h7 hro (by omega) (w.heap.size + 1) w.heap.size ad cap (bs.take 4) (by omega) ((w.alloc (.cells #[.int .i64 0] 3)).alloc (.cells #[.slice (some ad) 4 cap] 27)) (by simp) (by simp; omega) (by rw [hl4]; exact bN.cell) (by rw [hl4]; exact hI4.below hB0) had
  rw [hl4] at hst
  refine wpIn_rangeFunc_ownG hro h1 (gf := 88) (lb := #[.pointer (some ⟨w.heap.size + 1, 0, none⟩)]) rfl h7 (enters_of Try.func88 (by kernel_rfl) rfl)
    hst KeepB.trans (keepB_b (by simp; omega) (by simp)) (Below.refl _ _) (fun _ => rfl)
    (fun pre W => (W.cell? ⟨w.heap.size, 0, none⟩ = some (.int .i64 (numOf pre)) ∧ W.frozen? ⟨w.heap.size, 0, none⟩ = false) ∧ Below w.heap.size w W)
    (fun _ _ _ => False)
    (OwnFrom.and (Own.from (fun s A B row hs hg hr => ⟨cell_kept hs.1 hg hr, (frozen_kept hs.1 hg hr).trans hs.2⟩) _) (ownFrom_below (Nat.le_refl _) (by simp; omega)))
    (fun _ _ _ _ _ hs _ _ => hs)
    ⟨⟨(bS.alloc _).cell, (bS.alloc _).frozen⟩, hB0⟩
    (fun x => { tmps := #[.slice (some ad) len cap, undef, .int .i64 0, .pointer (some ⟨w.heap.size, 0, none⟩), undef, .int .u8 (n8 x.2), .slice (some ad) len cap, .slice (some ad) 4 cap, .func (.func 88) #[] #[.pointer (some ⟨w.heap.size + 1, 0, none⟩)], .int .i64 (x.1 : Int), .int .u8 (n8 x.2), undef, undef, undef, undef, undef, undef], defers := [] }) ?assign ?body ?done ?stop
  case assign =>
    intro l x W K hK
    gi_wp2
    exact hK
  case body =>
    rintro l pre x W ⟨⟨hc, hf⟩, hB⟩ hlt
    obtain ⟨m0, m1⟩ := numOf_small (l := pre) (by omega)
    obtain ⟨b0, b1⟩ := n8_bd x.2
    have ho := or_byte (numOf pre) (n8 x.2) m0 m1 b0 b1
    have hs := numOf_snoc pre x
    have Hs := Lib.hid hs
    clear hs
    generalize numOf pre = N at *
    generalize n8 x.2 = X at *
    gi_wp2
    exact ⟨(KeepsOthers.setCell _ _ _).from _, ⟨(Below.refl w.heap.size W).setCell (p := ⟨w.heap.size, 0, none⟩) (Nat.le_refl _) _, Below.heap_setCell _ _ _ _ (by simp)⟩, ⟨by rw [Hs.out]; exact World.cell?_setCell_same' _ _ _ (by rw [hc]; rfl), by rw [World.frozen?_setCell]; exact hf⟩, hB.setCell (p := ⟨w.heap.size, 0, none⟩) (Nat.le_refl _) _⟩
  case done =>
    rintro D ys W hD rfl ⟨⟨hc, _⟩, hB⟩ hK
    rw [numOf_four _ hl4] at hc
    gi_wp2
    refine ⟨by simp, .inl ⟨_, _, rfl, run_takeDeferred hK, ?_⟩⟩
    exact ⟨_, results_tmp rfl _ _ _, rfl, hB.trans (belowK_b (w := w) (Nat.le_refl _) W D _ _ (by simp at hD; omega) hK rfl rfl)⟩
  case stop =>
    rintro D c pre W _ _ h _
    exact h.elim
theorem number_c (ad : Addr) (len cap : Nat) (bs : List Byte) (w : World) (h4 : 4 ≤ len) (hlc : len ≤ cap) (hcm : cap ≤ 9223372036854775807) (hI : Bs w w.heap.size (some ad) len bs) (had : ad.block < w.heap.size) :
    Calls Try.prog 62 #[.slice (some ad) len cap] w fun e W' => e = .returned (.int .i64 (numLE (bs.take 4))) ∧ Below w.heap.size w W' :=
  (callsIn_wide (n := 3)).1 (number_in Fence.wide 3 trivial trivial trivial rfl (by decide) ad len cap bs w h4 hlc hcm hI had)
end Crc
end Go.Proofs.Ytnaidihoijociaa
