/- WorldFull: the walk. -/
import Derived.Test.YthccojfflmfggaaWorA
import Derived.Laws.MakeOwn
import Derived.Test.YthccojfflmfggaaFrame
namespace Go.Proofs.Ythccojfflmfggaa.worldFull
open Go.RowKit Wo
theorem make_c (k : Nat) (hk : k ≤ 5000) : ∃ M : Array Value, M.size = k ∧ M.toList = (List.replicate k false).map Value.bool ∧ ∀ u : World, (Instr.makeSlice 22 (.int .i64 (k : Int)) (.int .i64 (k : Int))).run Try.prog u = .ok (.slice (some ⟨u.heap.size, 0, none⟩) k k) (u.alloc (.cells M 4)) := by
  obtain ⟨i, hi, hz, h1, h2⟩ := info_parts elb.info
  have e : (madeCells (Value.bool false).cells (((k : Nat) : Int).toNat * i.size)).toList = (List.replicate k false).map Value.bool := by
    rw [h1]
    apply List.ext_getElem
    · simp [madeCells]
    · intro j h3 h4
      simp [madeCells, Value.cells, Nat.mod_one]
  refine ⟨madeCells (Value.bool false).cells (((k : Nat) : Int).toNat * i.size), ?_, e, fun u => ?_⟩
  · simp [madeCells, h1]
  exact run_makeSlice (P := Try.prog) u 22 4 i (.bool false) elb.ty hi hz .i64 .i64 (k : Int) (k : Int) (by omega) (by omega) (by rw [h1]; simp; omega) (by rw [h2]; omega) (by omega)
theorem has_sl {wr w : World} {ks : Nat → Prop} {g : Nat} {s : St} {B sz n : Nat} {A : Option Addr} {xs : List Value} (h : Has wr ks w g s) (hB : B ≤ wr.heap.size) (hk : ∀ k, k < B → ks k) (hs : Mem.Sl wr B sz A n xs) : Mem.Sl w B sz A n xs ∧ B ≤ w.heap.size :=
  have hb := h.only.below hB (fun k h1 hn => hn (hk k h1))
  ⟨hs.below hb, Nat.le_trans hB h.only.size⟩
set_option maxRecDepth 100000 in
set_option maxHeartbeats 4000000 in
theorem core (z : Int) (A : Option Addr) (n c : Nat) (bs : List Bool) (w : World) (h : Mem.Sl w w.heap.size 1 A n (bs.map Value.bool)) (hz0 : 0 ≤ z) (hz1 : z ≤ 65535) :
    Calls Try.prog 6 #[.int .u16 z, .slice A n c] w fun e w' => e = .returned (.bool true) ∧ Below w.heap.size w w' := by
  obtain ⟨m, rfl⟩ : ∃ m : Nat, z = m := ⟨z.toNat, by omega⟩
  go_enter Try.func6, Try.ntmps6
  go_wp2_with fail
  refine (wawake_c _).mono ?_
  rintro e w1 ⟨rfl, hb1⟩
  go_wp2_with fail
  · refine (wawake_c _).mono ?_
    rintro e w2 ⟨rfl, hb2⟩
    go_wp2_with fail
    go_ret
    exact ⟨rfl, hb1.trans (hb2.mono hb1.size)⟩
  · rename_i hn
    have hk1 : (m : Int) % 4097 ≤ 4096 ∧ 0 ≤ (m : Int) % 4097 := by omega
    generalize (m : Int) % 4097 = kk at *
    obtain ⟨k, rfl⟩ : ∃ k : Nat, kk = k := ⟨kk.toNat, by omega⟩
    have hk : k ≤ 4096 := by omega
    clear hk1
    have hnn : n ≤ 5000 := by omega
    have hln : bs.length = n := by have := h.1; simpa using this
    refine (wnew_c 0 _).mono ?_
    rintro e w2 ⟨rfl, hat, hb2⟩
    have hbb := hb1.trans (hb2.mono hb1.size)
    have H := Lib.hid (Has.start (ks := fun k => k < w.heap.size) hbb (fun k hk => hk) hat (fun k hk => by have := hb1.size; omega))
    obtain ⟨M, hMs, hMl, hM⟩ := make_c k (by omega)
    have HF := Lib.hid ((feedH (wr := w) (bs := List.replicate k false) (H.out.below ((show Below w2.heap.size w2 (w2.alloc (.cells M 4)).drew from ((Below.refl _ _).alloc (Nat.le_refl _) _).drew))) (A := some ⟨w2.heap.size, 0, none⟩) (n := k) (c := k)
      (Mem.Sl.more (Mem.new_sl rfl (by rw [hMs]; simp) hMl) (by simp)) (by omega) (by show (0 : Nat) ≤ 4096; omega)).mono (R' := fun e w3 => e = .returned (.int .i64 0) ∧ Has w (fun k => k < w.heap.size) w3 w1.heap.size ⟨0, List.replicate k false, [], []⟩) (fun e w3 p => p.2 (by show 0 + k ≤ 4096; omega)))
    generalize w1.heap.size = g at *
    clear hat hb1 hb2 H hbb
    go_wp2_with fail
    go_region_with
      (go_at_call 13
       refine HF.out.mono ?_
       rintro e w3 ⟨rfl, hp⟩)
    have H3 := Lib.hid hp
    clear HF hp hM hMl hMs
    obtain ⟨hsl, hsz⟩ := has_sl H3.out (Nat.le_refl _) (fun _ h => h) h
    have HM := Lib.hid (feedH (c := c) H3.out (hsl.more hsz) (by omega) (by show (List.replicate k false).length ≤ 4096; simp; omega))
    have hle : (List.replicate k false).length = k := by simp
    by_cases hf : 4096 < k + n
    · have HM2 := Lib.hid (HM.out.mono (R' := fun e w4 => e = .returned (.int .i64 6) ∧ Has w (fun k => k < w.heap.size) w4 g ⟨0, List.replicate k false, [], []⟩) (fun e w4 p => p.1 (by show 4096 < (List.replicate k false).length + n; rw [hle]; omega)))
      have hfi : (4096 : Int) < (k : Int) + (n : Int) := by omega
      clear HM hsl hsz hle h
      go_wp2_with fail
      refine HM2.out.mono ?_
      rintro e w4 ⟨rfl, hp⟩
      have H4 := Lib.hid hp
      clear H3 HM2 hp
      go_wp2_with fail
      refine (waitingH H4.out ⟨List.Pairwise.nil, List.Pairwise.nil, (fun p hp => by cases hp), Nat.zero_le _, Nat.zero_le _, by show (List.replicate k false).length ≤ 4096; simp; omega⟩).mono ?_
      rintro e w5 ⟨⟨Ad, cd, rfl, -, -, -⟩, hp⟩
      have H5 := Lib.hid hp
      have hle : (St.outs ⟨0, List.replicate k false, [], []⟩).length = k := by simp
      rw [hle]
      clear H4 hp hle
      go_wp2_with fail
      go_ret
      exact ⟨rfl, H5.out.only.below (Nat.le_refl _) (fun k hk hn => hn hk)⟩
    · have HM2 := Lib.hid (HM.out.mono (R' := fun e w4 => e = .returned (.int .i64 0) ∧ Has w (fun k => k < w.heap.size) w4 g ⟨0, List.replicate k false ++ bs, [], []⟩) (fun e w4 p => p.2 (by show (List.replicate k false).length + n ≤ 4096; rw [hle]; omega)))
      have hfi : ¬ (4096 : Int) < (k : Int) + (n : Int) := by omega
      clear HM hsl hsz hle h
      go_wp2_with fail
      refine HM2.out.mono ?_
      rintro e w4 ⟨rfl, hp⟩
      have H4 := Lib.hid hp
      clear H3 HM2 hp
      go_wp2_with fail
      refine (waitingH H4.out ⟨List.Pairwise.nil, List.Pairwise.nil, (fun p hp => by cases hp), Nat.zero_le _, Nat.zero_le _, by show (List.replicate k false ++ bs).length ≤ 4096; simp; omega⟩).mono ?_
      rintro e w5 ⟨⟨Ad, cd, rfl, -, -, -⟩, hp⟩
      have H5 := Lib.hid hp
      have hle : (St.outs ⟨0, List.replicate k false ++ bs, [], []⟩).length = k + n := by simp; omega
      rw [hle]
      clear H4 hp hle
      go_wp2_with fail
      go_ret
      exact ⟨rfl, H5.out.only.below (Nat.le_refl _) (fun k hk hn => hn hk)⟩
theorem walk (v1 v2 : Value) (w : World) (h1 : Frame.Arg Try.prog w 50 v1) (h2 : Frame.Arg Try.prog w 22 v2) :
    Calls Try.prog 6 #[v1, v2] w fun e w' => e = .returned (.bool true) ∧ Below w.heap.size w w' := by
  obtain ⟨z, rfl, hz⟩ := h1.int Try.underlying50
  obtain ⟨A, n, c, bs, rfl, _, _, _, h⟩ := h2.bools Try.underlying22 Try.underlying4 (by kernel_rfl)
  exact core z A n c bs w h (Frame.bd_u16 hz).1 (Frame.bd_u16 hz).2
end Go.Proofs.Ythccojfflmfggaa.worldFull
