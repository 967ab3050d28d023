/- WorldOrder: the walk. -/
import Derived.Test.YthccojfflmfggaaWorldOrderL
import Derived.Test.YthccojfflmfggaaWorldLife
import Derived.Test.YthccojfflmfggaaWorS
namespace Go.Proofs.Ythccojfflmfggaa.worldOrder
open Go.RowKit Wo
open worldLife (has_self has_turn)
/-- a runtime, and a row of bools of the caller's -/
structure InvB (W w : World) (g : Nat) (s : St) (A : Option Addr) (n c : Nat) (os : List Bool) : Prop where
  below : Below W.heap.size W w
  has : Has w (fun k => k < W.heap.size ∨ Ro.blk A = some k) w g s
  row : Ro.Row w 4 1 A n c (os.map Value.bool)
section
variable {W w w' : World} {g n c m d : Nat} {s s' : St} {A A2 : Option Addr} {os xs ys : List Bool}
theorem InvB.run (h : InvB W w g s A n c os) (h2 : Has w (fun k => k < W.heap.size ∨ Ro.blk A = some k) w' g s') : InvB W w' g s' A n c os :=
  ⟨h.below.trans (h2.only.below h.below.size (fun k hk c => c (.inl hk))), has_self h2, h.row.only h2.only (fun k hk c => c (.inr hk))⟩
theorem InvB.free (h : InvB W w g s A n c os) (hb : Below w.heap.size w w') : InvB W w' g s A n c os := h.run (h.has.below hb)
theorem InvB.make (hb : Below W.heap.size W w) (h : Has W (fun k => k < W.heap.size) w g s) (hs : Mem.Sl W W.heap.size 1 A n (xs.map Value.bool)) (hs2 : Mem.Sl W W.heap.size 1 A2 m (ys.map Value.bool)) (hn : n ≤ 1000) (hm : m ≤ 1000) :
    ∃ A1 c1 w1 A' c' w', (Builtin.append_ #[22, 22] 22 #[.slice (some ⟨w.heap.size, 0, none⟩) 0 0, .slice A n c]).run Try.prog (w.alloc (.cells #[] 4)) = .ok (.slice A1 n c1) w1 ∧
      (Builtin.append_ #[22, 22] 22 #[.slice A1 n c1, .slice A2 m d]).run Try.prog w1 = .ok (.slice A' (n + m) c') w' ∧ InvB W w' g s A' (n + m) c' (xs ++ ys) := by
  have hz := hb.size
  have h0 : Below w.heap.size w (w.alloc (.cells #[] 4)) := (Below.refl _ _).alloc (Nat.le_refl _) _
  have hnew : Ro.Row (w.alloc (.cells #[] 4)) 4 1 (some ⟨w.heap.size, 0, none⟩) 0 0 [] := Ro.Row.new (cs := #[]) rfl (by decide)
  have one : ∀ l : List Bool, ∀ u ∈ l.map Value.bool, u.oneCell' = true := by intro l u hu; obtain ⟨b, _, rfl⟩ := List.mem_map.1 hu; rfl
  obtain ⟨A1, c1, w1, hr1, hR1, hO1, hA1⟩ := Ro.app (P := Try.prog) (ty := 22) (c2 := c) elb hnew (hs.below (hb.trans (h0.mono hz))) (one _) (by unfold maxLen; omega) (by omega)
  simp only [Nat.zero_add, List.nil_append] at hr1 hR1
  have f1 : ∀ k, Ro.blk A1 = some k → w.heap.size ≤ k := by
    intro k hk
    rcases hA1 with e | e
    · rw [e] at hk
      have : w.heap.size = k := by simpa [Ro.blk] using hk
      omega
    · rw [e] at hk
      have : w.heap.size + 1 = k := by simpa using hk
      omega
  have b1 : Below w.heap.size w w1 := h0.trans (hO1.below (by simp) (fun k hk e => by
    have : w.heap.size = k := by simpa [Ro.blk] using e
    omega))
  obtain ⟨A', c', w', hr2, hR2, hO2, hA2⟩ := Ro.app (P := Try.prog) (ty := 22) (c2 := d) elb hR1 (hs2.below (hb.trans (b1.mono hz))) (one _) (by unfold maxLen; omega) (by omega)
  have b2 : Below w.heap.size w w' := b1.trans (hO2.below b1.size (fun k hk e => by have := f1 k e; omega))
  refine ⟨A1, c1, w1, A', c', w', hr1, hr2, hb.trans (b2.mono hz), h.rebase b2 (fun k hk => ?_), by rw [List.map_append]; exact hR2⟩
  rcases hk with hk | hk
  · exact ⟨by have := b2.size; omega, .inl hk⟩
  · refine ⟨hR2.lt hk, .inr ?_⟩
    rcases hA2 with e | e
    · rw [e] at hk; exact f1 k hk
    · rw [e] at hk
      have : w1.heap.size = k := by simpa using hk
      have := b1.size
      omega
end
theorem str_c (i : Nat) (hi : i < 300) (w : World) (a b : Int) (ha : a = (i / 100 : Nat)) (hb : b = (i % 100 : Nat)) : (convert 34 9 (.slice (some ⟨w.heap.size, 0, none⟩) 2 2)).run Try.prog (w.alloc (.cells #[.int .u8 a, .int .u8 b] 5)) = .ok (.string (idN i)) (w.alloc (.cells #[.int .u8 a, .int .u8 b] 5)) := by
  subst ha hb
  have e1 : (UInt8.ofNat (i / 100)).toNat = i / 100 := by simp [UInt8.toNat_ofNat]; omega
  have e2 : (UInt8.ofNat (i % 100)).toNat = i % 100 := by simp [UInt8.toNat_ofNat]; omega
  have hc := Mem.Cells.new w #[.int .u8 ((i / 100 : Nat) : Int), .int .u8 ((i % 100 : Nat) : Int)] 5 (0, 0)
  exact run_convert_bytes_back (P := Try.prog) _ 34 9 5 ⟨w.heap.size, 0, none⟩ 2 [UInt8.ofNat (i / 100), UInt8.ofNat (i % 100)] Try.underlying34 Try.underlying5 Try.underlying9 (fun j hj => by
    rw [hc j (by simpa using hj)]
    match j, hj with
    | 0, _ => show some (Value.int .u8 ((i / 100 : Nat) : Int)) = some (.int .u8 ((UInt8.ofNat (i / 100)).toNat : Int)); rw [e1]
    | 1, _ => show some (Value.int .u8 ((i % 100 : Nat) : Int)) = some (.int .u8 ((UInt8.ofNat (i % 100)).toNat : Int)); rw [e2])
set_option maxRecDepth 100000 in
set_option maxHeartbeats 4000000 in
theorem core (A A2 : Option Addr) (n c m d : Nat) (xs ys : List Bool) (z : Int) (w : World) (h : Mem.Sl w w.heap.size 1 A n (xs.map Value.bool)) (h2 : Mem.Sl w w.heap.size 1 A2 m (ys.map Value.bool)) (hz0 : 0 ≤ z) (hz1 : z ≤ 255) :
    Calls Try.prog 3 #[.slice A n c, .slice A2 m d, .int .u8 z] w fun e w' => e = .returned (.bool true) ∧ Below w.heap.size w w' := by
  go_enter Try.func3, Try.ntmps3
  go_wp2_with fail
  refine (wawake_c _).mono ?_
  rintro e w1 ⟨rfl, hb1⟩
  go_wp2_with fail
  · refine (wawake_c _).mono ?_
    rintro e w2 ⟨rfl, hb2⟩
    go_wp2_with fail
    go_ret
    exact ⟨rfl, hb1.trans (hb2.mono hb1.size)⟩
  · have hn : n ≤ 100 := by omega
    have hm : m ≤ 100 := by omega
    have hla : xs.length = n := by have := h.1; simpa using this
    have hlb : ys.length = m := by have := h2.1; simpa using this
    have hlo : (xs ++ ys).length = n + m := by simp [hla, hlb]
    refine (wnew_c 1 _).mono ?_
    rintro e w2 ⟨rfl, hat, hb2⟩
    have H := Lib.hid (Has.start (ks := fun k => k < w.heap.size) (hb1.trans (hb2.mono hb1.size)) (fun k hk => hk) hat (fun k hk => by have := hb1.size; omega))
    generalize w1.heap.size = g at *
    clear hat hb1 hb2
    obtain ⟨hsl, hsz⟩ := worldFull.has_sl H.out (Nat.le_refl _) (fun _ h => h) h
    have HF := Lib.hid ((feedH (c := c) H.out (hsl.more hsz) (by omega) (by show 0 ≤ 4096; decide)).mono (R' := fun e wr => e = .returned (.int .i64 0) ∧ Has w (fun k => k < w.heap.size) wr g ⟨1, xs, [], []⟩) (fun e w' p => p.2 (by show 0 + n ≤ 4096; omega)))
    clear hsl hsz H
    go_wp2_with fail
    refine HF.out.mono ?_
    rintro e w3 ⟨rfl, hp⟩
    have H3 := Lib.hid hp
    obtain ⟨hsl, hsz⟩ := worldFull.has_sl H3.out (Nat.le_refl _) (fun _ h => h) h2
    have HF2 := Lib.hid ((feedH (c := d) H3.out (hsl.more hsz) (by omega) (by show xs.length ≤ 4096; omega)).mono (R' := fun e wr => e = .returned (.int .i64 0) ∧ Has w (fun k => k < w.heap.size) wr g (sO (xs ++ ys) 0)) (fun e w' p => p.2 (by show xs.length + m ≤ 4096; omega)))
    clear HF hp hsl hsz H3
    go_wp2_with fail
    refine HF2.out.mono ?_
    rintro e w4 ⟨rfl, hp⟩
    obtain ⟨A5, c5, w5, A6, c6, w6, hr1, hr2, hI⟩ := InvB.make (c := c) (d := d) (hp.only.below (Nat.le_refl _) (fun k hk hn => hn hk)) hp h h2 (by omega) (by omega)
    have I := Lib.hid hI
    have Hl := Lib.hid hlo
    clear HF2 hp hI hla hlb hlo h h2
    generalize xs ++ ys = os at *
    have hq : z % 8 ≤ 7 ∧ 0 ≤ z % 8 := by omega
    go_wp2_with (first | (at_builtin; refine Ro.wpList_app rfl _ _ _ _ rfl _ _ rfl rfl hr1 ?_; clear hr1) | (at_builtin; refine Ro.wpList_app rfl _ _ _ _ rfl _ _ rfl rfl hr2 ?_; clear hr2))
    generalize z % 8 = qq at *
    obtain ⟨q, rfl⟩ : ∃ q : Nat, qq = q := ⟨qq.toNat, by omega⟩
    have hq7 : q ≤ 7 := by omega
    clear hq
    go_loopw [10] (fun vi wr => ∃ i : Nat, i ≤ n + m + q ∧ vi = .int .i64 i ∧ Hid (InvB w wr g (sO os i) A6 (n + m) c6 os)) (fun i _ => (n + m + q) - (intOf i).toNat)
    case atStart => exact ⟨0, by omega, rfl, I⟩
    case round =>
      clear I
      obtain ⟨i, hi, rfl, HI⟩ := hrel
      by_cases hlt : i < n + m + q
      · have hi3 : i < 300 := by omega
        have hlen := Hl.out
        have I1 := Lib.hid (HI.out.free ((Below.refl _ _).alloc (Nat.le_refl _) (.cells #[.int .u8 ((i : Int) / 100), .int .u8 ((i : Int) % 100)] 5)))
        have hcv := str_c i hi3 wr ((i : Int) / 100) ((i : Int) % 100) (by omega) (by omega)
        have hgo := good_o (os := os) (i := i) (by omega) (by omega)
        have hgm := good_m (os := os) (i := i) (by omega) (by omega)
        clear HI hlen
        go_wp2_with fail
        clear hcv
        generalize wr.alloc (.cells #[.int .u8 ((i : Int) / 100), .int .u8 ((i : Int) % 100)] 5) = wa at *
        refine (createH I1.out.has hgo).mono ?_
        rintro e w7 ⟨-, hq⟩
        obtain ⟨e1, e2⟩ := create_o (os := os) hi3
        obtain ⟨rfl, hp⟩ := hq e1
        have I2 := Lib.hid (I1.out.run (hp.to e2))
        clear I1 hq hp e1 e2
        go_wp2_with fail
        refine (pullH I2.out.has hgm).mono ?_
        rintro e w8 ⟨-, hq⟩
        obtain ⟨e1, e2, e3, e4⟩ := pull_o (os := os) hi3
        obtain ⟨rfl, hp⟩ := hq e1
        rw [e2, e3, Bool.not_false, Bool.and_true]
        have I3 := Lib.hid (I2.out.run (hp.to e4))
        clear I2 hq hp e1 e2 e3 e4 hgo hgm
        by_cases hlo : i < n + m
        · obtain ⟨ad, b, hl, rfl, _, hb, hcell⟩ := Bl.at_ (show Bl w8 w8.heap.size A6 (n + m) os from I3.out.row.sl) hlo
          rw [show os.getD i true = b from by rw [List.getD_eq_getElem?_getD, List.getElem?_eq_getElem hl]; exact hb]
          have hloi : (i : Int) < (n : Int) + (m : Int) := by omega
          clear hl hb
          cases b <;>
          · go_wp2_with fail
            go_roundw
            case rel => exact ⟨i + 1, by omega, by go_num, I3⟩
            case measure => simp [intOf]; omega
        · rw [show os.getD i true = true from by rw [List.getD_eq_getElem?_getD, List.getElem?_eq_none (by have := Hl.out; omega)]; rfl]
          have hloi : ¬ (i : Int) < (n : Int) + (m : Int) := by omega
          go_wp2_with fail
          go_roundw
          case rel => exact ⟨i + 1, by omega, by go_num, I3⟩
          case measure => simp [intOf]; omega
      · obtain rfl : i = n + m + q := by omega
        have hlen := Hl.out
        have hgo := good_o (os := os) (i := n + m + q) (by omega) (by omega)
        have l0 : (sO os (n + m + q)).outs.length = 0 := by show (os.drop (n + m + q)).length = 0; simp; omega
        have l1 : (sO os (n + m + q)).bx.length = n + m + q := len_b
        clear hlen
        go_wp2_with fail
        refine (waitingH HI.out.has hgo).mono ?_
        rintro e w7 ⟨⟨Ad, cd, rfl, -, -, -⟩, hp⟩
        have I2 := Lib.hid (HI.out.run hp)
        rw [l0]
        clear HI hp l0
        go_wp2_with fail
        refine (containersH I2.out.has hgo).mono ?_
        rintro e w8 ⟨⟨Ac, cc, rfl, -, -, -⟩, hp⟩
        have I3 := Lib.hid (I2.out.run hp)
        rw [l1]
        clear I2 hp l1
        go_wp2_with fail
        go_ret
        exact ⟨rfl, I3.out.below⟩
  · refine (wawake_c _).mono ?_
    rintro e w2 ⟨rfl, hb2⟩
    go_wp2_with fail
    go_ret
    exact ⟨rfl, hb1.trans (hb2.mono hb1.size)⟩
theorem walk (v1 v2 v3 : Value) (w : World) (h1 : Frame.Arg Try.prog w 22 v1) (h2 : Frame.Arg Try.prog w 22 v2) (h3 : Frame.Arg Try.prog w 5 v3) :
    Calls Try.prog 3 #[v1, v2, v3] w fun e w' => e = .returned (.bool true) ∧ Below w.heap.size w w' := by
  obtain ⟨A, n, c, xs, rfl, _, _, _, h⟩ := h1.bools Try.underlying22 Try.underlying4 (by kernel_rfl)
  obtain ⟨A2, m, d, ys, rfl, _, _, _, h2⟩ := h2.bools Try.underlying22 Try.underlying4 (by kernel_rfl)
  obtain ⟨z, rfl, hz⟩ := h3.int Try.underlying5
  exact core A A2 n c m d xs ys z w h h2 (Frame.bd_u8 hz).1 (Frame.bd_u8 hz).2
end Go.Proofs.Ythccojfflmfggaa.worldOrder
