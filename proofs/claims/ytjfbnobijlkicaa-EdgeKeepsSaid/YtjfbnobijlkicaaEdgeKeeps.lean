/- EdgeKeeps: the walk. -/
import Derived.Test.YtjfbnobijlkicaaEdgeC
import Derived.Test.YtjfbnobijlkicaaFrame
namespace Go.Proofs.Ytjfbnobijlkicaa.edgeKeeps
open Go.RowKit Fl Rw
set_option maxRecDepth 100000 in
set_option maxHeartbeats 4000000 in
theorem core (A : Option Addr) (n c : Nat) (zs : List Int) (w : World) (h : Mem.Ints w w.heap.size .u64 A n zs) (h64 : ∀ z ∈ zs, 0 ≤ z ∧ z < 18446744073709551616) :
    Calls Try.prog 7 #[.slice A n c] w fun e w' => e = .returned (.bool true) ∧ Below w.heap.size w w' := by
  have fb := xfrom
  have hzl := h.len
  obtain ⟨bs, hbs⟩ : ∃ bs, bs = words zs := ⟨_, rfl⟩
  have hlen : bs.length = n := by rw [hbs, words_len, hzl]
  have hb64 : ∀ b ∈ bs, b < 18446744073709551616 := by
    intro b hb
    rw [hbs] at hb
    obtain ⟨z, hz, rfl⟩ := List.mem_map.1 hb
    have := h64 z hz
    omega
  have HB : Hid (∀ k (hk : k < zs.length) (hk2 : k < bs.length), zs[k] = (bs[k] : Int)) := by
    intro k hk hk2
    subst hbs
    have := h64 _ (List.getElem_mem hk)
    simp [words]
    omega
  clear hbs h64
  go_enter Try.func7, Try.ntmps7
  go_wp2_with fail
  refine (eawake_c _).mono ?_
  rintro e w1 ⟨rfl, L1⟩
  by_cases hn : 300 < n
  · have d : decide ((n : Int) > 300) = true := decide_eq_true (by omega)
    go_wp2_with fail
    refine (eawake_c _).mono ?_
    rintro e w2 ⟨rfl, L2⟩
    go_wp2_with fail
    go_ret
    exact ⟨rfl, L1.trans (L2.mono L1.size)⟩
  · have d : decide ((n : Int) > 300) = false := decide_eq_false (by omega)
    go_wp2_with fail
    go_loopw [3, 4] (fun vf vi wr => ∃ k : Nat, k ≤ n ∧ vi = .int .i64 k ∧ Below w.heap.size w wr ∧ ∃ A' c', vf = .slice A' k c' ∧ FRow wr w.heap.size A' k c' (bs.take k)) (fun _ i _ => n - (intOf i).toNat)
    case atStart => exact ⟨0, by omega, rfl, L1, none, 0, rfl, Mem.own_nil⟩
    case round =>
      clear L1
      obtain ⟨k, hk, rfl, hbr, A', c', rfl, hrow⟩ := hrel
      have zr := hbr.size
      by_cases hlt : k < n
      · obtain ⟨ad, z, hl, rfl, _, hze, hcell⟩ := (h.below hbr).at_ hlt
        have hkb : k < bs.length := by omega
        have hz := HB.out k hl hkb
        rw [hze] at hz
        subst hz
        have hP : Hid ((bs.take k).map fv ++ [.float .f64 bs[k]] = (bs.take (k + 1)).map fv) := Lib.hid (take_fv hkb)
        clear hze
        generalize bs[k] = b at *
        have lt1 : ∀ g, (Value.slice A' k c').ownBlock = some g → w.heap.size ≤ g := fun g hg => (World.ownsRow.lt hrow g hg).1
        go_wp2_with (at_builtin; refine Mem.wpList_app rfl rfl elf (base := w.heap.size) (World.ownsRow.alloc hrow _) rfl rfl (Mem.new_sl (n := 1) (xs := [.float .f64 b]) rfl rfl rfl) (by simp [Value.oneCell']) (N := k + 1) (ys := (bs.take (k + 1)).map fv) rfl hP.out (by unfold maxLen; omega) (by omega) (by simp; omega) ?_; intro A3 c3 w3 hown3 hg3 hat3)
        go_roundw
        case rel => exact ⟨k + 1, by omega, by go_num, (hbr.alloc zr _).grown hg3 (by simp; omega) lt1, A3, c3, rfl, hown3⟩
        case measure => simp [intOf]; omega
      · obtain rfl : k = n := by omega
        have hrow : FRow wr w.heap.size A' k c' bs := by rw [List.take_of_length_le (by omega)] at hrow; exact hrow
        obtain ⟨X, hX⟩ : ∃ X, X = wr := ⟨_, rfl⟩
        rw [← hX] at hbr hrow zr
        have hF : Fls X X.heap.size A' k bs := own_sl hrow
        have hall := Lib.hid (all_c A' k c' bs X hF hb64 (by omega))
        clear hrow
        subst hX
        go_wp2_with fail
        refine hall.out.mono ?_
        rintro e w5 ⟨hy, hno⟩
        cases hok : oks bs
        · rw [hok] at hy hno
          obtain ⟨rfl, hb5⟩ := hno rfl
          clear hy hno
          have L5 : Below w.heap.size w w5 := hbr.trans (hb5.mono zr)
          have hF5 : Fls w5 X.heap.size A' k bs := hF.below hb5
          have zX := hb5.size
          go_wp2_with fail
          go_loop [7] (fun vi => vi = .int .i64 0) (fun _ => 0)
          case atStart => rfl
          case round =>
            obtain rfl := hrel
            obtain ⟨Y, hY⟩ : ∃ Y, Y = w5 := ⟨_, rfl⟩
            rw [← hY] at L5 zX hF5
            clear hb5
            subst hY
            have hleast := Lib.hid (least_c A' k c' bs Y (hF5.more zX) hb64 (by omega))
            have HY := Lib.hid (hF5.more zX)
            have hl5 := h.below L5
            have zY := L5.size
            clear hF
            go_wp2_with fail
            refine hleast.out.mono ?_
            rintro e w6 ⟨rfl, rfl⟩
            clear hleast
            go_wp2_with fail
            go_loopw [8] (fun vi wr => ∃ i : Nat, i ≤ k ∧ vi = .int .i64 i ∧ ∃ q, wr = Y.drewN q) (fun i _ => k - (intOf i).toNat)
            case atStart => exact ⟨0, by omega, rfl, 0, rfl⟩
            case round =>
              obtain ⟨i, hi, rfl, q, rfl⟩ := hrel
              by_cases hlt3 : i < k
              · obtain ⟨ad, b, hl, rfl, _, hbe, hcell⟩ := hF5.at_ hlt3
                obtain ⟨ad2, z, hl2, rfl, _, hze, hcell2⟩ := hl5.at_ hlt3
                have hz := HB.out i hl2 hl
                rw [hbe, hze] at hz
                subst hz
                have hb1 : b < 18446744073709551616 := by rw [← hbe]; exact hb64 _ (List.getElem_mem hl)
                have hal := fun w => alike_c b b w hb1 hb1
                rw [cmpv_self] at hal
                have HA := Lib.hid hal
                clear hal hbe hze hb1
                obtain ⟨V, hV⟩ : ∃ V, V = Y.drewN q := ⟨_, rfl⟩
                have hcl1 : V.cell? (ad.add i) = some (.float .f64 b) := by rw [hV]; exact hcell
                have hcl2 : V.cell? (ad2.add i) = some (.int .u64 (b : Int)) := by rw [hV]; exact hcell2
                rw [← hV]
                have HV := Lib.hid hV
                clear hV hcell hcell2
                go_wp2_with fail
                go_quiet ((go_at_call 24; exact Calls.quiet_of_same ((HA.out _).mono (fun _ _ he => ⟨he.1, he.2.symm⟩))))
                go_wp2_with fail
                go_roundw
                case rel => exact ⟨i + 1, by omega, by go_num, _, by rw [HV.out]; exact World.drewN_drewN _ _ _⟩
                case measure => simp [intOf]; omega
              · obtain rfl : k = i := by omega
                have hall2 := Lib.hid (all_c A' k c' bs (Y.drewN q) (HY.out) hb64 (by omega))
                obtain ⟨Z, hZ⟩ : ∃ Z, Z = Y.drewN q := ⟨_, rfl⟩
                rw [← hZ] at hall2 ⊢
                have LZ : Below w.heap.size w Z := by rw [hZ]; exact Mem.below_drewN L5 q
                clear hZ HY hF5 hl5 L5
                have zZ := LZ.size
                go_wp2_with fail
                refine hall2.out.mono ?_
                rintro e w8 ⟨hy, hno⟩
                cases hok2 : oks bs
                · rw [hok2] at hy hno
                  obtain ⟨rfl, hb8⟩ := hno rfl
                  clear hy hno
                  have L8 : Below w.heap.size w w8 := LZ.trans (hb8.mono zZ)
                  go_wp2_with fail
                  go_loop [11] (fun vi => vi = .int .i64 0) (fun _ => 0)
                  case atStart => rfl
                  case round =>
                    obtain rfl := hrel
                    go_wp2_with fail
                    go_ret
                    exact ⟨rfl, L8⟩
                · rw [hok2] at hy hno
                  obtain ⟨A8, c8, rfl, hrow8, hb8⟩ := hy rfl
                  clear hy hno
                  have L8 : Below w.heap.size w w8 := LZ.trans (hb8.mono zZ)
                  have hs8 := own_sl hrow8
                  go_wp2_with fail
                  go_loop [11] (fun vi => ∃ i : Nat, i ≤ k ∧ vi = .int .i64 i) (fun i => k - (intOf i).toNat)
                  case atStart => exact ⟨0, by omega, rfl⟩
                  case round =>
                    obtain ⟨i, hi, rfl⟩ := hrel
                    by_cases hlt4 : i < k
                    · obtain ⟨ad8, hl8, rfl, _, hcl8⟩ := Mem.Sl.at_ hs8 hlt4
                      have hib : i < bs.length := by omega
                      have hcell8 : w8.cell? (ad8.add i) = some (.int .i64 (rdv bs[i])) := by rw [hcl8, rds_at hib hl8]
                      have hnn := rdv_nonneg bs[i]
                      have d8 : decide (rdv bs[i] < 0) = false := decide_eq_false (by omega)
                      clear hcl8
                      generalize rdv bs[i] = r at *
                      go_wp2_with fail
                      go_round
                      case rel => exact ⟨i + 1, by omega, by go_num⟩
                      case measure => simp [intOf]; omega
                    · obtain rfl : k = i := by omega
                      go_wp2_with fail
                      go_ret
                      exact ⟨rfl, L8⟩
        · rw [hok] at hy hno
          obtain ⟨A5, c5, rfl, hrow5, hb5⟩ := hy rfl
          clear hy hno
          have L5 : Below w.heap.size w w5 := hbr.trans (hb5.mono zr)
          have hF5 : Fls w5 X.heap.size A' k bs := hF.below hb5
          have zX := hb5.size
          go_wp2_with fail
          go_loopw [7] (fun vi wr => ∃ i : Nat, i ≤ k ∧ vi = .int .i64 i ∧ Below w.heap.size w wr ∧ X.heap.size ≤ wr.heap.size ∧ Fls wr X.heap.size A' k bs ∧ ∃ xs : List Value, IRow wr X.heap.size A5 k c5 (xs.map id) ∧ ∀ x ∈ xs, ∃ z, x = .int .i64 z) (fun i _ => k - (intOf i).toNat)
          case atStart => exact ⟨0, by omega, rfl, L5, zX, hF5, rds bs, by rw [List.map_id]; exact hrow5, by intro x hx; obtain ⟨b, _, rfl⟩ := List.mem_map.1 hx; exact ⟨_, rfl⟩⟩
          case round =>
            clear L5 hF5 hrow5 hb5 zX
            obtain ⟨i, hi, rfl, L5, zX, hF5, xs, hrow5, hxs⟩ := hrel
            rw [List.map_id] at hrow5
            by_cases hlt2 : i < k
            · obtain ⟨g, hl, rfl, hg1, hg2, hcell, hfz, hset⟩ := own_at hrow5 hlt2
              obtain ⟨z, hz⟩ := hxs _ (List.getElem_mem hl)
              rw [hz] at hcell
              clear hz
              have hrow6 := Lib.hid (hset (.int .i64 (-1)))
              have L6 : Below w.heap.size w (wr.setCell ⟨g, i, none⟩ (.int .i64 (-1))) := L5.setCell (by show w.heap.size ≤ g; omega) _
              have hF6 : Fls (wr.setCell ⟨g, i, none⟩ (.int .i64 (-1))) X.heap.size A' k bs := Mem.Sl.setCell hF5 (by exact hg1) _
              have HL6 := Lib.hid L6
              have HF6 := Lib.hid hF6
              have hxs6 : Hid (∀ x ∈ xs.set i (.int .i64 (-1)), ∃ z, x = .int .i64 z) := by
                intro x hx
                rcases List.mem_or_eq_of_mem_set hx with hx | rfl
                · exact hxs x hx
                · exact ⟨_, rfl⟩
              clear hset L6 hF6 hrow5 hF5 L5 hxs
              go_wp2_with fail
              go_roundw
              case rel => exact ⟨i + 1, by omega, by go_num, HL6.out, by simpa using zX, HF6.out, _, by rw [List.map_id]; exact hrow6.out, hxs6.out⟩
              case measure => simp [intOf]; omega
            · obtain rfl : k = i := by omega
              obtain ⟨Y, hY⟩ : ∃ Y, Y = wr := ⟨_, rfl⟩
              rw [← hY] at L5 zX hF5
              clear hrow5 hxs
              subst hY
              have hleast := Lib.hid (least_c A' k c' bs Y (hF5.more zX) hb64 (by omega))
              have HY := Lib.hid (hF5.more zX)
              have hl5 := h.below L5
              have zY := L5.size
              clear hF
              go_wp2_with fail
              refine hleast.out.mono ?_
              rintro e w6 ⟨rfl, rfl⟩
              clear hleast
              go_wp2_with fail
              go_loopw [8] (fun vi wr => ∃ i : Nat, i ≤ k ∧ vi = .int .i64 i ∧ ∃ q, wr = Y.drewN q) (fun i _ => k - (intOf i).toNat)
              case atStart => exact ⟨0, by omega, rfl, 0, rfl⟩
              case round =>
                obtain ⟨i, hi, rfl, q, rfl⟩ := hrel
                by_cases hlt3 : i < k
                · obtain ⟨ad, b, hl, rfl, _, hbe, hcell⟩ := hF5.at_ hlt3
                  obtain ⟨ad2, z, hl2, rfl, _, hze, hcell2⟩ := hl5.at_ hlt3
                  have hz := HB.out i hl2 hl
                  rw [hbe, hze] at hz
                  subst hz
                  have hb1 : b < 18446744073709551616 := by rw [← hbe]; exact hb64 _ (List.getElem_mem hl)
                  have hal := fun w => alike_c b b w hb1 hb1
                  rw [cmpv_self] at hal
                  have HA := Lib.hid hal
                  clear hal hbe hze hb1
                  obtain ⟨V, hV⟩ : ∃ V, V = Y.drewN q := ⟨_, rfl⟩
                  have hcl1 : V.cell? (ad.add i) = some (.float .f64 b) := by rw [hV]; exact hcell
                  have hcl2 : V.cell? (ad2.add i) = some (.int .u64 (b : Int)) := by rw [hV]; exact hcell2
                  rw [← hV]
                  have HV := Lib.hid hV
                  clear hV hcell hcell2
                  go_wp2_with fail
                  go_quiet ((go_at_call 24; exact Calls.quiet_of_same ((HA.out _).mono (fun _ _ he => ⟨he.1, he.2.symm⟩))))
                  go_wp2_with fail
                  go_roundw
                  case rel => exact ⟨i + 1, by omega, by go_num, _, by rw [HV.out]; exact World.drewN_drewN _ _ _⟩
                  case measure => simp [intOf]; omega
                · obtain rfl : k = i := by omega
                  have hall2 := Lib.hid (all_c A' k c' bs (Y.drewN q) (HY.out) hb64 (by omega))
                  obtain ⟨Z, hZ⟩ : ∃ Z, Z = Y.drewN q := ⟨_, rfl⟩
                  rw [← hZ] at hall2 ⊢
                  have LZ : Below w.heap.size w Z := by rw [hZ]; exact Mem.below_drewN L5 q
                  clear hZ HY hF5 hl5 L5
                  have zZ := LZ.size
                  go_wp2_with fail
                  refine hall2.out.mono ?_
                  rintro e w8 ⟨hy, hno⟩
                  cases hok2 : oks bs
                  · rw [hok2] at hy hno
                    obtain ⟨rfl, hb8⟩ := hno rfl
                    clear hy hno
                    have L8 : Below w.heap.size w w8 := LZ.trans (hb8.mono zZ)
                    go_wp2_with fail
                    go_loop [11] (fun vi => vi = .int .i64 0) (fun _ => 0)
                    case atStart => rfl
                    case round =>
                      obtain rfl := hrel
                      go_wp2_with fail
                      go_ret
                      exact ⟨rfl, L8⟩
                  · rw [hok2] at hy hno
                    obtain ⟨A8, c8, rfl, hrow8, hb8⟩ := hy rfl
                    clear hy hno
                    have L8 : Below w.heap.size w w8 := LZ.trans (hb8.mono zZ)
                    have hs8 := own_sl hrow8
                    go_wp2_with fail
                    go_loop [11] (fun vi => ∃ i : Nat, i ≤ k ∧ vi = .int .i64 i) (fun i => k - (intOf i).toNat)
                    case atStart => exact ⟨0, by omega, rfl⟩
                    case round =>
                      obtain ⟨i, hi, rfl⟩ := hrel
                      by_cases hlt4 : i < k
                      · obtain ⟨ad8, hl8, rfl, _, hcl8⟩ := Mem.Sl.at_ hs8 hlt4
                        have hib : i < bs.length := by omega
                        have hcell8 : w8.cell? (ad8.add i) = some (.int .i64 (rdv bs[i])) := by rw [hcl8, rds_at hib hl8]
                        have hnn := rdv_nonneg bs[i]
                        have d8 : decide (rdv bs[i] < 0) = false := decide_eq_false (by omega)
                        clear hcl8
                        generalize rdv bs[i] = r at *
                        go_wp2_with fail
                        go_round
                        case rel => exact ⟨i + 1, by omega, by go_num⟩
                        case measure => simp [intOf]; omega
                      · obtain rfl : k = i := by omega
                        go_wp2_with fail
                        go_ret
                        exact ⟨rfl, L8⟩
theorem walk (v1 : Value) (w : World) (h1 : Frame.Arg Try.prog w 32 v1) :
    Calls Try.prog 7 #[v1] w fun e w' => e = .returned (.bool true) ∧ Below w.heap.size w w' := by
  obtain ⟨A, n, c, zs, rfl, _, _, h, hz⟩ := h1.ints Try.underlying32 Try.underlying22 (by kernel_rfl)
  exact core A n c zs w h (fun z hm => by have := Frame.bd_u64 (hz z hm); omega)
end Go.Proofs.Ytjfbnobijlkicaa.edgeKeeps
