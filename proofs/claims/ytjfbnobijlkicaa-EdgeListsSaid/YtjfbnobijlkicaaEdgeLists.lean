/- EdgeLists: the walk. -/
import Derived.Test.YtjfbnobijlkicaaEdgeC
import Derived.Test.YtjfbnobijlkicaaFrame
namespace Go.Proofs.Ytjfbnobijlkicaa.edgeLists
open Go.RowKit Fl Rw
set_option maxRecDepth 100000 in
set_option maxHeartbeats 4000000 in
theorem core (A : Option Addr) (n c : Nat) (zs : List Int) (w : World) (h : Mem.Ints w w.heap.size .u64 A n zs) (h64 : ∀ z ∈ zs, 0 ≤ z ∧ z < 18446744073709551616) :
    Calls Try.prog 5 #[.slice A n c] w fun e w' => e = .returned (.bool true) ∧ Below w.heap.size w w' := by
  have fb := xfrom
  have hzl := h.len
  obtain ⟨bs, hbs⟩ : ∃ bs, bs = words zs := ⟨_, rfl⟩
  have hlen : bs.length = n := by rw [hbs, words_len, hzl]
  have hb64 : ∀ b ∈ bs, b < 18446744073709551616 := by
    intro b hb
    rw [hbs] at hb
    obtain ⟨z, hz, rfl⟩ := List.mem_map.1 hb
    have := h64 z hz
    omega
  have HB : Hid (∀ k (hk : k < zs.length) (hk2 : k < bs.length), zs[k] = (bs[k] : Int)) := by
    intro k hk hk2
    subst hbs
    have := h64 _ (List.getElem_mem hk)
    simp [words]
    omega
  clear hbs h64
  go_enter Try.func5, Try.ntmps5
  go_wp2_with fail
  refine (eawake_c _).mono ?_
  rintro e w1 ⟨rfl, L1⟩
  by_cases hn : 300 < n
  · have d : decide ((n : Int) > 300) = true := decide_eq_true (by omega)
    go_wp2_with fail
    refine (eawake_c _).mono ?_
    rintro e w2 ⟨rfl, L2⟩
    go_wp2_with fail
    go_ret
    exact ⟨rfl, L1.trans (L2.mono L1.size)⟩
  · have d : decide ((n : Int) > 300) = false := decide_eq_false (by omega)
    go_wp2_with fail
    go_loopw [3, 4, 5] (fun vf vg vi wr => ∃ k : Nat, k ≤ n ∧ vi = .int .i64 k ∧ vg = .bool (oks (bs.take k)) ∧ Below w.heap.size w wr ∧ ∃ A' c', vf = .slice A' k c' ∧ FRow wr w.heap.size A' k c' (bs.take k)) (fun _ _ i _ => n - (intOf i).toNat)
    case atStart => exact ⟨0, by omega, rfl, rfl, L1, none, 0, rfl, Mem.own_nil⟩
    case round =>
      clear L1
      obtain ⟨k, hk, rfl, rfl, hbr, A', c', rfl, hrow⟩ := hrel
      have zr := hbr.size
      by_cases hlt : k < n
      · obtain ⟨ad, z, hl, rfl, _, hze, hcell⟩ := (h.below hbr).at_ hlt
        have hkb : k < bs.length := by omega
        have hz := HB.out k hl hkb
        rw [hze] at hz
        subst hz
        have hb1 : bs[k] < 18446744073709551616 := hb64 _ (List.getElem_mem hkb)
        have hP : Hid ((bs.take k).map fv ++ [.float .f64 bs[k]] = (bs.take (k + 1)).map fv) := Lib.hid (take_fv hkb)
        have hO : Hid (oks (bs.take (k + 1)) = (oks (bs.take k) && decide (kd bs[k] ≠ 1))) := Lib.hid (oks_take hkb)
        have hK := Lib.hid (fun w => rkind_c bs[k] w hb1)
        rw [← bne_dec] at hO
        clear hze hb1
        generalize bs[k] = b at *
        generalize kd b = kk at *
        have lt1 : ∀ g, (Value.slice A' k c').ownBlock = some g → w.heap.size ≤ g := fun g hg => (World.ownsRow.lt hrow g hg).1
        generalize oks (bs.take k) = g at *
        cases g
        · go_wp2_with (at_builtin; refine Mem.wpList_app rfl rfl elf (base := w.heap.size) (World.ownsRow.alloc hrow _) rfl rfl (Mem.new_sl (n := 1) (xs := [.float .f64 b]) rfl rfl rfl) (by simp [Value.oneCell']) (N := k + 1) (ys := (bs.take (k + 1)).map fv) rfl hP.out (by unfold maxLen; omega) (by omega) (by simp; omega) ?_; intro A3 c3 w3 hown3 hg3 hat3)
          go_roundw
          case rel => exact ⟨k + 1, by omega, by go_num, by rw [hO.out]; rfl, (hbr.alloc zr _).grown hg3 (by simp; omega) lt1, A3, c3, rfl, hown3⟩
          case measure => simp [intOf]; omega
        · go_wp2_with (at_builtin; refine Mem.wpList_app rfl rfl elf (base := w.heap.size) (World.ownsRow.alloc hrow _) rfl rfl (Mem.new_sl (n := 1) (xs := [.float .f64 b]) rfl rfl rfl) (by simp [Value.oneCell']) (N := k + 1) (ys := (bs.take (k + 1)).map fv) rfl hP.out (by unfold maxLen; omega) (by omega) (by simp; omega) ?_; intro A3 c3 w3 hown3 hg3 hat3)
          refine (hK.out _).mono ?_
          rintro e w4 ⟨rfl, rfl⟩
          go_wp2_with fail
          go_roundw
          case rel => exact ⟨k + 1, by omega, by go_num, by rw [hO.out]; rfl, (hbr.alloc zr _).grown hg3 (by simp; omega) lt1, A3, c3, rfl, hown3⟩
          case measure => simp [intOf]; omega
      · obtain rfl : k = n := by omega
        have hrow : FRow wr w.heap.size A' k c' bs := by rw [List.take_of_length_le (by omega)] at hrow; exact hrow
        obtain ⟨X, hX⟩ : ∃ X, X = wr := ⟨_, rfl⟩
        rw [← hX] at hbr hrow zr
        have hF : Fls X X.heap.size A' k bs := own_sl hrow
        rw [List.take_of_length_le (show bs.length ≤ k by omega)]
        have hleast := Lib.hid (least_c A' k c' bs X hF hb64 (by omega))
        have hall := Lib.hid (all_c A' k c' bs X hF hb64 (by omega))
        have hl64 := least_64 hb64
        have hkl := Lib.hid (fun w => rkind_c (leastF bs) w hl64)
        have hge : Hid (∀ b ∈ bs, ¬ cmpv b (leastF bs) < 0) := fun b hb => least_le hb
        have hin : Hid (0 < k → among bs (leastF bs) = true) := fun h0 => least_in (by intro hc; rw [hc] at hlen; simp at hlen; omega)
        have hinf : Hid (k = 0 → kd (leastF bs) = 7) := by
          intro h0
          have : bs = [] := List.eq_nil_of_length_eq_zero (by omega)
          rw [this]
          exact kd_inf
        generalize leastF bs = F at *
        have hlow : Hid (FRow X w.heap.size A' k c' bs) := hrow
        clear hrow h HB
        subst hX
        go_wp2_with fail
        refine hleast.out.mono ?_
        rintro e w4 ⟨rfl, rfl⟩
        clear hleast
        by_cases h0 : 0 < k
        · have d0 : ((k : Int) == 0) = false := beq_eq_false_iff_ne.2 (by omega)
          go_wp2_with fail
          go_loop [8, 9] (fun vf vi => ∃ (i : Nat) (fd : Bool), i ≤ k ∧ vi = .int .i64 i ∧ vf = .bool fd ∧ Hid ((fd || among (bs.drop i) F) = true)) (fun _ i => k - (intOf i).toNat)
          case atStart => exact ⟨0, false, by omega, rfl, rfl, Lib.hid (by rw [List.drop_zero, hin.out (by omega)]; rfl)⟩
          case round =>
            obtain ⟨i, fd, hi, rfl, rfl, Hfd⟩ := hrel
            by_cases hlt2 : i < k
            · obtain ⟨ad, b, hl, rfl, _, hbe, hcell⟩ := hF.at_ hlt2
              have hb1 : b < 18446744073709551616 := by rw [← hbe]; exact hb64 _ (List.getElem_mem hl)
              have d2 : decide (cmpv b F < 0) = false := decide_eq_false (by have := hge.out b (by rw [← hbe]; exact List.getElem_mem hl); omega)
              have hc := Lib.hid (fun w => rcompare_c b F w hb1 hl64)
              have ha := Lib.hid (fun w => alike_c b F w hb1 hl64)
              have Hn : Hid ((fd || (cmpv b F == 0 || among (bs.drop (i + 1)) F)) = true) := by
                have := Hfd.out
                rw [among_drop hl, hbe] at this
                exact this
              clear hbe Hfd hb1
              generalize cmpv b F = x at *
              cases fd
              · generalize (x == 0) = y at *
                go_wp2_with fail
                refine (hc.out _).mono ?_
                rintro e w4 ⟨rfl, rfl⟩
                go_wp2_with fail
                refine (ha.out _).mono ?_
                rintro e w4 ⟨rfl, rfl⟩
                go_wp2_with fail
                go_round
                case rel => exact ⟨i + 1, y, by omega, by go_num, rfl, Hn⟩
                case measure => simp [intOf]; omega
              · go_wp2_with fail
                refine (hc.out _).mono ?_
                rintro e w4 ⟨rfl, rfl⟩
                go_wp2_with fail
                go_round
                case rel => exact ⟨i + 1, true, by omega, by go_num, rfl, Lib.hid rfl⟩
                case measure => simp [intOf]; omega
            · obtain rfl : k = i := by omega
              have Hn : fd = true := by
                have := Hfd.out
                rw [List.drop_of_length_le (by omega)] at this
                cases fd
                · exact absurd this (by simp [among])
                · rfl
              subst Hn
              clear Hfd hge hin hinf hkl
              go_wp2_with fail
              refine hall.out.mono ?_
              rintro e w5 ⟨hy, hno⟩
              cases hok : oks bs
              · rw [hok] at hy hno
                obtain ⟨rfl, hb5⟩ := hno rfl
                clear hy hno
                have L5 : Below w.heap.size w w5 := hbr.trans (hb5.mono zr)
                go_wp2_with fail
                go_loop [12] (fun vi => vi = .int .i64 0) (fun _ => 0)
                case atStart => rfl
                case round =>
                  obtain rfl := hrel
                  go_wp2_with fail
                  go_ret
                  exact ⟨rfl, L5⟩
              · rw [hok] at hy hno
                obtain ⟨A5, c5, rfl, hrow5, hb5⟩ := hy rfl
                clear hy hno
                have L5 : Below w.heap.size w w5 := hbr.trans (hb5.mono zr)
                have hF5 : Fls w5 X.heap.size A' k bs := hF.below hb5
                have hs5 := own_sl hrow5
                go_wp2_with fail
                go_loop [12] (fun vi => ∃ i : Nat, i ≤ k ∧ vi = .int .i64 i) (fun i => k - (intOf i).toNat)
                case atStart => exact ⟨0, by omega, rfl⟩
                case round =>
                  obtain ⟨i, hi, rfl⟩ := hrel
                  by_cases hlt2 : i < k
                  · obtain ⟨ad, b, hl, rfl, _, hbe, hcell⟩ := hF5.at_ hlt2
                    obtain ⟨ad5, hl5, rfl, _, hcl5⟩ := Mem.Sl.at_ hs5 hlt2
                    have hcell5 : w5.cell? (ad5.add i) = some (.int .i64 (rdv b)) := by rw [hcl5, rds_at hl hl5, hbe]
                    have hb1 : b < 18446744073709551616 := by rw [← hbe]; exact hb64 _ (List.getElem_mem hl)
                    have hr := Lib.hid (fun w => rread_c b w hb1)
                    clear hbe hb1 hcl5
                    generalize rdv b = r at *
                    go_wp2_with fail
                    refine (hr.out _).mono ?_
                    rintro e w6 ⟨rfl, rfl⟩
                    go_wp2_with fail
                    go_round
                    case rel => exact ⟨i + 1, by omega, by go_num⟩
                    case measure => simp [intOf]; omega
                  · obtain rfl : k = i := by omega
                    go_wp2_with fail
                    go_ret
                    exact ⟨rfl, L5⟩
        · obtain rfl : k = 0 := by omega
          have hkF := hinf.out rfl
          rw [hkF] at hkl
          clear hkF hge hin hinf
          go_wp2_with fail
          refine (hkl.out _).mono ?_
          rintro e w4 ⟨rfl, rfl⟩
          go_wp2_with fail
          go_loop [8, 9] (fun vf vi => vi = .int .i64 0 ∧ vf = .bool true) (fun _ _ => 0)
          case atStart => exact ⟨rfl, rfl⟩
          case round =>
            obtain ⟨rfl, rfl⟩ := hrel
            go_wp2_with fail
            refine hall.out.mono ?_
            rintro e w5 ⟨hy, hno⟩
            cases hok : oks bs
            · rw [hok] at hy hno
              obtain ⟨rfl, hb5⟩ := hno rfl
              clear hy hno
              have L5 : Below w.heap.size w w5 := hbr.trans (hb5.mono zr)
              go_wp2_with fail
              go_loop [12] (fun vi => vi = .int .i64 0) (fun _ => 0)
              case atStart => rfl
              case round =>
                obtain rfl := hrel
                go_wp2_with fail
                go_ret
                exact ⟨rfl, L5⟩
            · rw [hok] at hy hno
              obtain ⟨A5, c5, rfl, hrow5, hb5⟩ := hy rfl
              clear hy hno
              have L5 : Below w.heap.size w w5 := hbr.trans (hb5.mono zr)
              have hF5 : Fls w5 X.heap.size A' 0 bs := hF.below hb5
              have hs5 := own_sl hrow5
              go_wp2_with fail
              go_loop [12] (fun vi => ∃ i : Nat, i ≤ 0 ∧ vi = .int .i64 i) (fun i => 0 - (intOf i).toNat)
              case atStart => exact ⟨0, by omega, rfl⟩
              case round =>
                obtain ⟨i, hi, rfl⟩ := hrel
                obtain rfl : 0 = i := by omega
                go_wp2_with fail
                go_ret
                exact ⟨rfl, L5⟩
theorem walk (v1 : Value) (w : World) (h1 : Frame.Arg Try.prog w 32 v1) :
    Calls Try.prog 5 #[v1] w fun e w' => e = .returned (.bool true) ∧ Below w.heap.size w w' := by
  obtain ⟨A, n, c, zs, rfl, _, _, h, hz⟩ := h1.ints Try.underlying32 Try.underlying22 (by kernel_rfl)
  exact core A n c zs w h (fun z hm => by have := Frame.bd_u64 (hz z hm); omega)
end Go.Proofs.Ytjfbnobijlkicaa.edgeLists
