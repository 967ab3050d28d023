/- SatLists: the walk. -/
import Derived.Test.YtfcdmfiblmnbkaaSatW
import Derived.Test.YtfcdmfiblmnbkaaFrame
import Derived.Deep.RegionWith
namespace Go.Proofs.Ytfcdmfiblmnbkaa.satLists
open Go.RowKit Sat
theorem eli : Mem.El Try.prog 26 3 (.int .i64 0) 1 8 := ⟨Try.underlying26, by kernel_rfl, rfl, by decide⟩
theorem add_zero' (a : Int) (h : 0 ≤ a) (h' : a ≤ 9223372036854775807) : add a 0 = a := by
  unfold add; rw [num_id a h]; simp only [num, if_neg (by omega : ¬ (0 : Int) < 0), Int.add_zero]; exact cut_small h'
theorem add_num (a b : Int) : add a b = add a (num b) := by unfold add; rw [num_id (num b) (num_nonneg b)]
theorem add_comm' (a b : Int) : add a b = add b a := by unfold add; rw [Int.add_comm]
theorem add_assoc' (a b c : Int) : add (add a b) c = add a (add b c) := by
  have h1 := num_nonneg a
  have h2 := num_nonneg b
  have h3 := num_nonneg c
  have h4 := add_bd a b
  have h5 := add_bd b c
  show cut (num (add a b) + num c) = cut (num a + num (add b c))
  rw [num_id _ h4.1, num_id _ h5.1]
  unfold add cut
  split <;> split <;> split <;> split <;> omega
theorem fold_add (l : List Int) (a : Int) (h : 0 ≤ a) (h' : a ≤ 9223372036854775807) : l.foldl add a = add a (sum l) := by
  induction l generalizing a with
  | nil => exact (add_zero' a h h').symm
  | cons x l ih =>
    have hb := add_bd a x
    have hb0 := add_bd 0 x
    show List.foldl add (add a x) l = add a (List.foldl add (add 0 x) l)
    rw [ih _ hb.1 hb.2, ih _ hb0.1 hb0.2, add_assoc']
    congr 1
    have e : add 0 x = cut (num x) := by unfold add; rw [num_id 0 (Int.le_refl 0), Int.zero_add]
    rw [e]
    have hn := num_nonneg x
    have hs := num_nonneg (sum l)
    unfold add
    rw [num_id _ (cut_bd _ hn).1]
    unfold cut
    (repeat' split) <;> omega
theorem sum_append (l m : List Int) : sum (l ++ m) = add (sum l) (sum m) := by
  have := sum_bd l
  show List.foldl add 0 (l ++ m) = _
  rw [List.foldl_append]
  exact fold_add m _ this.1 this.2
theorem sum_reverse (l : List Int) : sum l.reverse = sum l := by
  induction l with
  | nil => rfl
  | cons x l ih =>
    rw [List.reverse_cons, sum_append, ih, add_comm']
    have e : x :: l = [x] ++ l := rfl
    rw [e, sum_append]
theorem core (A B : Option Addr) (n c m d : Nat) (xs ys : List Int) (w : World) (hx : Mem.Ints w w.heap.size .i64 A n xs) (hy : Mem.Ints w w.heap.size .i64 B m ys)
    (hxz : ∀ z ∈ xs, z ≤ 9223372036854775807) (hyz : ∀ z ∈ ys, z ≤ 9223372036854775807) (hc : n ≤ c) (hcm : c ≤ maxLen) (hd : m ≤ d) (hdm : d ≤ maxLen) :
    Calls Try.prog 6 #[.slice A n c, .slice B m d] w fun e w' => e = .returned (.bool true) ∧ Below w.heap.size w w' := by
  unfold maxLen at hcm hdm
  by_cases hn : 500 < n
  · go_enter Try.func6, Try.ntmps6
    go_wp2_with (go_at_call 14; refine (awake_c _).mono ?_; rintro e w' ⟨rfl, o, rfl⟩)
    go_ret
    exact ⟨rfl, ((Below.refl _ _).alloc (Nat.le_refl _) _).alloc (by simp) _⟩
  · by_cases hm : 500 < m
    · go_enter Try.func6, Try.ntmps6
      go_wp2_with (go_at_call 14; refine (awake_c _).mono ?_; rintro e w' ⟨rfl, o, rfl⟩)
      go_ret
      exact ⟨rfl, ((Below.refl _ _).alloc (Nat.le_refl _) _).alloc (by simp) _⟩
    · go_enter Try.func6, Try.ntmps6
      go_wp2_with (go_at_call 14; refine (awake_c _).mono ?_; rintro e w' ⟨rfl, o, rfl⟩)
      go_loopw [5, 6] (fun vb vi wr => ∃ k : Nat, k ≤ n ∧ vi = .int .i64 ((k : Int) - 1) ∧ Below w.heap.size w wr ∧ wr.ownsRow w.heap.size 3 1 vb (n - k) ((xs.drop k).reverse.map (Value.int .i64))) (fun _ i _ => (intOf i + 1).toNat)
      case atStart => exact ⟨n, Nat.le_refl _, by go_num, (Below.refl _ _).alloc (Nat.le_refl _) _, by rw [List.drop_of_length_le (by have := hx.len; omega), Nat.sub_self]; exact Mem.own_nil⟩
      case round =>
        obtain ⟨k, hk, rfl, hbr, hown⟩ := hrel
        have hxb := hx.below hbr
        have hyb := hy.below hbr
        have hB := hbr.size
        rcases k with _ | j
        · rw [show (((0 : Nat) : Int) - 1) = -1 from rfl]
          obtain ⟨A1, c1, rfl, hs1, hlow, _⟩ := Mem.own_form hown
          have hsb : Mem.Ints wr wr.heap.size .i64 A1 n xs.reverse := by simpa [Mem.Ints] using hs1
          clear hown hs1
          go_wp2_with (first
            | (at_builtin
               refine Mem.wpList_app rfl rfl eli (base := w.heap.size) (Mem.own_lit (by simp) (by omega) (by simp) rfl rfl) rfl rfl (hxb.alloc hB _) (Mem.one_ints _ _) (N := n) (ys := xs.map (Value.int .i64)) (by omega) (by simp) (by simp [maxLen]; omega) (by omega) (by simp; omega) ?_
               intro A2 c2 w2 hown2 hg2 hat2
               have hb2 : Below wr.heap.size wr w2 := ((Below.refl _ _).alloc (Nat.le_refl _) _).grown hg2 (by simp) (by intro k hk; simp [Value.ownBlock] at hk; omega)
               have hB2 := hb2.size)
            | (at_builtin
               refine Mem.wpList_app rfl rfl eli (base := w.heap.size) hown2 rfl rfl (hyb.below (hb2.mono hB)) (Mem.one_ints _ _) (N := n + m) (ys := (xs ++ ys).map (Value.int .i64)) (by omega) (by simp) (by simp [maxLen]; omega) (by omega) (by omega) ?_
               intro A3 c3 w3 hown3 hg3 hat3))
          have hb3 : Below w.heap.size w w3 := ((hbr.trans (hb2.mono hB)).grown hg3 (by omega) (fun k hk => (hown2.lt k hk).1))
          obtain ⟨A4, c4, he, hs4, _⟩ := Mem.own_form hown3
          obtain ⟨rfl, _, rfl⟩ : A3 = A4 ∧ n + m = n + m ∧ c3 = c4 := by simpa using he
          have hall : Mem.Ints w3 w3.heap.size .i64 A3 (n + m) (xs ++ ys) := hs4
          have hx3 := hx.below hb3
          have hy3 := hy.below hb3
          have hs3 : Mem.Ints w3 wr.heap.size .i64 A1 n xs.reverse := by
            have h2 : Mem.Ints w2 wr.heap.size .i64 A1 n xs.reverse := hsb.below hb2
            refine h2.below (Below.grown (Below.refl _ _) hg3 hb2.size fun k hk => ?_)
            rcases hat2 with e | e
            · rw [e] at hk; simp [Value.ownBlock] at hk; omega
            · rw [e] at hk; simp at hk; omega
          have hallz : ∀ z ∈ xs ++ ys, z ≤ 9223372036854775807 := fun z hz => by rcases List.mem_append.1 hz with h | h; exact hxz z h; exact hyz z h
          have hrevz : ∀ z ∈ xs.reverse, z ≤ 9223372036854775807 := fun z hz => hxz z (List.mem_reverse.1 hz)
          have sb1 := sum_bd xs
          have sb2 := sum_bd ys
          have q1 : (sum (xs ++ ys) == add (sum xs) (sum ys)) = true := by rw [sum_append]; simp
          have q2 : (sum xs.reverse == sum xs) = true := by rw [sum_reverse]; simp
          clear he hs4 hown3 hg3 hat3 hown2 hg2 hat2 hb2 hsb hxb hyb
          go_wp2_with (first
            | (go_at_call_of 22 (Value.slice A3 (n + m) c3); refine (sum_c _ _ _ _ (xs ++ ys) _ hall hallz (by omega)).mono ?_; rintro e w' ⟨rfl, rfl⟩)
            | (go_at_call_of 22 (Value.slice A n c); refine (sum_c _ _ _ _ xs _ hx3 hxz (by omega)).mono ?_; rintro e w' ⟨rfl, rfl⟩)
            | (go_at_call_of 22 (Value.slice B m d); refine (sum_c _ _ _ _ ys _ hy3 hyz (by omega)).mono ?_; rintro e w' ⟨rfl, rfl⟩)
            | (go_at_call_of 22 (Value.slice A1 n c1); refine (sum_c _ _ _ _ xs.reverse _ hs3 hrevz (by omega)).mono ?_; rintro e w' ⟨rfl, rfl⟩)
            | (go_at_call 15; refine (add_c _ _ _ (by omega) (by omega)).mono ?_; rintro e w' ⟨rfl, rfl⟩))
          go_ret
          exact ⟨rfl, hb3⟩
        · rw [show (((j + 1 : Nat) : Int) - 1) = (j : Int) from by omega]
          obtain ⟨ad, z, hl, rfl, _, he, hcl⟩ := hxb.at_ (k := j) (by omega)
          go_wp2_with (first
            | (at_builtin
               refine Mem.wpList_app rfl rfl eli (base := w.heap.size) (hown.alloc _) rfl rfl (Mem.new_sl (n := 1) (xs := [.int .i64 z]) (by simp) rfl rfl) (by simp [Value.oneCell']) (N := n - j) (ys := (xs.drop j).reverse.map (Value.int .i64)) (by omega) (by rw [List.drop_eq_getElem_cons hl, he]; simp) (by simp [maxLen]; omega) (by omega) (by simp; omega) ?_
               intro A2 c2 w2 hown2 hg2 hat2))
          have hb2 : Below w.heap.size w w2 := (hbr.alloc hB _).grown hg2 (by simp; omega) (fun k hk => (hown.lt k hk).1)
          clear hg2 hat2 he
          go_roundw
          case rel => exact ⟨j, by omega, rfl, hb2, hown2⟩
          case measure => simp [intOf]
theorem walk (v1 v2 : Value) (w : World) (h1 : Frame.Arg Try.prog w 26 v1) (h2 : Frame.Arg Try.prog w 26 v2) :
    Calls Try.prog 6 #[v1, v2] w fun e w' => e = .returned (.bool true) ∧ Below w.heap.size w w' := by
  obtain ⟨A, n, c, xs, rfl, hc, hm, hr, hz⟩ := h1.ints Try.underlying26 Try.underlying3 (by kernel_rfl)
  obtain ⟨B, m, d, ys, rfl, hc', hm', hr', hz'⟩ := h2.ints Try.underlying26 Try.underlying3 (by kernel_rfl)
  exact core A B n c m d xs ys w hr hr' (fun z h => (Frame.bd_i64 (hz z h)).2) (fun z h => (Frame.bd_i64 (hz' z h)).2) hc hm hc' hm'
end Go.Proofs.Ytfcdmfiblmnbkaa.satLists
