/- The walks of the document's layer 15: drop, put, touch. -/
import Derived.Test.YthccojfflmfggaaMgW5
namespace Go.Proofs.Ythccojfflmfggaa
open Go.RowKit
namespace Wo
def neI (s : ByteArray) (p : ImgV) : Bool := !(p.name.toList == s.toList)
theorem flatI_snoc (l : List ImgV) (p : ImgV) : ImgV.flat (l ++ [p]) = ImgV.flat l ++ p.arr.toList := by
  rw [ImgV.flat_app]
  simp [ImgV.flat, ImgV.arr_cells]
theorem filter_take {l : List ImgV} {f : ImgV → Bool} {k : Nat} (h : k < l.length) : (l.take (k + 1)).filter f = (l.take k).filter f ++ (if f l[k] then [l[k]] else []) := by
  rw [Mem.take_snoc _ _ h, List.filter_append]
  congr 1
  simp [List.filter_cons]
set_option maxRecDepth 100000 in
set_option maxHeartbeats 4000000 in
theorem rdrop_c (A : Option Addr) (n c : Nat) (im : List ImgV) (s : ByteArray) (w : World) (h : Mem.Sl w w.heap.size 3 A n (ImgV.flat im)) (hlen : im.length = n) (hn : n ≤ 10000) :
    Calls Try.prog 64 #[.slice A n c, .string s] w (NewI (im.filter (neI s)).length (im.filter (neI s)) w) := by
  have Hl := Lib.hid hlen
  have H := Lib.hid h
  clear hlen h
  go_enter Try.func64, Try.ntmps64
  go_wp2_with fail
  go_loopw [5, 6] (fun vo vi wr => ∃ (k m : Nat) (A' : Option Addr) (c' : Nat), k ≤ n ∧ m ≤ k ∧ vi = .int .i64 k ∧ vo = .slice A' m c' ∧ Hid (m = ((im.take k).filter (neI s)).length) ∧ Hid (Bld w wr 54 3 A' m c' (ImgV.flat ((im.take k).filter (neI s))))) (fun _ i _ => n - (intOf i).toNat)
  case atStart => exact ⟨0, 0, none, 0, by omega, by omega, rfl, rfl, by show _ = _; simp, Bld.nil (Below.refl _ _)⟩
  case round =>
    obtain ⟨k, m, A', c', hk, hm, rfl, rfl, HM, HB⟩ := hrel
    by_cases hlt : k < n
    · obtain ⟨ad, hl, rfl, hlb, hlb2, hat⟩ := ImgV.at_ H.out hlt
      have hat2 := hat.below HB.out.below hlb2
      have HF := Lib.hid (filter_take (f := neI s) hl)
      have hb := HB.out
      generalize im[k] = p at *
      obtain ⟨c0, c1, c2⟩ := hat2
      obtain ⟨t, x, y⟩ := p
      dsimp only at c0 c1 c2
      clear hat hl hlb hlb2
      by_cases hts : t = s
      · have hx : (t.toList == s.toList) = true := by rw [hts]; simp
        have hf : neI s ⟨t, x, y⟩ = false := by unfold neI; rw [hx]; rfl
        rw [hf, if_neg (by decide), List.append_nil] at HF
        clear hts hf hb
        go_wp2_with fail
        go_roundw
        case rel => exact ⟨k + 1, m, A', c', by omega, by omega, by go_num, rfl, by show _ = _; rw [HF.out]; exact HM.out, by show Bld _ _ _ _ _ _ _ _; rw [HF.out]; exact HB.out⟩
        case measure => simp [intOf]; omega
      · have hx : (t.toList == s.toList) = false := beq_eq_false_iff_ne.2 (fun e => hts (bytes_eq e))
        have hf : neI s ⟨t, x, y⟩ = true := by unfold neI; rw [hx]; rfl
        rw [hf, if_pos rfl] at HF
        obtain ⟨A2, cc2, w2, hr, hb2, -⟩ := hb.push eli #[.string t, .int .i64 x, .int .i64 y] rfl (by simp [Value.oneCell']) (by omega) (by decide) rfl
        have HB2 := Lib.hid hb2
        clear hts hf hb hb2
        go_wp2_with (at_builtin; refine Ro.wpList_app rfl _ _ _ _ rfl _ _ rfl rfl hr ?_)
        go_roundw
        case rel => exact ⟨k + 1, m + 1, A2, cc2, by omega, by omega, by go_num, rfl, by show _ = _; rw [HF.out, List.length_append, ← HM.out]; rfl, by show Bld _ _ _ _ _ _ _ _; rw [HF.out, flatI_snoc]; exact HB2.out⟩
        case measure => simp [intOf]; omega
    · obtain rfl : k = n := by omega
      have he : Hid (im.take k = im) := by show _ = _; rw [List.take_of_length_le (by have := Hl.out; omega)]
      go_wp2_with fail
      go_ret
      have h1 := HM.out
      have h2 := HB.out
      rw [he.out] at h1 h2
      rw [← h1]
      exact ⟨A', c', rfl, h2.row, h2.below, h2.fresh⟩
end Wo
end Go.Proofs.Ythccojfflmfggaa
/- The walk of the document's layer 15: put. -/
namespace Go.Proofs.Ythccojfflmfggaa
open Go.RowKit
namespace Wo
theorem less_cb : ∀ (a b : List UInt8), Op.bytesLess a b = decide (Lib.compareBytes a b < 0)
  | _, [] => by rename_i a; cases a <;> simp [Op.bytesLess, Lib.compareBytes]
  | [], _ :: _ => by simp [Op.bytesLess, Lib.compareBytes]
  | a :: x, b :: y => by
    unfold Op.bytesLess Lib.compareBytes
    rw [less_cb x y]
    by_cases h1 : a < b
    · simp [h1]
    · by_cases h2 : b < a
      · have h3 : (a == b) = false := by
          rw [beq_eq_false_iff_ne]
          rintro rfl
          exact h1 h2
        simp [h1, h2, h3]
      · have h3 : a = b := by
          rw [UInt8.lt_iff_toNat_lt] at h1 h2
          exact UInt8.toNat_inj.1 (by omega)
        subst h3
        simp [h1]
theorem less_cmp (a b : ByteArray) : Op.bytesLess a.toList b.toList = decide (Str.cmp a b < 0) := by
  rw [less_cb, ByteArray.toList_eq, ByteArray.toList_eq]
  rfl
/-- put, as far as a place, and whether it was done -/
def putTo (im : List ImgV) (s : ByteArray) (size round : Int) : Nat → List ImgV × Bool
  | 0 => ([], false)
  | k + 1 => match im[k]? with
    | none => putTo im s size round k
    | some x => if (putTo im s size round k).2 = false ∧ Op.bytesLess x.name.toList s.toList = false then
        ((putTo im s size round k).1 ++ (if (x.name.toList == s.toList) = true then [⟨x.name, x.size, round⟩] else [⟨s, size, round⟩, x]), true)
      else ((putTo im s size round k).1 ++ [x], (putTo im s size round k).2)
def rputI (im : List ImgV) (s : ByteArray) (size round : Int) : List ImgV := if (putTo im s size round im.length).2 then (putTo im s size round im.length).1 else (putTo im s size round im.length).1 ++ [⟨s, size, round⟩]
theorem flatI_two (l : List ImgV) (p q : ImgV) : ImgV.flat (l ++ [p, q]) = (ImgV.flat l ++ p.arr.toList) ++ q.arr.toList := by
  rw [← flatI_snoc, ← flatI_snoc, List.append_assoc]
  rfl
set_option maxRecDepth 100000 in
set_option maxHeartbeats 4000000 in
theorem rput_c (A : Option Addr) (n c : Nat) (im : List ImgV) (s : ByteArray) (size round : Int) (w : World) (h : Mem.Sl w w.heap.size 3 A n (ImgV.flat im)) (hlen : im.length = n) (hn : n ≤ 10000) :
    Calls Try.prog 63 #[.slice A n c, .string s, .int .i64 size, .int .i64 round] w (NewI (rputI im s size round).length (rputI im s size round) w) := by
  have Hl := Lib.hid hlen
  have H := Lib.hid h
  clear hlen h
  go_enter Try.func63, Try.ntmps63
  go_wp2_with fail
  go_loopw [9, 10, 11] (fun vo vd vi wr => ∃ (k m : Nat) (A' : Option Addr) (c' : Nat) (F : List ImgV) (dn : Bool), k ≤ n ∧ m ≤ k + 1 ∧ vi = .int .i64 k ∧ vo = .slice A' m c' ∧ vd = .bool dn ∧ Hid (m = F.length ∧ putTo im s size round k = (F, dn)) ∧ Hid (Bld w wr 54 3 A' m c' (ImgV.flat F)) ∧ (dn = false → m ≤ k)) (fun _ _ i _ => n - (intOf i).toNat)
  case atStart => exact ⟨0, 0, none, 0, [], false, by omega, by omega, rfl, rfl, rfl, ⟨rfl, rfl⟩, Bld.nil (Below.refl _ _), fun _ => by omega⟩
  case round =>
    obtain ⟨k, m, A', c', F, dn, hk, hm, rfl, rfl, rfl, HM, HB, hmd⟩ := hrel
    by_cases hlt : k < n
    · obtain ⟨ad, hl, rfl, hlb, hlb2, hat⟩ := ImgV.at_ H.out hlt
      have hat2 := hat.below HB.out.below hlb2
      have hg : im[k]? = some im[k] := List.getElem?_eq_getElem hl
      obtain ⟨p, hp⟩ : ∃ p, p = im[k] := ⟨_, rfl⟩
      rw [← hp] at hat2 hg
      obtain ⟨t, x, y⟩ := p
      obtain ⟨c0, c1, c2⟩ := hat2
      dsimp only at c0 c1 c2
      have hnx : putTo im s size round (k + 1) = if dn = false ∧ Op.bytesLess t.toList s.toList = false then
          (F ++ (if (t.toList == s.toList) = true then [⟨t, x, round⟩] else [⟨s, size, round⟩, ⟨t, x, y⟩]), true) else (F ++ [⟨t, x, y⟩], dn) := by
        rw [putTo, hg]
        dsimp only
        rw [HM.out.2]
      clear hat hl hlb hlb2 hp hg
      have hb0 := HB.out.free ((Below.refl _ _).alloc (Nat.le_refl _) (.cells #[.string t, .int .i64 x, .int .i64 y] 54))
      have one : ∀ (a : ByteArray) (b d : Int), ∀ u ∈ (#[.string a, .int .i64 b, .int .i64 d] : Array Value).toList, u.oneCell' = true := by simp [Value.oneCell']
      by_cases hd : dn = false ∧ Op.bytesLess t.toList s.toList = false
      · obtain ⟨rfl, hle⟩ := hd
        have hmk := hmd rfl
        rw [if_pos ⟨rfl, hle⟩] at hnx
        by_cases hts : (t.toList == s.toList) = true
        · rw [if_pos hts] at hnx
          have HX := Lib.hid hnx
          have hb1 := HB.out.free ((Below.refl _ _).alloc (Nat.le_refl _) (.cells #[.string t, .int .i64 x, .int .i64 round] 54))
          obtain ⟨A2, cc2, w2, hr, hb2, -⟩ := hb1.push eli #[.string t, .int .i64 x, .int .i64 round] rfl (one _ _ _) (by omega) (by decide) (N := wr.heap.size + 1) (by simp)
          have HB2 := Lib.hid hb2
          clear hnx hb0 hb1 hb2 one hmd
          go_wp2_with (at_builtin; refine Ro.wpList_app rfl _ _ _ _ rfl _ _ rfl rfl hr ?_)
          go_roundw
          case rel => exact ⟨k + 1, m + 1, A2, cc2, F ++ [⟨t, x, round⟩], true, by omega, by omega, by go_num, rfl, rfl, ⟨by rw [List.length_append, ← HM.out.1]; rfl, HX.out⟩, by show Bld _ _ _ _ _ _ _ _; rw [flatI_snoc]; exact HB2.out, fun c => by cases c⟩
          case measure => simp [intOf]; omega
        · have hts' : (t.toList == s.toList) = false := by simpa using hts
          rw [if_neg hts] at hnx
          have HX := Lib.hid hnx
          obtain ⟨A2, cc2, w2, hr, hb2, hO⟩ := hb0.push eli #[.string s, .int .i64 size, .int .i64 round] rfl (one _ _ _) (by omega) (by decide) (N := wr.heap.size + 1) (by simp)
          obtain ⟨A3, cc3, w3, hr3, hb3, -⟩ := hb2.push eli #[.string t, .int .i64 x, .int .i64 y] rfl (one _ _ _) (by omega) (by decide) rfl
          have hX : Mem.Blk w2 wr.heap.size 54 #[.string t, .int .i64 x, .int .i64 y] := (hO.block wr.heap.size (by simp) (fun e => by have := HB.out.row.lt e; omega)).trans Mem.Blk.new
          have x0 : w2.cell? ⟨wr.heap.size, 0, none⟩ = some (.string t) := hX.cell 0
          have x1 : w2.cell? ⟨wr.heap.size, 1, none⟩ = some (.int .i64 x) := hX.cell 1
          have x2 : w2.cell? ⟨wr.heap.size, 2, none⟩ = some (.int .i64 y) := hX.cell 2
          have HB2 := Lib.hid hb3
          clear hnx hb0 hb2 hb3 one hts hX hO
          go_wp2_with (first | (at_builtin; refine Ro.wpList_app rfl _ _ _ _ rfl _ _ rfl rfl hr ?_) | (at_builtin; refine Ro.wpList_app rfl _ _ _ _ rfl _ _ rfl rfl hr3 ?_))
          go_roundw
          case rel => exact ⟨k + 1, m + 1 + 1, A3, cc3, F ++ [⟨s, size, round⟩, ⟨t, x, y⟩], true, by omega, by omega, by go_num, rfl, rfl, ⟨by rw [List.length_append, ← HM.out.1]; rfl, HX.out⟩, by show Bld _ _ _ _ _ _ _ _; rw [flatI_two]; exact HB2.out, fun c => by cases c⟩
          case measure => simp [intOf]; omega
      · rw [if_neg hd] at hnx
        have HX := Lib.hid hnx
        obtain ⟨A2, cc2, w2, hr, hb2, -⟩ := hb0.push eli #[.string t, .int .i64 x, .int .i64 y] rfl (one _ _ _) (by omega) (by decide) (N := wr.heap.size + 1) (by simp)
        have HB2 := Lib.hid hb2
        clear hnx hb0 hb2 one
        cases dn
        · have hle : Op.bytesLess t.toList s.toList = true := by
            cases hh : Op.bytesLess t.toList s.toList
            · exact absurd ⟨rfl, hh⟩ hd
            · rfl
          have hmk := hmd rfl
          clear hd hmd
          go_wp2_with (at_builtin; refine Ro.wpList_app rfl _ _ _ _ rfl _ _ rfl rfl hr ?_)
          go_roundw
          case rel => exact ⟨k + 1, m + 1, A2, cc2, F ++ [⟨t, x, y⟩], false, by omega, by omega, by go_num, rfl, rfl, ⟨by rw [List.length_append, ← HM.out.1]; rfl, HX.out⟩, by show Bld _ _ _ _ _ _ _ _; rw [flatI_snoc]; exact HB2.out, fun _ => by omega⟩
          case measure => simp [intOf]; omega
        · clear hd hmd
          go_wp2_with (at_builtin; refine Ro.wpList_app rfl _ _ _ _ rfl _ _ rfl rfl hr ?_)
          go_roundw
          case rel => exact ⟨k + 1, m + 1, A2, cc2, F ++ [⟨t, x, y⟩], true, by omega, by omega, by go_num, rfl, rfl, ⟨by rw [List.length_append, ← HM.out.1]; rfl, HX.out⟩, by show Bld _ _ _ _ _ _ _ _; rw [flatI_snoc]; exact HB2.out, fun c => by cases c⟩
          case measure => simp [intOf]; omega
    · obtain rfl : k = n := by omega
      have hP : putTo im s size round im.length = (F, dn) := by rw [Hl.out]; exact HM.out.2
      cases dn
      · have hf : Hid (rputI im s size round = F ++ [⟨s, size, round⟩] ∧ (rputI im s size round).length = m + 1) := by
          have e : rputI im s size round = F ++ [⟨s, size, round⟩] := by unfold rputI; rw [hP]; rfl
          exact ⟨e, by rw [e, List.length_append, ← HM.out.1]; rfl⟩
        have one : ∀ (a : ByteArray) (b d : Int), ∀ u ∈ (#[.string a, .int .i64 b, .int .i64 d] : Array Value).toList, u.oneCell' = true := by simp [Value.oneCell']
        obtain ⟨A2, cc2, w2, hr, hb2, -⟩ := HB.out.push eli #[.string s, .int .i64 size, .int .i64 round] rfl (one _ _ _) (by omega) (by decide) rfl
        have HB2 := Lib.hid hb2
        clear hb2 one hP hmd
        go_wp2_with (at_builtin; refine Ro.wpList_app rfl _ _ _ _ rfl _ _ rfl rfl hr ?_)
        go_ret
        rw [hf.out.2, hf.out.1]
        exact ⟨A2, cc2, rfl, by show Ro.Row _ _ _ _ _ _ _; rw [flatI_snoc]; exact HB2.out.row, HB2.out.below, HB2.out.fresh⟩
      · have hf : Hid (rputI im s size round = F) := by show _ = _; unfold rputI; rw [hP]; rfl
        have hmF := Lib.hid HM.out.1
        clear hP hmd
        go_wp2_with fail
        go_ret
        rw [hf.out, ← hmF.out]
        exact ⟨A', c', rfl, HB.out.row, HB.out.below, HB.out.fresh⟩
end Wo
end Go.Proofs.Ythccojfflmfggaa
/- The walks of the document's layer 15: is a name one of these; touch. -/
namespace Go.Proofs.Ythccojfflmfggaa
open Go.RowKit
namespace Wo
theorem ret_bool2 {a b : Bool} (h : a = b) : Ending.returned (.bool a) = .returned (.bool b) := by rw [h]
/-- a slice of texts -/
def Strs (w : World) (B : Nat) (A : Option Addr) (n : Nat) (us : List ByteArray) : Prop := Mem.Sl w B 1 A n (us.map Value.string)
section
variable {w w' : World} {B n : Nat} {A : Option Addr} {us : List ByteArray}
theorem Strs.len (h : Strs w B A n us) : us.length = n := by have := h.1; simpa using this
theorem Strs.at_ {k : Nat} (h : Strs w B A n us) (hk : k < n) : ∃ (ad : Addr) (t : ByteArray) (hl : k < us.length), A = some ad ∧ ad.block < B ∧ us[k] = t ∧ w.cell? (ad.add k) = some (.string t) := by
  obtain ⟨ad, hl, e, hb, hc⟩ := Mem.Sl.at_ h hk
  exact ⟨ad, _, by simpa using hl, e, hb, rfl, by simpa using hc⟩
end
theorem has_of_at {l : List ByteArray} {s : ByteArray} {k : Nat} (hk : k < l.length) (e : l[k] = s) : Str.has l s = true := Str.has_iff.2 (by rw [← e]; exact List.getElem_mem hk)
theorem has_none {l : List ByteArray} {s : ByteArray} (h : ∀ (j : Nat) (hj : j < l.length), l[j] ≠ s) : Str.has l s = false := by
  cases hh : Str.has l s
  · rfl
  · obtain ⟨j, hj, e⟩ := List.getElem_of_mem (Str.has_iff.1 hh)
    exact absurd e (h j hj)
set_option maxRecDepth 100000 in
set_option maxHeartbeats 1000000 in
theorem rhas_c (A : Option Addr) (n c B : Nat) (us : List ByteArray) (s : ByteArray) (w : World) (h : Strs w B A n us) (hn : n ≤ 1000000) :
    Calls Try.prog 79 #[.slice A n c, .string s] w fun e w' => e = .returned (.bool (Str.has us s)) ∧ w' = w := by
  have Hl := Lib.hid h.len
  have H := Lib.hid h
  clear h
  go_enter Try.func79, Try.ntmps79
  go_wp2_with fail
  go_loop [5] (fun vi => ∃ k : Nat, k ≤ n ∧ vi = .int .i64 k ∧ Hid (∀ (j : Nat) (hj : j < us.length), j < k → us[j] ≠ s)) (fun i => n - (intOf i).toNat)
  case atStart => exact ⟨0, by omega, rfl, fun j hj c => absurd c (by omega)⟩
  case round =>
    obtain ⟨k, hk, rfl, HN⟩ := hrel
    by_cases hlt : k < n
    · obtain ⟨ad, t, hl, rfl, _, e, hat⟩ := H.out.at_ hlt
      have he := Lib.hid e
      clear e
      by_cases hts : t = s
      · subst hts
        have hfin := Lib.hid (has_of_at hl he.out)
        clear he hl
        go_wp2_with fail
        go_ret
        exact ⟨ret_bool2 hfin.out.symm, rfl⟩
      · have hnext : Hid (∀ (j : Nat) (hj : j < us.length), j < k + 1 → us[j] ≠ s) := fun j hj hjk => by
          rcases Nat.lt_succ_iff_lt_or_eq.1 hjk with h | h
          · exact HN.out j hj h
          · subst h; rw [he.out]; exact hts
        have hx : (t.toList == s.toList) = false := beq_eq_false_iff_ne.2 (fun e => hts (bytes_eq e))
        clear he hl hts
        go_wp2_with fail
        go_round
        case rel => exact ⟨k + 1, by omega, by go_num, hnext⟩
        case measure => simp [intOf]; omega
    · obtain rfl : k = n := by omega
      have hfin := Lib.hid (has_none (l := us) (s := s) (fun j hj => HN.out j hj (by rw [Hl.out] at hj; exact hj)))
      go_wp2_with fail
      go_ret
      exact ⟨ret_bool2 hfin.out.symm, rfl⟩
/-- an image that is used, or not -/
def tch (us : List ByteArray) (round : Int) (p : ImgV) : ImgV := if Str.has us p.name then ⟨p.name, p.size, round⟩ else p
theorem map_take {l : List ImgV} {f : ImgV → ImgV} {k : Nat} (h : k < l.length) : (l.take (k + 1)).map f = (l.take k).map f ++ [f l[k]] := by
  rw [Mem.take_snoc _ _ h, List.map_append]
  rfl
set_option maxRecDepth 100000 in
set_option maxHeartbeats 4000000 in
theorem rtouch_c (A A2 : Option Addr) (n c m d : Nat) (im : List ImgV) (us : List ByteArray) (round : Int) (w : World) (h : Mem.Sl w w.heap.size 3 A n (ImgV.flat im)) (h2 : Strs w w.heap.size A2 m us) (hlen : im.length = n) (hn : n ≤ 10000) (hm : m ≤ 10000) :
    Calls Try.prog 66 #[.slice A n c, .slice A2 m d, .int .i64 round] w (NewI n (im.map (tch us round)) w) := by
  have Hl := Lib.hid hlen
  have H := Lib.hid h
  have H2 := Lib.hid h2
  clear hlen h h2
  go_enter Try.func66, Try.ntmps66
  go_wp2_with fail
  go_loopw [7, 8] (fun vo vi wr => ∃ (k : Nat) (A' : Option Addr) (c' : Nat), k ≤ n ∧ vi = .int .i64 k ∧ vo = .slice A' k c' ∧ Hid (Bld w wr 54 3 A' k c' (ImgV.flat ((im.take k).map (tch us round))))) (fun _ i _ => n - (intOf i).toNat)
  case atStart => exact ⟨0, none, 0, by omega, rfl, rfl, Bld.nil (Below.refl _ _)⟩
  case round =>
    obtain ⟨k, A', c', hk, rfl, rfl, HB⟩ := hrel
    by_cases hlt : k < n
    · obtain ⟨ad, hl, rfl, hlb, hlb2, hat⟩ := ImgV.at_ H.out hlt
      have hat2 := hat.below HB.out.below hlb2
      have HF := Lib.hid (map_take (f := tch us round) hl)
      generalize im[k] = p at *
      obtain ⟨c0, c1, c2⟩ := hat2
      obtain ⟨t, x, y⟩ := p
      dsimp only at c0 c1 c2
      have one : ∀ (a : ByteArray) (b d : Int), ∀ u ∈ (#[.string a, .int .i64 b, .int .i64 d] : Array Value).toList, u.oneCell' = true := by simp [Value.oneCell']
      have hal : Below wr.heap.size wr (wr.alloc (.cells #[.string t, .int .i64 x, .int .i64 y] 54)) := (Below.refl _ _).alloc (Nat.le_refl _) _
      have HH := Lib.hid (rhas_c A2 m d w.heap.size us t (wr.alloc (.cells #[.string t, .int .i64 x, .int .i64 y] 54)) (Mem.Sl.below H2.out (HB.out.below.trans (hal.mono HB.out.below.size))) (by omega))
      clear hat hl hlb hlb2
      cases hu : Str.has us t
      · have hf : tch us round ⟨t, x, y⟩ = ⟨t, x, y⟩ := by unfold tch; rw [hu]; rfl
        rw [hf] at HF
        rw [hu] at HH
        obtain ⟨A3, cc3, w3, hr, hb3, -⟩ := (HB.out.free hal).push eli #[.string t, .int .i64 x, .int .i64 y] rfl (one _ _ _) (by omega) (by decide) (N := wr.heap.size + 1) (by simp)
        have HB3 := Lib.hid hb3
        clear hu hf hb3 one hal
        go_wp2_with fail
        refine HH.out.mono ?_
        rintro e wx ⟨rfl, rfl⟩
        clear HH
        go_wp2_with (at_builtin; refine Ro.wpList_app rfl _ _ _ _ rfl _ _ rfl rfl hr ?_)
        go_roundw
        case rel => exact ⟨k + 1, A3, cc3, by omega, by go_num, rfl, by show Bld _ _ _ _ _ _ _ _; rw [HF.out, flatI_snoc]; exact HB3.out⟩
        case measure => simp [intOf]; omega
      · have hf : tch us round ⟨t, x, y⟩ = ⟨t, x, round⟩ := by unfold tch; rw [hu]; rfl
        rw [hf] at HF
        rw [hu] at HH
        have hal2 : Below wr.heap.size wr (wr.alloc (.cells #[.string t, .int .i64 x, .int .i64 round] 54)) := (Below.refl _ _).alloc (Nat.le_refl _) _
        obtain ⟨A3, cc3, w3, hr, hb3, -⟩ := (HB.out.free hal2).push eli #[.string t, .int .i64 x, .int .i64 round] rfl (one _ _ _) (by omega) (by decide) (N := wr.heap.size + 1) (by simp)
        have HB3 := Lib.hid hb3
        clear hu hf hb3 one hal hal2
        go_wp2_with fail
        refine HH.out.mono ?_
        rintro e wx ⟨rfl, rfl⟩
        clear HH
        go_wp2_with (at_builtin; refine Ro.wpList_app rfl _ _ _ _ rfl _ _ rfl rfl hr ?_)
        go_roundw
        case rel => exact ⟨k + 1, A3, cc3, by omega, by go_num, rfl, by show Bld _ _ _ _ _ _ _ _; rw [HF.out, flatI_snoc]; exact HB3.out⟩
        case measure => simp [intOf]; omega
    · obtain rfl : k = n := by omega
      have he : Hid (im.take k = im) := by show _ = _; rw [List.take_of_length_le (by have := Hl.out; omega)]
      go_wp2_with fail
      go_ret
      have h2 := HB.out
      rw [he.out] at h2
      exact ⟨A', c', rfl, h2.row, h2.below, h2.fresh⟩
end Wo
end Go.Proofs.Ythccojfflmfggaa
/- The walk of the document's layer 16: create. -/
namespace Go.Proofs.Ythccojfflmfggaa
open Go.RowKit
namespace Wo
theorem flatC_snoc (l : List ConV) (p : ConV) : ConV.flat (l ++ [p]) = ConV.flat l ++ p.arr.toList := by
  rw [ConV.flat_app]
  simp [ConV.flat, ConV.arr_cells]
theorem flatC_two (l : List ConV) (p q : ConV) : ConV.flat (l ++ [p, q]) = (ConV.flat l ++ p.arr.toList) ++ q.arr.toList := by
  rw [← flatC_snoc, ← flatC_snoc, List.append_assoc]
  rfl
/-- create, as far as a place, and whether it was done -/
def crTo (bx : List ConV) (s : ByteArray) (round : Int) : Nat → List ConV × Bool
  | 0 => ([], false)
  | k + 1 => match bx[k]? with
    | none => crTo bx s round k
    | some x => if (crTo bx s round k).2 = false ∧ (Op.bytesLess x.id.toList s.toList || x.id.toList == s.toList) = false then
        ((crTo bx s round k).1 ++ [⟨s, 1, 0, round⟩, x], true)
      else ((crTo bx s round k).1 ++ [x], (crTo bx s round k).2)
def crB (bx : List ConV) (s : ByteArray) (round : Int) : List ConV := if (crTo bx s round bx.length).2 then (crTo bx s round bx.length).1 else (crTo bx s round bx.length).1 ++ [⟨s, 1, 0, round⟩]
/-- a new list of containers in a value of the document's -/
def NewC (rt : Int) (O I : Value) (bx : List ConV) (w : World) (f : Value → Ending) (e : Ending) (w' : World) : Prop :=
  ∃ A' c', e = f (.agg #[.int .i64 rt, O, .slice A' bx.length c', I]) ∧ CRow w' A' bx.length c' bx ∧ Below w.heap.size w w' ∧ ∀ b, Ro.blk A' = some b → w.heap.size ≤ b
theorem only4 (w : World) (g : Nat) (b c d e : Value) : Ro.Only (fun k => k = g) w ((((w.setCell ⟨g, 0, none⟩ b).setCell ⟨g, 1, none⟩ c).setCell ⟨g, 2, none⟩ d).setCell ⟨g, 3, none⟩ e) :=
  (((Ro.Only.setCell w ⟨g, 0, none⟩ b).trans (Ro.Only.setCell _ ⟨g, 1, none⟩ c) (fun _ _ e => e)).trans (Ro.Only.setCell _ ⟨g, 2, none⟩ d) (fun _ _ e => e)).trans (Ro.Only.setCell _ ⟨g, 3, none⟩ e) (fun _ _ e => e)
theorem only5 (w : World) (g o : Nat) (a b c d e : Value) : Ro.Only (fun k => k = g ∨ k = g + 1) w (((((w.setCell ⟨g, o, none⟩ a).setCell ⟨g + 1, 0, none⟩ b).setCell ⟨g + 1, 1, none⟩ c).setCell ⟨g + 1, 2, none⟩ d).setCell ⟨g + 1, 3, none⟩ e) :=
  ((Ro.Only.setCell w ⟨g, o, none⟩ a).mono (fun _ _ e => .inl e)).trans (only4 _ (g + 1) b c d e) (fun _ _ e => .inr e)
set_option maxRecDepth 100000 in
set_option maxHeartbeats 4000000 in
theorem rcreate_c (rt : Int) (AO A AI : Option Addr) (nO cO n c nI cI : Nat) (bx : List ConV) (s : ByteArray) (round : Int) (w : World) (h : Mem.Sl w w.heap.size 4 A n (ConV.flat bx)) (hr : Str.Rises (ids bx)) (hlen : bx.length = n) (hn : n ≤ 10000) :
    Calls Try.prog 41 #[.agg #[.int .i64 rt, .slice AO nO cO, .slice A n c, .slice AI nI cI], .string s, .int .i64 round] w fun e w' =>
      (Str.has (ids bx) s = true → e = .returned (.tuple #[.agg #[.int .i64 rt, .slice AO nO cO, .slice A n c, .slice AI nI cI], .int .i64 5]) ∧ Below w.heap.size w w') ∧
      (Str.has (ids bx) s = false → NewC rt (.slice AO nO cO) (.slice AI nI cI) (crB bx s round) w (fun v => .returned (.tuple #[v, .int .i64 0])) e w') := by
  have Hl := Lib.hid hlen
  have H := Lib.hid h
  have hpl := fun (w' : World) (hb : Below w.heap.size w w') => place_c A n c w.heap.size bx s w' (h.below hb) hr hlen (by omega)
  have Hp := Lib.hid hpl
  clear hlen h hpl
  cases hh : Str.has (ids bx) s
  · have e1 : plc (ids bx) s = -1 := by unfold plc; rw [hh]; rfl
    rw [e1] at Hp
    clear hh e1 hr
    go_enter Try.func41, Try.ntmps41
    go_wp2_with fail
    have L0 : Below w.heap.size w ((w.alloc (.cells #[.int .i64 rt, .slice AO nO cO, .slice A n c, .slice AI nI cI] 64)).alloc (.cells #[.int .i64 0, .slice none 0 0, .slice none 0 0, .slice none 0 0] 64)) := ((Below.refl _ _).alloc (Nat.le_refl _) _).alloc (by simp) _
    have N3 : Mem.Blk ((w.alloc (.cells #[.int .i64 rt, .slice AO nO cO, .slice A n c, .slice AI nI cI] 64)).alloc (.cells #[.int .i64 0, .slice none 0 0, .slice none 0 0, .slice none 0 0] 64)) w.heap.size 64 #[.int .i64 rt, .slice AO nO cO, .slice A n c, .slice AI nI cI] := Mem.Blk.new.alloc
    have N6 : Mem.Blk ((w.alloc (.cells #[.int .i64 rt, .slice AO nO cO, .slice A n c, .slice AI nI cI] 64)).alloc (.cells #[.int .i64 0, .slice none 0 0, .slice none 0 0, .slice none 0 0] 64)) (w.heap.size + 1) 64 #[.int .i64 0, .slice none 0 0, .slice none 0 0, .slice none 0 0] := by
      have := Mem.Blk.new (w := w.alloc (.cells #[.int .i64 rt, .slice AO nO cO, .slice A n c, .slice AI nI cI] 64)) (t := 64) (cs := #[.int .i64 0, .slice none 0 0, .slice none 0 0, .slice none 0 0])
      simpa using this
    generalize (w.alloc (.cells #[.int .i64 rt, .slice AO nO cO, .slice A n c, .slice AI nI cI] 64)).alloc (.cells #[.int .i64 0, .slice none 0 0, .slice none 0 0, .slice none 0 0] 64) = X at *
    have HL0 := Lib.hid L0
    have HN3 := Lib.hid N3
    have HN6 := Lib.hid N6
    refine (Hp.out X L0).mono ?_
    rintro e wx ⟨rfl, rfl⟩
    have x2 : wx.cell? ⟨w.heap.size, 2, none⟩ = some (.slice A n c) := N3.cell 2
    clear Hp L0 N3 N6
    go_wp2_with fail
    clear x2
    go_loopw [8, 9, 10] (fun vo vd vi wr => ∃ (k m : Nat) (A' : Option Addr) (c' : Nat) (F : List ConV) (dn : Bool), k ≤ n ∧ m ≤ k + 1 ∧ vi = .int .i64 k ∧ vo = .slice A' m c' ∧ vd = .bool dn ∧ Hid (m = F.length ∧ crTo bx s round k = (F, dn)) ∧ Hid (Bld wx wr 48 4 A' m c' (ConV.flat F)) ∧ (dn = false → m ≤ k)) (fun _ _ i _ => n - (intOf i).toNat)
    case atStart => exact ⟨0, 0, none, 0, [], false, by omega, by omega, rfl, rfl, rfl, ⟨rfl, rfl⟩, Bld.nil (Below.refl _ _), fun _ => by omega⟩
    case round =>
      obtain ⟨k, m, A', c', F, dn, hk, hm, rfl, rfl, rfl, HM, HB, hmd⟩ := hrel
      have M3 := HN3.out.below HB.out.below HN3.out.lt
      have x2 : wr.cell? ⟨w.heap.size, 2, none⟩ = some (.slice A n c) := M3.cell 2
      by_cases hlt : k < n
      · obtain ⟨ad, hl, rfl, hlb, hlb2, hat⟩ := ConV.at_ H.out hlt
        have hg : bx[k]? = some bx[k] := List.getElem?_eq_getElem hl
        obtain ⟨p, hp⟩ : ∃ p, p = bx[k] := ⟨_, rfl⟩
        rw [← hp] at hat hg
        have hatG := Lib.hid (fun v (hv : Below wx.heap.size wx v) => hat.below (HL0.out.trans (hv.mono HL0.out.size)) hlb2)
        have hat2 := hatG.out wr HB.out.below
        obtain ⟨t, x, y, r⟩ := p
        obtain ⟨c0, c1, c2, c3⟩ := hat2
        dsimp only at c0 c1 c2 c3
        have hnx : crTo bx s round (k + 1) = if dn = false ∧ (Op.bytesLess t.toList s.toList || t.toList == s.toList) = false then
            (F ++ [⟨s, 1, 0, round⟩, ⟨t, x, y, r⟩], true) else (F ++ [⟨t, x, y, r⟩], dn) := by
          rw [crTo, hg]
          dsimp only
          rw [HM.out.2]
        clear hat hl hlb hlb2 hp hg M3
        have one : ∀ (a : ByteArray) (b d f : Int), ∀ u ∈ (#[.string a, .int .i64 b, .int .i64 d, .int .i64 f] : Array Value).toList, u.oneCell' = true := by simp [Value.oneCell']
        by_cases hd : dn = false ∧ (Op.bytesLess t.toList s.toList || t.toList == s.toList) = false
        · obtain ⟨rfl, hle⟩ := hd
          have hmk := hmd rfl
          rw [if_pos ⟨rfl, hle⟩] at hnx
          have HX := Lib.hid hnx
          obtain ⟨A2, cc2, w2, hr, hb2, hO⟩ := HB.out.push elc #[.string s, .int .i64 1, .int .i64 0, .int .i64 round] rfl (one _ _ _ _) (by omega) (by decide) rfl
          obtain ⟨A3, cc3, w3, hr3, hb3, -⟩ := hb2.push elc #[.string t, .int .i64 x, .int .i64 y, .int .i64 r] rfl (one _ _ _ _) (by omega) (by decide) rfl
          have y2 : w2.cell? ⟨w.heap.size, 2, none⟩ = some (.slice (some ad) n c) := (HN3.out.below hb2.below HN3.out.lt).cell 2
          have hat3 := hatG.out w2 hb2.below
          obtain ⟨d0, d1, d2, d3⟩ := hat3
          dsimp only at d0 d1 d2 d3
          have HB2 := Lib.hid hb3
          clear hnx hb2 hb3 one hO
          go_wp2_with (first | (at_builtin; refine Ro.wpList_app rfl _ _ _ _ rfl _ _ rfl rfl hr ?_) | (at_builtin; refine Ro.wpList_app rfl _ _ _ _ rfl _ _ rfl rfl hr3 ?_))
          go_roundw
          case rel => exact ⟨k + 1, m + 1 + 1, A3, cc3, F ++ [⟨s, 1, 0, round⟩, ⟨t, x, y, r⟩], true, by omega, by omega, by go_num, rfl, rfl, ⟨by rw [List.length_append, ← HM.out.1]; rfl, HX.out⟩, by show Bld _ _ _ _ _ _ _ _; rw [flatC_two]; exact HB2.out, fun c => by cases c⟩
          case measure => simp [intOf]; omega
        · rw [if_neg hd] at hnx
          have HX := Lib.hid hnx
          obtain ⟨A2, cc2, w2, hr, hb2, -⟩ := HB.out.push elc #[.string t, .int .i64 x, .int .i64 y, .int .i64 r] rfl (one _ _ _ _) (by omega) (by decide) rfl
          have HB2 := Lib.hid hb2
          clear hnx hb2 one
          cases dn
          · have hle : (Op.bytesLess t.toList s.toList || t.toList == s.toList) = true := by
              cases hh : (Op.bytesLess t.toList s.toList || t.toList == s.toList)
              · exact absurd ⟨rfl, hh⟩ hd
              · rfl
            have hmk := hmd rfl
            clear hd hmd
            go_wp2_with (at_builtin; refine Ro.wpList_app rfl _ _ _ _ rfl _ _ rfl rfl hr ?_)
            go_roundw
            case rel => exact ⟨k + 1, m + 1, A2, cc2, F ++ [⟨t, x, y, r⟩], false, by omega, by omega, by go_num, rfl, rfl, ⟨by rw [List.length_append, ← HM.out.1]; rfl, HX.out⟩, by show Bld _ _ _ _ _ _ _ _; rw [flatC_snoc]; exact HB2.out, fun _ => by omega⟩
            case measure => simp [intOf]; omega
          · clear hd hmd
            go_wp2_with (at_builtin; refine Ro.wpList_app rfl _ _ _ _ rfl _ _ rfl rfl hr ?_)
            go_roundw
            case rel => exact ⟨k + 1, m + 1, A2, cc2, F ++ [⟨t, x, y, r⟩], true, by omega, by omega, by go_num, rfl, rfl, ⟨by rw [List.length_append, ← HM.out.1]; rfl, HX.out⟩, by show Bld _ _ _ _ _ _ _ _; rw [flatC_snoc]; exact HB2.out, fun c => by cases c⟩
            case measure => simp [intOf]; omega
      · obtain rfl : k = n := by omega
        have hP : crTo bx s round bx.length = (F, dn) := by rw [Hl.out]; exact HM.out.2
        have hend : Hid (∀ (v : World) (A2 : Option Addr) (m2 c2 : Nat) (F2 : List ConV), Bld wx v 48 4 A2 m2 c2 (ConV.flat F2) →
            (v.cell? ⟨w.heap.size, 0, none⟩ = some (.int .i64 rt) ∧ v.cell? ⟨w.heap.size, 1, none⟩ = some (.slice AO nO cO) ∧ v.cell? ⟨w.heap.size, 2, none⟩ = some (.slice A k c) ∧ v.cell? ⟨w.heap.size, 3, none⟩ = some (.slice AI nI cI)) ∧
            (v.cell? ⟨w.heap.size + 1, 0, none⟩ = some (.int .i64 0) ∧ v.cell? ⟨w.heap.size + 1, 1, none⟩ = some (.slice none 0 0) ∧ v.cell? ⟨w.heap.size + 1, 2, none⟩ = some (.slice none 0 0) ∧ v.cell? ⟨w.heap.size + 1, 3, none⟩ = some (.slice none 0 0)) ∧
            (∀ o, v.frozen? ⟨w.heap.size, o, none⟩ = false) ∧ (∀ o, v.frozen? ⟨w.heap.size + 1, o, none⟩ = false) ∧
            (∀ (u : World), Ro.Only (fun b => b = w.heap.size ∨ b = w.heap.size + 1) v u → CRow u A2 m2 c2 F2 ∧ Below w.heap.size w u ∧ ∀ b, Ro.blk A2 = some b → w.heap.size ≤ b)) := by
          intro v A2 m2 c2 F2 hv
          have M3 := HN3.out.below hv.below HN3.out.lt
          have M6 := HN6.out.below hv.below HN6.out.lt
          have l6 := HN6.out.lt
          have hz := HL0.out.size
          refine ⟨⟨M3.cell 0, M3.cell 1, M3.cell 2, M3.cell 3⟩, ⟨M6.cell 0, M6.cell 1, M6.cell 2, M6.cell 3⟩, M3.frozen, M6.frozen, fun u hu => ⟨hv.row.only hu (fun b hb e => by have := hv.fresh b hb; omega), ?_, fun b hb => by have := hv.fresh b hb; omega⟩⟩
          exact (HL0.out.trans (hv.below.mono HL0.out.size)).trans (hu.below (by have := hv.below.size; omega) (fun b hb e => by omega))
        cases dn
        · have hf : Hid (crB bx s round = F ++ [⟨s, 1, 0, round⟩] ∧ (crB bx s round).length = m + 1) := by
            have e : crB bx s round = F ++ [⟨s, 1, 0, round⟩] := by unfold crB; rw [hP]; rfl
            exact ⟨e, by rw [e, List.length_append, ← HM.out.1]; rfl⟩
          have one : ∀ (a : ByteArray) (b d f : Int), ∀ u ∈ (#[.string a, .int .i64 b, .int .i64 d, .int .i64 f] : Array Value).toList, u.oneCell' = true := by simp [Value.oneCell']
          obtain ⟨A2, cc2, w2, hr, hb2, -⟩ := HB.out.push elc #[.string s, .int .i64 1, .int .i64 0, .int .i64 round] rfl (one _ _ _ _) (by omega) (by decide) rfl
          obtain ⟨⟨q0, q1, q2, q3⟩, ⟨r0, r1, r2, r3⟩, f3, f6, hE⟩ := hend.out w2 A2 (m + 1) cc2 (F ++ [⟨s, 1, 0, round⟩]) (by rw [flatC_snoc]; exact hb2)
          have HE := Lib.hid hE
          clear hb2 one hP hmd hE hend
          go_wp2_with (at_builtin; refine Ro.wpList_app rfl _ _ _ _ rfl _ _ rfl rfl hr ?_)
          refine bodyPost_ret (v := .tuple #[.agg #[.int .i64 rt, .slice AO nO cO, .slice A2 (m + 1) cc2, .slice AI nI cI], .int .i64 0]) (by simp [results, Try.results41, go_sem, r0, r1, r2, r3]) rfl ⟨fun c => (by cases c), fun _ => ?_⟩
          obtain ⟨e1, e2, e3⟩ := HE.out _ (only5 w2 w.heap.size 2 (.slice A2 (m + 1) cc2) (.int .i64 rt) (.slice AO nO cO) (.slice A2 (m + 1) cc2) (.slice AI nI cI))
          unfold NewC
          rw [hf.out.2, hf.out.1]
          exact ⟨A2, cc2, rfl, e1, e2, e3⟩
        · have hf : Hid (crB bx s round = F) := by show _ = _; unfold crB; rw [hP]; rfl
          have hmF := Lib.hid HM.out.1
          obtain ⟨⟨q0, q1, q2, q3⟩, ⟨r0, r1, r2, r3⟩, f3, f6, hE⟩ := hend.out wr A' m c' F HB.out
          have HE := Lib.hid hE
          clear hP hmd hE hend
          go_wp2_with fail
          refine bodyPost_ret (v := .tuple #[.agg #[.int .i64 rt, .slice AO nO cO, .slice A' m c', .slice AI nI cI], .int .i64 0]) (by simp [results, Try.results41, go_sem, r0, r1, r2, r3]) rfl ⟨fun c => (by cases c), fun _ => ?_⟩
          obtain ⟨e1, e2, e3⟩ := HE.out _ (only5 wr w.heap.size 2 (.slice A' m c') (.int .i64 rt) (.slice AO nO cO) (.slice A' m c') (.slice AI nI cI))
          unfold NewC
          rw [hf.out, ← hmF.out]
          exact ⟨A', c', rfl, e1, e2, e3⟩
  · have e1 : plc (ids bx) s = (Str.pos (ids bx) s : Int) := by unfold plc; rw [hh]; rfl
    rw [e1] at Hp
    generalize Str.pos (ids bx) s = Q at *
    clear hh e1 hr
    go_enter Try.func41, Try.ntmps41
    go_wp2_with fail
    have L0 : Below w.heap.size w ((w.alloc (.cells #[.int .i64 rt, .slice AO nO cO, .slice A n c, .slice AI nI cI] 64)).alloc (.cells #[.int .i64 0, .slice none 0 0, .slice none 0 0, .slice none 0 0] 64)) := ((Below.refl _ _).alloc (Nat.le_refl _) _).alloc (by simp) _
    have N3 : Mem.Blk ((w.alloc (.cells #[.int .i64 rt, .slice AO nO cO, .slice A n c, .slice AI nI cI] 64)).alloc (.cells #[.int .i64 0, .slice none 0 0, .slice none 0 0, .slice none 0 0] 64)) w.heap.size 64 #[.int .i64 rt, .slice AO nO cO, .slice A n c, .slice AI nI cI] := Mem.Blk.new.alloc
    have N6 : Mem.Blk ((w.alloc (.cells #[.int .i64 rt, .slice AO nO cO, .slice A n c, .slice AI nI cI] 64)).alloc (.cells #[.int .i64 0, .slice none 0 0, .slice none 0 0, .slice none 0 0] 64)) (w.heap.size + 1) 64 #[.int .i64 0, .slice none 0 0, .slice none 0 0, .slice none 0 0] := by
      have := Mem.Blk.new (w := w.alloc (.cells #[.int .i64 rt, .slice AO nO cO, .slice A n c, .slice AI nI cI] 64)) (t := 64) (cs := #[.int .i64 0, .slice none 0 0, .slice none 0 0, .slice none 0 0])
      simpa using this
    generalize (w.alloc (.cells #[.int .i64 rt, .slice AO nO cO, .slice A n c, .slice AI nI cI] 64)).alloc (.cells #[.int .i64 0, .slice none 0 0, .slice none 0 0, .slice none 0 0] 64) = X at *
    have HL0 := Lib.hid L0
    refine (Hp.out X L0).mono ?_
    rintro e wx ⟨rfl, rfl⟩
    have q0 := N3.cell 0
    have q1 := N3.cell 1
    have q2 := N3.cell 2
    have q3 := N3.cell 3
    have r0 := N6.cell 0
    have r1 := N6.cell 1
    have r2 := N6.cell 2
    have r3 := N6.cell 3
    have f6 := N6.frozen
    clear Hp L0 N3 N6
    simp at q0 q1 q2 q3 r0 r1 r2 r3
    go_wp2_with fail
    refine bodyPost_ret (v := .tuple #[.agg #[.int .i64 rt, .slice AO nO cO, .slice A n c, .slice AI nI cI], .int .i64 5]) (by simp [results, Try.results41, go_sem, r0, r1, r2, r3]) rfl ⟨fun _ => ⟨rfl, ?_⟩, fun c => (by cases c)⟩
    exact HL0.out.trans ((only4 wx (w.heap.size + 1) _ _ _ _).below HL0.out.size (fun k hk e => by omega))
end Wo
end Go.Proofs.Ythccojfflmfggaa
/- The walks of the document's layer 16: what may be asked. -/
namespace Go.Proofs.Ythccojfflmfggaa
open Go.RowKit
namespace Wo
set_option maxRecDepth 100000 in
set_option maxHeartbeats 1000000 in
theorem rmay_c (rt : Int) (O I : Value) (A : Option Addr) (n c : Nat) (bx : List ConV) (s : ByteArray) (q : Int) (w : World) (h : Mem.Sl w w.heap.size 4 A n (ConV.flat bx)) (hr : Str.Rises (ids bx)) (hlen : bx.length = n) (hn : n ≤ 10000) :
    Calls Try.prog 59 #[.agg #[.int .i64 rt, O, .slice A n c, I], .string s, .int .i64 q] w fun e w' => e = .returned (.int .i64 (errM bx s q)) ∧ Below w.heap.size w w' := by
  have hpl := fun (w' : World) (hb : Below w.heap.size w w') => place_c A n c w.heap.size bx s w' (h.below hb) hr hlen (by omega)
  have Hp := Lib.hid hpl
  clear hpl
  have L0 : Below w.heap.size w (w.alloc (.cells #[.int .i64 rt, O, .slice A n c, I] 64)) := (Below.refl _ _).alloc (Nat.le_refl _) _
  cases hh : Str.has (ids bx) s
  · have e1 : plc (ids bx) s = -1 := by unfold plc; rw [hh]; rfl
    have e2 : errM bx s q = 4 := by unfold errM; rw [the_none hh]
    rw [e1] at Hp
    rw [e2]
    have HL := Lib.hid L0
    clear hh e1 e2 hr h hlen L0
    go_enter Try.func59, Try.ntmps59
    go_wp2_with fail
    refine (Hp.out _ HL.out).mono ?_
    rintro e w1 ⟨rfl, rfl⟩
    clear Hp
    go_wp2_with fail
    go_ret
    exact ⟨rfl, HL.out⟩
  · obtain ⟨hl, ht, -⟩ := the_some hr hh
    have e1 : plc (ids bx) s = (Str.pos (ids bx) s : Int) := by unfold plc; rw [hh]; rfl
    rw [e1] at Hp
    obtain ⟨ad, hl2, rfl, hbk, hbk2, hat⟩ := ConV.at_ h (k := Str.pos (ids bx) s) (by omega)
    have e2 : errM bx s q = if Box.nxt bx[Str.pos (ids bx) s].st q = 0 then 7 else 0 := by unfold errM; rw [ht]
    rw [e2]
    have hat2 := hat.below L0 hbk2
    have c1 := hat2.c1
    generalize bx[Str.pos (ids bx) s].st = st at *
    have HL := Lib.hid L0
    have hP : Str.pos (ids bx) s < n := by omega
    generalize Str.pos (ids bx) s = P at *
    clear hh e1 e2 hr h hlen ht hat hat2 hl hl2 L0 hbk hbk2
    have Hto := Lib.hid (Box.rto_c st q)
    generalize Box.nxt st q = nx at *
    have tail : ∀ v : Int, v = (if nx = 0 then 7 else 0) → Calls Try.prog 59 #[.agg #[.int .i64 rt, O, .slice (some ad) n c, I], .string s, .int .i64 q] w fun e w' => e = .returned (.int .i64 v) ∧ Below w.heap.size w w' := by
      by_cases h0 : nx = 0
      · subst h0
        intro v hv
        rw [if_pos rfl] at hv
        subst hv
        go_enter Try.func59, Try.ntmps59
        go_wp2_with fail
        refine (Hp.out _ HL.out).mono ?_
        rintro e w1 ⟨rfl, rfl⟩
        clear Hp
        go_wp2_with fail
        refine (Hto.out _).mono ?_
        rintro e w1 ⟨rfl, rfl⟩
        go_wp2_with fail
        go_ret
        exact ⟨rfl, HL.out⟩
      · intro v hv
        rw [if_neg h0] at hv
        subst hv
        have hx : (nx == 0) = false := beq_eq_false_iff_ne.2 h0
        clear h0
        go_enter Try.func59, Try.ntmps59
        go_wp2_with fail
        refine (Hp.out _ HL.out).mono ?_
        rintro e w1 ⟨rfl, rfl⟩
        clear Hp
        go_wp2_with fail
        refine (Hto.out _).mono ?_
        rintro e w1 ⟨rfl, rfl⟩
        go_wp2_with fail
        go_ret
        exact ⟨rfl, HL.out⟩
    exact tail _ rfl
end Wo
end Go.Proofs.Ythccojfflmfggaa
/- The walks of the document's layers 15 and 16: the same lists. -/
namespace Go.Proofs.Ythccojfflmfggaa
open Go.RowKit
namespace Wo
def sameC (p q : ConV) : Bool := decide (p.id.toList = q.id.toList ∧ (p.st = q.st ∧ p.tr = q.tr) ∧ p.last = q.last)
theorem sameC_iff {p q : ConV} : sameC p q = true ↔ p = q := by
  unfold sameC
  rw [decide_eq_true_iff]
  constructor
  · rintro ⟨h1, ⟨h2, h3⟩, h4⟩
    obtain ⟨n, s, r, l⟩ := p
    obtain ⟨n', s', r', l'⟩ := q
    dsimp only at h1 h2 h3 h4
    rw [bytes_eq h1, h2, h3, h4]
  · rintro rfl
    exact ⟨rfl, ⟨rfl, rfl⟩, rfl⟩
set_option maxRecDepth 100000 in
theorem equal_con (w : World) (k : Nat) (p q : ConV) : (Op.equalIn (k + 1 + 1 + 1) 48 (.agg p.arr) (.agg q.arr)).run Try.prog w = .ok (sameC p q) w := by
  have f1 : Try.prog.underlying 48 = some (.struct (Try.prog.fieldsOf 48)) := by kernel_rfl
  have f2 : Try.prog.stoodInHeld 48 = false := by kernel_rfl
  have f3 : Try.prog.underlying 3 = some (.int .i64) := by kernel_rfl
  have f5 : Try.prog.underlying 9 = some .string := by kernel_rfl
  have f4 : (Try.prog.fieldsOf 48).toList.map (fun f => (f.name, f.type, f.offset)) = [("Id", 9, 0), ("Box", 44, 1), ("Last", 3, 3)] := by kernel_rfl
  obtain ⟨n, s, r, l⟩ := p
  obtain ⟨n', s', r', l'⟩ := q
  unfold ConV.arr
  dsimp only
  rw [run_equalIn_agg w (k + 1 + 1) _ _ _ f1 f2]
  clear f1 f2
  have hB := fun w => equal_box w k s r s' r'
  have hc : ∀ x : Nat, (part 44 #[.string n, .int .i64 s, .int .i64 r, .int .i64 l] 1).run Try.prog w = .ok (.agg #[.int .i64 s, .int .i64 r]) w := fun _ => by kernel_rfl
  have hc' : ∀ x : Nat, (part 44 #[.string n', .int .i64 s', .int .i64 r', .int .i64 l'] 1).run Try.prog w = .ok (.agg #[.int .i64 s', .int .i64 r']) w := fun _ => by kernel_rfl
  have hcc := hc 0
  have hcc' := hc' 0
  generalize (Try.prog.fieldsOf 48).toList = L at f4 ⊢
  match L, f4 with
  | [], f4 => simp at f4
  | [_], f4 => simp at f4
  | [_, _], f4 => simp at f4
  | _ :: _ :: _ :: _ :: _, f4 => simp at f4
  | [x, y, z], f4 =>
    simp only [List.map_cons, List.map_nil, List.cons.injEq, Prod.mk.injEq, and_true] at f4
    obtain ⟨⟨n1, t1, o1⟩, ⟨n2, t2, o2⟩, n3, t3, o3⟩ := f4
    simp [Op.eqFields, n1, t1, o1, n2, t2, o2, n3, t3, o3, hB, go_sem, f3, f5, sameC]
    by_cases h : n.toList = n'.toList <;> by_cases h2 : s = s' <;> by_cases h3 : r = r' <;> by_cases h4 : l = l' <;> simp [h, h2, h3, h4]
theorem neq_con (w : World) (p q : ConV) : (binOp .neq 48 (.agg p.arr) (.agg q.arr)).run Try.prog w = .ok (.bool (!sameC p q)) w := by
  rw [ConV.arr, ConV.arr, run_neq_struct, ← ConV.arr, ← ConV.arr, equal_con w 9997]
  rfl
set_option maxRecDepth 100000 in
set_option maxHeartbeats 4000000 in
theorem sameboxes_c (A A2 : Option Addr) (n c d B B2 : Nat) (bx : List ConV) (w : World) (h : Mem.Sl w B 4 A n (ConV.flat bx)) (h2 : Mem.Sl w B2 4 A2 n (ConV.flat bx)) (hn : n ≤ 1000000) :
    Calls Try.prog 67 #[.slice A n c, .slice A2 n d] w fun e w' => e = .returned (.bool true) ∧ Below w.heap.size w w' := by
  go_enter Try.func67, Try.ntmps67
  go_wp2_with fail
  go_loopw [5] (fun vi wr => ∃ k : Nat, k ≤ n ∧ vi = .int .i64 k ∧ Hid (Below w.heap.size w wr) ∧ Hid (Mem.Sl wr B 4 A n (ConV.flat bx)) ∧ Hid (Mem.Sl wr B2 4 A2 n (ConV.flat bx))) (fun i _ => n - (intOf i).toNat)
  case atStart => exact ⟨0, by omega, rfl, Below.refl _ _, h, h2⟩
  case round =>
    clear h h2
    obtain ⟨k, hk, rfl, hb, h3, h4⟩ := hrel
    by_cases hlt : k < n
    · obtain ⟨ad, hl, rfl, _, _, hat⟩ := ConV.at_ h3.out hlt
      obtain ⟨ad2, hl2, rfl, _, _, hat2⟩ := ConV.at_ h4.out hlt
      generalize bx[k] = p at *
      obtain ⟨c0, c1, c2, c3⟩ := hat
      obtain ⟨d0, d1, d2, d3⟩ := hat2
      obtain ⟨t, x, y, r⟩ := p
      dsimp only at c0 c1 c2 c3 d0 d1 d2 d3
      have hE : ∀ v, (binOp .neq 48 (.agg #[.string t, .int .i64 x, .int .i64 y, .int .i64 r]) (.agg #[.string t, .int .i64 x, .int .i64 y, .int .i64 r])).run Try.prog v = .ok (.bool false) v := fun v => (neq_con v ⟨t, x, y, r⟩ ⟨t, x, y, r⟩).trans (by rw [sameC_iff.2 rfl]; rfl)
      clear hl hl2
      go_wp2_with fail
      go_quiet (fail)
      go_wp2_with fail
      go_roundw
      case rel => exact ⟨k + 1, by omega, by go_num, Mem.below_drewN hb.out _, h3.out.drewN _, h4.out.drewN _⟩
      case measure => simp [intOf]; omega
    · obtain rfl : k = n := by omega
      go_wp2_with fail
      go_ret
      exact ⟨rfl, hb.out⟩
set_option maxRecDepth 100000 in
set_option maxHeartbeats 4000000 in
theorem sameimages_c (A A2 : Option Addr) (n c d B B2 : Nat) (bx : List ImgV) (w : World) (h : Mem.Sl w B 3 A n (ImgV.flat bx)) (h2 : Mem.Sl w B2 3 A2 n (ImgV.flat bx)) (hn : n ≤ 1000000) :
    Calls Try.prog 68 #[.slice A n c, .slice A2 n d] w fun e w' => e = .returned (.bool true) ∧ Below w.heap.size w w' := by
  go_enter Try.func68, Try.ntmps68
  go_wp2_with fail
  go_loopw [5] (fun vi wr => ∃ k : Nat, k ≤ n ∧ vi = .int .i64 k ∧ Hid (Below w.heap.size w wr) ∧ Hid (Mem.Sl wr B 3 A n (ImgV.flat bx)) ∧ Hid (Mem.Sl wr B2 3 A2 n (ImgV.flat bx))) (fun i _ => n - (intOf i).toNat)
  case atStart => exact ⟨0, by omega, rfl, Below.refl _ _, h, h2⟩
  case round =>
    clear h h2
    obtain ⟨k, hk, rfl, hb, h3, h4⟩ := hrel
    by_cases hlt : k < n
    · obtain ⟨ad, hl, rfl, _, _, hat⟩ := ImgV.at_ h3.out hlt
      obtain ⟨ad2, hl2, rfl, _, _, hat2⟩ := ImgV.at_ h4.out hlt
      generalize bx[k] = p at *
      obtain ⟨c0, c1, c2⟩ := hat
      obtain ⟨d0, d1, d2⟩ := hat2
      obtain ⟨t, x, y⟩ := p
      dsimp only at c0 c1 c2 d0 d1 d2
      have hE : ∀ v, (binOp .neq 54 (.agg #[.string t, .int .i64 x, .int .i64 y]) (.agg #[.string t, .int .i64 x, .int .i64 y])).run Try.prog v = .ok (.bool false) v := fun v => (neq_img v ⟨t, x, y⟩ ⟨t, x, y⟩).trans (by rw [sameI_self]; rfl)
      clear hl hl2
      go_wp2_with fail
      go_quiet (fail)
      go_wp2_with fail
      go_roundw
      case rel => exact ⟨k + 1, by omega, by go_num, Mem.below_drewN hb.out _, h3.out.drewN _, h4.out.drewN _⟩
      case measure => simp [intOf]; omega
    · obtain rfl : k = n := by omega
      go_wp2_with fail
      go_ret
      exact ⟨rfl, hb.out⟩
end Wo
end Go.Proofs.Ythccojfflmfggaa
/- The walk of the document's layer 16: feed. -/
namespace Go.Proofs.Ythccojfflmfggaa
open Go.RowKit
namespace Wo
/-- two appends onto a new empty row -/
theorem two_app {w : World} {n c m d : Nat} {A A2 : Option Addr} {xs ys : List Bool} (hs : Mem.Sl w w.heap.size 1 A n (xs.map Value.bool)) (hs2 : Mem.Sl w w.heap.size 1 A2 m (ys.map Value.bool)) (hn : n ≤ 10000) (hm : m ≤ 10000) {N : Nat} (hN : w.heap.size = N) :
    ∃ A1 c1 w1 A' c' w', (Builtin.append_ #[22, 22] 22 #[.slice (some ⟨N, 0, none⟩) 0 0, .slice A n c]).run Try.prog (w.alloc (.cells #[] 4)) = .ok (.slice A1 n c1) w1 ∧
      (Builtin.append_ #[22, 22] 22 #[.slice A1 n c1, .slice A2 m d]).run Try.prog w1 = .ok (.slice A' (n + m) c') w' ∧ Below w.heap.size w w1 ∧ QRow w' A' (n + m) c' (xs ++ ys) ∧ Below w.heap.size w w' ∧ ∀ k, Ro.blk A' = some k → w.heap.size ≤ k := by
  subst hN
  have h0 : Below w.heap.size w (w.alloc (.cells #[] 4)) := (Below.refl _ _).alloc (Nat.le_refl _) _
  have hnew : Ro.Row (w.alloc (.cells #[] 4)) 4 1 (some ⟨w.heap.size, 0, none⟩) 0 0 [] := Ro.Row.new (cs := #[]) rfl (by decide)
  have one : ∀ l : List Bool, ∀ u ∈ l.map Value.bool, u.oneCell' = true := by intro l u hu; obtain ⟨b, _, rfl⟩ := List.mem_map.1 hu; rfl
  obtain ⟨A1, c1, w1, hr1, hR1, hO1, hA1⟩ := Ro.app (P := Try.prog) (ty := 22) (c2 := c) elb hnew (hs.below h0) (one _) (by unfold maxLen; omega) (by omega)
  simp only [Nat.zero_add, List.nil_append] at hr1 hR1
  have f1 : ∀ k, Ro.blk A1 = some k → w.heap.size ≤ k := by
    intro k hk
    rcases hA1 with e | e
    · rw [e] at hk
      have : w.heap.size = k := by simpa [Ro.blk] using hk
      omega
    · rw [e] at hk
      have : w.heap.size + 1 = k := by simpa using hk
      omega
  have b1 : Below w.heap.size w w1 := h0.trans (hO1.below (by simp) (fun k hk e => by
    have : w.heap.size = k := by simpa [Ro.blk] using e
    omega))
  obtain ⟨A', c', w', hr2, hR2, hO2, hA2⟩ := Ro.app (P := Try.prog) (ty := 22) (c2 := d) elb hR1 (hs2.below b1) (one _) (by unfold maxLen; omega) (by omega)
  have b2 : Below w.heap.size w w' := b1.trans (hO2.below b1.size (fun k hk e => by have := f1 k e; omega))
  refine ⟨A1, c1, w1, A', c', w', hr1, hr2, b1, by show Ro.Row _ _ _ _ _ _ _; rw [List.map_append]; exact hR2, b2, fun k hk => ?_⟩
  rcases hA2 with e | e
  · rw [e] at hk; exact f1 k hk
  · rw [e] at hk
    have : w1.heap.size = k := by simpa using hk
    have := b1.size
    omega
set_option maxRecDepth 100000 in
set_option maxHeartbeats 4000000 in
theorem rfeed_c (rt : Int) (AO AB AI A2 : Option Addr) (nO cO nB cB nI cI m d : Nat) (os ws : List Bool) (w : World) (h : Mem.Sl w w.heap.size 1 AO nO (os.map Value.bool)) (h2 : Mem.Sl w w.heap.size 1 A2 m (ws.map Value.bool)) (hn : nO ≤ 4096) (hm : m ≤ 10000) :
    Calls Try.prog 40 #[.agg #[.int .i64 rt, .slice AO nO cO, .slice AB nB cB, .slice AI nI cI], .slice A2 m d] w fun e w' =>
      (4096 < nO + m → e = .returned (.tuple #[.agg #[.int .i64 rt, .slice AO nO cO, .slice AB nB cB, .slice AI nI cI], .int .i64 6]) ∧ Below w.heap.size w w') ∧
      (nO + m ≤ 4096 → ∃ A' c', e = .returned (.tuple #[.agg #[.int .i64 rt, .slice A' (nO + m) c', .slice AB nB cB, .slice AI nI cI], .int .i64 0]) ∧ QRow w' A' (nO + m) c' (os ++ ws) ∧ Below w.heap.size w w' ∧ ∀ b, Ro.blk A' = some b → w.heap.size ≤ b) := by
  have L0 : Below w.heap.size w ((w.alloc (.cells #[.int .i64 rt, .slice AO nO cO, .slice AB nB cB, .slice AI nI cI] 64)).alloc (.cells #[.int .i64 0, .slice none 0 0, .slice none 0 0, .slice none 0 0] 64)) := ((Below.refl _ _).alloc (Nat.le_refl _) _).alloc (by simp) _
  have N3 : Mem.Blk ((w.alloc (.cells #[.int .i64 rt, .slice AO nO cO, .slice AB nB cB, .slice AI nI cI] 64)).alloc (.cells #[.int .i64 0, .slice none 0 0, .slice none 0 0, .slice none 0 0] 64)) w.heap.size 64 #[.int .i64 rt, .slice AO nO cO, .slice AB nB cB, .slice AI nI cI] := Mem.Blk.new.alloc
  have N6 : Mem.Blk ((w.alloc (.cells #[.int .i64 rt, .slice AO nO cO, .slice AB nB cB, .slice AI nI cI] 64)).alloc (.cells #[.int .i64 0, .slice none 0 0, .slice none 0 0, .slice none 0 0] 64)) (w.heap.size + 1) 64 #[.int .i64 0, .slice none 0 0, .slice none 0 0, .slice none 0 0] := by
    have := Mem.Blk.new (w := w.alloc (.cells #[.int .i64 rt, .slice AO nO cO, .slice AB nB cB, .slice AI nI cI] 64)) (t := 64) (cs := #[.int .i64 0, .slice none 0 0, .slice none 0 0, .slice none 0 0])
    simpa using this
  by_cases hf : 4096 < nO + m
  · have hfi : ((4096 : Int) - (nO : Int) < (m : Int)) := by omega
    have HL := Lib.hid L0
    clear L0 N3 N6 h h2
    go_enter Try.func40, Try.ntmps40
    go_wp2_with fail
    refine bodyPost_ret (v := .tuple #[.agg #[.int .i64 rt, .slice AO nO cO, .slice AB nB cB, .slice AI nI cI], .int .i64 6]) (by simp [results, Try.results40, go_sem]) rfl ⟨fun _ => ⟨rfl, ?_⟩, fun c => (by omega)⟩
    exact ((Below.refl _ _).alloc (Nat.le_refl _) _).alloc (by simp) _
  · have hfi : ¬ ((4096 : Int) - (nO : Int) < (m : Int)) := by omega
    have hz := L0.size
    obtain ⟨A1, c1, w1, A', c', w', hr1, hr2, hb1, hR, hb2, hfr⟩ := two_app (c := cO) (d := d) ((h.below L0).more hz) ((h2.below L0).more hz) (by omega) hm (N := w.heap.size + 1 + 1) (by simp)
    have M3 := N3.below hb2 N3.lt
    have M6 := N6.below hb2 N6.lt
    have K3 := N3.below hb1 N3.lt
    have q1' : w1.cell? ⟨w.heap.size, 1, none⟩ = some (.slice AO nO cO) := K3.cell 1
    have q0 : w'.cell? ⟨w.heap.size, 0, none⟩ = some (.int .i64 rt) := M3.cell 0
    have q1 : w'.cell? ⟨w.heap.size, 1, none⟩ = some (.slice AO nO cO) := M3.cell 1
    have q2 : w'.cell? ⟨w.heap.size, 2, none⟩ = some (.slice AB nB cB) := M3.cell 2
    have q3 : w'.cell? ⟨w.heap.size, 3, none⟩ = some (.slice AI nI cI) := M3.cell 3
    have r0 : w'.cell? ⟨w.heap.size + 1, 0, none⟩ = some (.int .i64 0) := M6.cell 0
    have r1 : w'.cell? ⟨w.heap.size + 1, 1, none⟩ = some (.slice none 0 0) := M6.cell 1
    have r2 : w'.cell? ⟨w.heap.size + 1, 2, none⟩ = some (.slice none 0 0) := M6.cell 2
    have r3 : w'.cell? ⟨w.heap.size + 1, 3, none⟩ = some (.slice none 0 0) := M6.cell 3
    have f3 := M3.frozen
    have f6 := M6.frozen
    have hX : w.heap.size + 2 ≤ ((w.alloc (.cells #[.int .i64 rt, .slice AO nO cO, .slice AB nB cB, .slice AI nI cI] 64)).alloc (.cells #[.int .i64 0, .slice none 0 0, .slice none 0 0, .slice none 0 0] 64)).heap.size := by simp
    have HE : Hid (∀ u, Ro.Only (fun b => b = w.heap.size ∨ b = w.heap.size + 1) w' u → QRow u A' (nO + m) c' (os ++ ws) ∧ Below w.heap.size w u ∧ ∀ b, Ro.blk A' = some b → w.heap.size ≤ b) := fun u hu =>
      ⟨hR.only hu (fun b hb e => by have := hfr b hb; omega), (L0.trans (hb2.mono hz)).trans (hu.below (by have := hb2.size; omega) (fun b hb e => by omega)), fun b hb => by have := hfr b hb; omega⟩
    clear L0 N3 N6 h h2 hb1 hR hb2 hfr M3 M6 K3 hX hz
    go_enter Try.func40, Try.ntmps40
    go_wp2_with (first | (at_builtin; refine Ro.wpList_app rfl _ _ _ _ rfl _ _ rfl rfl hr1 ?_) | (at_builtin; refine Ro.wpList_app rfl _ _ _ _ rfl _ _ rfl rfl hr2 ?_))
    obtain ⟨e1, e2, e3⟩ := HE.out _ (only5 w' w.heap.size 1 (.slice A' (nO + m) c') (.int .i64 rt) (.slice A' (nO + m) c') (.slice AB nB cB) (.slice AI nI cI))
    refine bodyPost_ret (v := .tuple #[.agg #[.int .i64 rt, .slice A' (nO + m) c', .slice AB nB cB, .slice AI nI cI], .int .i64 0]) (by simp [results, Try.results40, go_sem, r0, r1, r2, r3]) rfl ?_
    first
      | exact ⟨fun c => absurd c hf, fun _ => ⟨A', c', rfl, e1, e2, e3⟩⟩
      | exact fun _ => ⟨A', c', rfl, e1, e2, e3⟩
end Wo
end Go.Proofs.Ythccojfflmfggaa
