/- Words of layer 16 (world): structs compared. -/
import Derived.Test.YthccojfflmfggaaWorH
namespace Go.Proofs.Ythccojfflmfggaa
namespace Wo
set_option maxRecDepth 100000 in
theorem equal_box (w : World) (k : Nat) (a b c d : Int) : (Op.equalIn (k + 1 + 1) 44 (.agg #[.int .i64 a, .int .i64 b]) (.agg #[.int .i64 c, .int .i64 d])).run Try.prog w = .ok (decide (a = c ∧ b = d)) w := by
  have f1 : Try.prog.underlying 44 = some (.struct (Try.prog.fieldsOf 44)) := by kernel_rfl
  have f2 : Try.prog.stoodInHeld 44 = false := by kernel_rfl
  have f3 : Try.prog.underlying 3 = some (.int .i64) := by kernel_rfl
  have f4 : (Try.prog.fieldsOf 44).toList.map (fun f => (f.name, f.type, f.offset)) = [("State", 3, 0), ("Tries", 3, 1)] := by kernel_rfl
  rw [run_equalIn_agg w (k + 1) _ _ _ f1 f2]
  clear f1 f2
  generalize (Try.prog.fieldsOf 44).toList = l at f4 ⊢
  match l, f4 with
  | [], f4 => simp at f4
  | [_], f4 => simp at f4
  | _ :: _ :: _ :: _, f4 => simp at f4
  | [x, y], f4 =>
    simp only [List.map_cons, List.map_nil, List.cons.injEq, Prod.mk.injEq, and_true] at f4
    obtain ⟨⟨n1, t1, o1⟩, n2, t2, o2⟩ := f4
    simp [go_sem, n1, t1, o1, n2, t2, o2, f3, Op.eqFields]
    by_cases h : a = c <;> by_cases h2 : b = d <;> simp [h, h2]
theorem eq_box (w : World) (a b c d : Int) : (binOp .eql 44 (.agg #[.int .i64 a, .int .i64 b]) (.agg #[.int .i64 c, .int .i64 d])).run Try.prog w = .ok (.bool (decide (a = c ∧ b = d))) w := by
  rw [run_eql_struct, equal_box w 9998]
  rfl
theorem neq_box (w : World) (a b c d : Int) : (binOp .neq 44 (.agg #[.int .i64 a, .int .i64 b]) (.agg #[.int .i64 c, .int .i64 d])).run Try.prog w = .ok (.bool (!decide (a = c ∧ b = d))) w := by
  rw [run_neq_struct, equal_box w 9998]
  rfl
theorem bytes_eq {a b : ByteArray} (h : a.toList = b.toList) : a = b := by
  rw [ByteArray.toList_eq, ByteArray.toList_eq] at h
  obtain ⟨⟨x⟩⟩ := a
  obtain ⟨⟨y⟩⟩ := b
  simpa using h
def sameI (p q : ImgV) : Bool := decide (p.name.toList = q.name.toList ∧ p.size = q.size ∧ p.last = q.last)
theorem sameI_iff {p q : ImgV} : sameI p q = true ↔ p = q := by
  unfold sameI
  rw [decide_eq_true_iff]
  constructor
  · rintro ⟨h1, h2, h3⟩
    obtain ⟨n, s, r⟩ := p
    obtain ⟨n', s', r'⟩ := q
    dsimp only at h1 h2 h3
    rw [bytes_eq h1, h2, h3]
  · rintro rfl
    exact ⟨rfl, rfl, rfl⟩
theorem sameI_self (p : ImgV) : sameI p p = true := sameI_iff.2 rfl
set_option maxRecDepth 100000 in
theorem equal_img (w : World) (k : Nat) (p q : ImgV) : (Op.equalIn (k + 1 + 1) 54 (.agg p.arr) (.agg q.arr)).run Try.prog w = .ok (sameI p q) w := by
  have f1 : Try.prog.underlying 54 = some (.struct (Try.prog.fieldsOf 54)) := by kernel_rfl
  have f2 : Try.prog.stoodInHeld 54 = false := by kernel_rfl
  have f3 : Try.prog.underlying 3 = some (.int .i64) := by kernel_rfl
  have f5 : Try.prog.underlying 9 = some .string := by kernel_rfl
  have f4 : (Try.prog.fieldsOf 54).toList.map (fun f => (f.name, f.type, f.offset)) = [("Name", 9, 0), ("Size", 3, 1), ("Last", 3, 2)] := by kernel_rfl
  obtain ⟨n, s, r⟩ := p
  obtain ⟨n', s', r'⟩ := q
  unfold ImgV.arr
  dsimp only
  rw [run_equalIn_agg w (k + 1) _ _ _ f1 f2]
  clear f1 f2
  generalize (Try.prog.fieldsOf 54).toList = l at f4 ⊢
  match l, f4 with
  | [], f4 => simp at f4
  | [_], f4 => simp at f4
  | [_, _], f4 => simp at f4
  | _ :: _ :: _ :: _ :: _, f4 => simp at f4
  | [x, y, z], f4 =>
    simp only [List.map_cons, List.map_nil, List.cons.injEq, Prod.mk.injEq, and_true] at f4
    obtain ⟨⟨n1, t1, o1⟩, ⟨n2, t2, o2⟩, n3, t3, o3⟩ := f4
    simp [go_sem, n1, t1, o1, n2, t2, o2, n3, t3, o3, f3, f5, Op.eqFields, sameI]
    by_cases h : n.toList = n'.toList <;> by_cases h2 : s = s' <;> by_cases h3 : r = r' <;> simp [h, h2, h3]
theorem eq_img (w : World) (p q : ImgV) : (binOp .eql 54 (.agg p.arr) (.agg q.arr)).run Try.prog w = .ok (.bool (sameI p q)) w := by
  rw [ImgV.arr, ImgV.arr, run_eql_struct, ← ImgV.arr, ← ImgV.arr, equal_img w 9998]
  rfl
theorem neq_img (w : World) (p q : ImgV) : (binOp .neq 54 (.agg p.arr) (.agg q.arr)).run Try.prog w = .ok (.bool (!sameI p q)) w := by
  rw [ImgV.arr, ImgV.arr, run_neq_struct, ← ImgV.arr, ← ImgV.arr, equal_img w 9998]
  rfl
end Wo
end Go.Proofs.Ythccojfflmfggaa
