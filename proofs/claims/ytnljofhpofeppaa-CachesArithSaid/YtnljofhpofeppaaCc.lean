/- Caches: the document's Find and SameSite walked. -/
import Derived.Test.YtnljofhpofeppaaCb
import Derived.Laws.StructEq
namespace Go.Proofs.Ytnljofhpofeppaa.Cz
open Go.RowKit Go
set_option linter.unusedVariables false
set_option linter.unusedSimpArgs false
theorem drop_at {L : List En} {k : Nat} {e : En} (hx : L[k]? = some e) : L.drop k = e :: L.drop (k + 1) := by
  obtain ⟨h1, h2⟩ := List.getElem?_eq_some_iff.1 hx
  rw [← h2]; exact List.drop_eq_getElem_cons h1
theorem stood26 : Try.prog.stoodInHeld 39 = false := by kernel_rfl
theorem und26 : Try.prog.underlying 39 = some (.struct (Try.prog.fieldsOf 39)) := by kernel_rfl
theorem guard26 : Try.prog.eqGuardType Try.prog.depth 39 = false := by kernel_rfl
theorem run_guard26 (op : BinOp) (x y : Operand) (xs ys : Array Value) (w : World) : (eqGuard op 39 x y (.agg xs) (.agg ys)).run Try.prog w = .ok () w := run_eqGuard_agg w op 39 x y xs ys guard26
theorem fields26 : (Try.prog.fieldsOf 39).toList.map (fun f => (f.name, f.type, f.offset)) = [("Shape", 3, 0), ("Holder", 3, 1), ("Slot", 3, 2), ("Cell", 3, 3)] := by kernel_rfl
theorem eqin26 (a b c d a' b' c' d' : Int) (w : World) : (Op.equalIn 10000 39 (.agg #[.int .i64 a, .int .i64 b, .int .i64 c, .int .i64 d]) (.agg #[.int .i64 a', .int .i64 b', .int .i64 c', .int .i64 d'])).run Try.prog w = .ok (decide (a = a') && (decide (b = b') && (decide (c = c') && decide (d = d')))) w := by
  rw [show (10000 : Nat) = 9999 + 1 from rfl, run_equalIn_agg w 9999 39 _ _ und26 stood26]
  have h := fields26
  generalize (Try.prog.fieldsOf 39).toList = fs at h
  obtain ⟨f0, f1, f2, f3, rfl⟩ : ∃ f0 f1 f2 f3, fs = [f0, f1, f2, f3] := by
    have hl := congrArg List.length h
    match fs, hl with
    | [a, b, c, d], _ => exact ⟨a, b, c, d, rfl⟩
  simp only [List.map_cons, List.map_nil, List.cons.injEq, Prod.mk.injEq, and_true] at h
  obtain ⟨⟨n0, t0, o0⟩, ⟨n1, t1, o1⟩, ⟨n2, t2, o2⟩, ⟨n3, t3, o3⟩⟩ := h
  simp [Op.eqFields, n0, t0, o0, n1, t1, o1, n2, t2, o2, n3, t3, o3, go_sem]
  by_cases h1 : a = a' <;> by_cases h2 : b = b' <;> by_cases h3 : c = c' <;> by_cases h4 : d = d' <;> simp [h1, h2, h3, h4]
theorem eqin_en (x y : En) (w : World) : (Op.equalIn 10000 39 (.agg #[.int .i64 x.s, .int .i64 x.h, .int .i64 x.o, .int .i64 x.c]) (.agg #[.int .i64 y.s, .int .i64 y.h, .int .i64 y.o, .int .i64 y.c])).run Try.prog w = .ok (decide (x = y)) w := by
  rw [eqin26]
  obtain ⟨a, b, c, d⟩ := x
  obtain ⟨a', b', c', d'⟩ := y
  congr 1
  simp only [En.mk.injEq, Bool.decide_and]
theorem eql_en (x y : En) (w : World) : (binOp .eql 39 (.agg #[.int .i64 x.s, .int .i64 x.h, .int .i64 x.o, .int .i64 x.c]) (.agg #[.int .i64 y.s, .int .i64 y.h, .int .i64 y.o, .int .i64 y.c])).run Try.prog w = .ok (.bool (decide (x = y))) w := by
  rw [run_eql_struct, eqin_en]; rfl
theorem neq_en (x y : En) (w : World) : (binOp .neq 39 (.agg #[.int .i64 x.s, .int .i64 x.h, .int .i64 x.o, .int .i64 x.c]) (.agg #[.int .i64 y.s, .int .i64 y.h, .int .i64 y.o, .int .i64 y.c])).run Try.prog w = .ok (.bool (!decide (x = y))) w := by
  rw [run_neq_struct, eqin_en]; rfl
/-- are two sites the same? -/
def sameS (s1 s2 : Int) (L1 L2 : List En) : Bool := (s1 == s2) && decide (L1 = L2)
end Go.Proofs.Ytnljofhpofeppaa.Cz
