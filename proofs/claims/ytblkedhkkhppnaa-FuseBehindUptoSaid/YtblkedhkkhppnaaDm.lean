/- Fuse: groups compared. -/
import Derived.Test.YtblkedhkkhppnaaDl
import Derived.Laws.StructEq
namespace Go.Proofs.Ytblkedhkkhppnaa
open Go.RowKit Go
set_option linter.unusedVariables false
set_option linter.unusedSimpArgs false
theorem stood32 : Try.prog.stoodInHeld 32 = false := by kernel_rfl
theorem und32 : Try.prog.underlying 32 = some (.struct (Try.prog.fieldsOf 32)) := by kernel_rfl
theorem guard32 : Try.prog.eqGuardType Try.prog.depth 32 = false := by kernel_rfl
theorem run_guard32 (op : BinOp) (x y : Operand) (xs ys : Array Value) (w : World) : (eqGuard op 32 x y (.agg xs) (.agg ys)).run Try.prog w = .ok () w := run_eqGuard_agg w op 32 x y xs ys guard32
theorem fields32 : (Try.prog.fieldsOf 32).toList.map (fun f => (f.name, f.type, f.offset)) = [("At", 3, 0), ("Len", 3, 1), ("Kind", 3, 2)] := by kernel_rfl
theorem eqin32 (a b c a' b' c' : Int) (w : World) : (Op.equalIn 10000 32 (.agg #[.int .i64 a, .int .i64 b, .int .i64 c]) (.agg #[.int .i64 a', .int .i64 b', .int .i64 c'])).run Try.prog w = .ok (decide (a = a') && (decide (b = b') && decide (c = c'))) w := by
  rw [show (10000 : Nat) = 9999 + 1 from rfl, run_equalIn_agg w 9999 32 _ _ und32 stood32]
  have h := fields32
  generalize (Try.prog.fieldsOf 32).toList = fs at h
  obtain ⟨f0, f1, f2, rfl⟩ : ∃ f0 f1 f2, fs = [f0, f1, f2] := by
    have hl := congrArg List.length h
    match fs, hl with
    | [a, b, c], _ => exact ⟨a, b, c, rfl⟩
  simp only [List.map_cons, List.map_nil, List.cons.injEq, Prod.mk.injEq, and_true] at h
  obtain ⟨⟨n0, t0, o0⟩, ⟨n1, t1, o1⟩, ⟨n2, t2, o2⟩⟩ := h
  simp [Op.eqFields, n0, t0, o0, n1, t1, o1, n2, t2, o2, go_sem]
  by_cases h1 : a = a' <;> by_cases h2 : b = b' <;> by_cases h3 : c = c' <;> simp [h1, h2, h3]
theorem neq_same (e : Tr) (w : World) : (binOp .neq 32 (.agg #[.int .i64 e.x, .int .i64 e.y, .int .i64 e.z]) (.agg #[.int .i64 e.x, .int .i64 e.y, .int .i64 e.z])).run Try.prog w = .ok (.bool false) w := by
  rw [run_neq_struct, eqin32]; simp
end Go.Proofs.Ytblkedhkkhppnaa
