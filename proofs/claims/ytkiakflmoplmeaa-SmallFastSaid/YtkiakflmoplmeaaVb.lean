/- The walks through package word: truths, objects, texts; the document's whole numbers and truths. -/
import Derived.Test.YtkiakflmoplmeaaVa
namespace Go.Proofs.Ytkiakflmoplmeaa
open Go.RowKit Fp
set_option linter.unusedVariables false
set_option linter.unusedSimpArgs false
theorem wBool_calls (b : Bool) (w : World) :
    Calls Try.prog 22 #[.bool b] w fun e w' => e = .returned (.int .u64 (wB b)) ∧ w' = w := by
  cases b
  all_goals
    go_enter Try.func22, Try.ntmps22
    go_wp2
    go_ret
    exact ⟨rfl, rfl⟩
theorem rBool_calls (b : Bool) (w : World) :
    Calls Try.prog 38 #[.bool b] w fun e w' => e = .returned (.int .u64 (wB b)) ∧ w' = w := by
  cases b
  all_goals
    go_enter Try.func38, Try.ntmps38
    go_wp2
    go_ret
    exact ⟨rfl, rfl⟩
theorem rInt_calls (n : Int) (w : World) (h0 : -2147483648 ≤ n) (h1 : n < 2147483648) :
    Calls Try.prog 13 #[.int .i32 n] w fun e w' => e = .returned (.int .u64 (18444773748872577024 + n % 4294967296)) ∧ w' = w := by
  go_enter Try.func13, Try.ntmps13
  go_wp2
  go_ret
  refine ⟨ret_int ?_, rfl⟩
  go_light
  first | rfl | (rw [u64_wrap]; omega)
end Go.Proofs.Ytkiakflmoplmeaa
