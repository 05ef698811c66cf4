/- The walks through package word: truths, objects, texts; the document's whole numbers and truths. -/
import Derived.Test.YtnljofhpofeppaaVa
namespace Go.Proofs.Ytnljofhpofeppaa
open Go.RowKit Fp
set_option linter.unusedVariables false
set_option linter.unusedSimpArgs false
theorem rInt_calls (n : Int) (w : World) (h0 : -2147483648 ≤ n) (h1 : n < 2147483648) :
    Calls Try.prog 47 #[.int .i32 n] w fun e w' => e = .returned (.int .u64 (18444773748872577024 + n % 4294967296)) ∧ w' = w := by
  go_enter Try.func47, Try.ntmps47
  go_wp2
  go_ret
  refine ⟨ret_int ?_, rfl⟩
  go_light
  first | rfl | (rw [u64_wrap]; omega)
end Go.Proofs.Ytnljofhpofeppaa
