/- Words that the document fixes: the law's own first look. -/
import Derived.Test.YtebclfplejjloaaFw
import Derived.Test.YtebclfplejjloaaVb
namespace Go.Proofs.Ytebclfplejjloaa
open Go.RowKit Fp
set_option linter.unusedVariables false
set_option linter.unusedSimpArgs false
theorem wf_i32 {a : Int} (h : (Lit.int .i32 a).wf = true) : -2147483648 ≤ a ∧ a < 2147483648 := by
  simp [Lit.wf, IntKind.min, IntKind.max, IntKind.bits, IntKind.signed] at h; omega
theorem wf_u32 {a : Int} (h : (Lit.int .u32 a).wf = true) : 0 ≤ a ∧ a < 4294967296 := by
  simp [Lit.wf, IntKind.min, IntKind.max, IntKind.bits, IntKind.signed] at h; omega
theorem wf_u64 {a : Int} (h : (Lit.int .u64 a).wf = true) : U64 a := by
  simp [Lit.wf, IntKind.min, IntKind.max, IntKind.bits, IntKind.signed] at h; exact ⟨by omega, by omega⟩
theorem alive03 (w : World) : Calls Try.prog 15 #[] w fun e w' => e = .returned (.bool true) ∧ Below w.heap.size w w' := by
  have E1 : wI (-1) = 18444773748872577024 + (-1) % 4294967296 := wI_eq _
  have E2 : wB true = 18445336698825998339 := rfl
  have E3 := alive_right
  go_enter Try.func15, Try.ntmps15
  go_wp2_with (first | (go_at_call 9; refine (wInt_calls _ _ (by decide) (by decide)).mono ?_; rintro e w' ⟨rfl, rfl⟩) | (go_at_call 18; refine (wBool_calls _ _).mono ?_; rintro e w' ⟨rfl, rfl⟩) | (go_at_call 17; refine (rInt_calls _ _ (by decide) (by decide)).mono ?_; rintro e w' ⟨rfl, rfl⟩) | (go_at_call 16; refine (Right_calls _ _ ⟨by decide, by decide⟩).mono ?_; rintro e w1 ⟨rfl, hb1⟩))
  go_ret
  exact ⟨rfl, by assumption⟩
end Go.Proofs.Ytebclfplejjloaa
