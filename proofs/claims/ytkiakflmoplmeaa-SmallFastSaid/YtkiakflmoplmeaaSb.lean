/- The walks through package soft: kinds, order, the other sign. -/
import Derived.Test.YtkiakflmoplmeaaSa
namespace Go.Proofs.Ytkiakflmoplmeaa
open Go.RowKit Fp
set_option linter.unusedVariables false
set_option linter.unusedSimpArgs false
theorem isInf_calls (a : Int) (w : World) :
    Calls Try.prog 45 #[.int .u64 a] w fun e w' => e = .returned (.bool (isInf a)) ∧ w' = w := by
  go_enter Try.func45, Try.ntmps45
  go_wp2_with (go_at_call 66; refine (kind_calls _ _).mono ?_; rintro e w' ⟨rfl, rfl⟩)
  go_ret
  exact ⟨rfl, rfl⟩
theorem zero_calls (a : Int) (w : World) :
    Calls Try.prog 46 #[.int .u64 a] w fun e w' => e = .returned (.bool (isZ a)) ∧ w' = w := by
  go_enter Try.func46, Try.ntmps46
  go_wp2_with (go_at_call 66; refine (kind_calls _ _).mono ?_; rintro e w' ⟨rfl, rfl⟩)
  go_ret
  exact ⟨rfl, rfl⟩
theorem Neg_calls (a : Int) (w : World) :
    Calls Try.prog 50 #[.int .u64 a] w fun e w' => e = .returned (.int .u64 (negG a)) ∧ w' = w := by
  go_enter Try.func50, Try.ntmps50
  go_wp2_with (first | (go_at_call 44; refine (isNaN_calls _ _).mono ?_; rintro e w' ⟨rfl, rfl⟩))
  all_goals go_ret
  all_goals go_light
  all_goals refine ⟨ret_int ?_, rfl⟩
  all_goals simp_all [negG]
theorem Equal_calls (a b : Int) (w : World) :
    Calls Try.prog 56 #[.int .u64 a, .int .u64 b] w fun e w' => e = .returned (.bool (EqualG a b)) ∧ w' = w := by
  go_enter Try.func56, Try.ntmps56
  go_wp2_with (first | (go_at_call 44; refine (isNaN_calls _ _).mono ?_; rintro e w' ⟨rfl, rfl⟩)| (go_at_call 46; refine (zero_calls _ _).mono ?_; rintro e w' ⟨rfl, rfl⟩))
  all_goals go_ret
  all_goals go_light
  all_goals simp_all [EqualG]
set_option maxRecDepth 100000 in
theorem Less_calls (a b : Int) (w : World) :
    Calls Try.prog 57 #[.int .u64 a, .int .u64 b] w fun e w' => e = .returned (.bool (LessG a b)) ∧ w' = w := by
  go_enter Try.func57, Try.ntmps57
  go_wp2_with (first | (go_at_call 44; refine (isNaN_calls _ _).mono ?_; rintro e w' ⟨rfl, rfl⟩)| (go_at_call 46; refine (zero_calls _ _).mono ?_; rintro e w' ⟨rfl, rfl⟩))
  all_goals go_ret
  all_goals go_light
  all_goals refine ⟨ret_bool ?_, rfl⟩
  all_goals simp [LessG, *]
  all_goals have ha : ¬ 9223372036854775808 ≤ a := Int.not_le.mpr ‹_›
  all_goals first | (have hb : ¬ 9223372036854775808 ≤ b := Int.not_le.mpr ‹_›; rw [if_neg ha, decide_eq_false hb]; rfl) | exact fun h => absurd h ha
end Go.Proofs.Ytkiakflmoplmeaa
