/- The walks through package soft: the whole part. -/
import Derived.Test.YtmemefjhefmfhaaSb
namespace Go.Proofs.Ytmemefjhefmfhaa
open Go.RowKit Fp
set_option linter.unusedVariables false
set_option linter.unusedSimpArgs false
set_option maxRecDepth 100000 in
theorem part_calls (a : Int) (w : World) (ha : U64 a) :
    Calls Try.prog 54 #[.int .u64 a] w fun e w' => e = .returned (.int .u64 (partG a)) ∧ Below w.heap.size w w' := by
  obtain ⟨he0, he1⟩ := oexp_bd ha
  go_enter Try.func54, Try.ntmps54
  go_wp2_with (first | (go_at_call 43; refine (open_calls _ _ ha).mono ?_; rintro e w' ⟨rfl, rfl⟩) | go_in)
  go_ret
  exact ⟨rfl, by repeat (first | exact Below.refl _ _ | apply below_alloc)⟩
set_option maxRecDepth 100000 in
theorem Trunc_calls (a : Int) (w : World) (ha : U64 a) :
    Calls Try.prog 29 #[.int .u64 a] w fun e w' => e = .returned (.int .u64 (TruncG a)) ∧ Below w.heap.size w w' := by
  by_cases c0 : isNaN a = true
  · have E : TruncG a = 9221120237041090560 := if_pos c0
    rw [E]; clear E
    go_enter Try.func29, Try.ntmps29
    go_wp2_with (first | (go_at_call 16; refine (isNaN_calls _ _).mono ?_; rintro e w' ⟨rfl, rfl⟩))
    go_ret
    exact ⟨rfl, Below.refl _ _⟩
  · have c0b : isNaN a = false := Bool.eq_false_iff.mpr c0
    by_cases c1 : (kindS a != 1) = true
    · have E : TruncG a = a := by rw [TruncG, if_neg c0, if_pos c1]
      rw [E]; clear E c0
      go_enter Try.func29, Try.ntmps29
      go_wp2_with (first | (go_at_call 16; refine (isNaN_calls _ _).mono ?_; rintro e w' ⟨rfl, rfl⟩) | (go_at_call 41; refine (kind_calls _ _).mono ?_; rintro e w' ⟨rfl, rfl⟩))
      go_ret
      exact ⟨rfl, Below.refl _ _⟩
    · have c1b : (kindS a != 1) = false := Bool.eq_false_iff.mpr c1
      by_cases c2 : sz a < 4607182418800017408
      · have E : TruncG a = Go.bits .and .u64 a 9223372036854775808 := by rw [TruncG, if_neg c0, if_neg c1, if_pos c2]
        have c2b : decide (sz a < 4607182418800017408) = true := decide_eq_true c2
        rw [E]; clear E c0 c1 c2
        go_enter Try.func29, Try.ntmps29
        go_wp2_with (first | (go_at_call 16; refine (isNaN_calls _ _).mono ?_; rintro e w' ⟨rfl, rfl⟩) | (go_at_call 41; refine (kind_calls _ _).mono ?_; rintro e w' ⟨rfl, rfl⟩) | (go_at_call 44; refine (sized_calls _ _).mono ?_; rintro e w' ⟨rfl, rfl⟩))
        go_ret
        exact ⟨rfl, Below.refl _ _⟩
      · have E : TruncG a = Go.bits .andNot .u64 a (partG a) := by rw [TruncG, if_neg c0, if_neg c1, if_neg c2]
        have c2b : decide (sz a < 4607182418800017408) = false := decide_eq_false c2
        rw [E]; clear E c0 c1 c2
        go_enter Try.func29, Try.ntmps29
        go_wp2_with (first | (go_at_call 16; refine (isNaN_calls _ _).mono ?_; rintro e w' ⟨rfl, rfl⟩) | (go_at_call 41; refine (kind_calls _ _).mono ?_; rintro e w' ⟨rfl, rfl⟩) | (go_at_call 44; refine (sized_calls _ _).mono ?_; rintro e w' ⟨rfl, rfl⟩) | (go_at_call 54; refine (part_calls _ _ ha).mono ?_; rintro e w' ⟨rfl, hb⟩))
        go_ret
        exact ⟨rfl, by assumption⟩
end Go.Proofs.Ytmemefjhefmfhaa
