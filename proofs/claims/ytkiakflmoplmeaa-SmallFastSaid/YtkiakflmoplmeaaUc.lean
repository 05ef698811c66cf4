/- The first look of the laws of package small. -/
import Derived.Test.YtkiakflmoplmeaaUb
namespace Go.Proofs.Ytkiakflmoplmeaa
open Go.RowKit Fp
set_option linter.unusedVariables false
set_option linter.unusedSimpArgs false
theorem wI_num (n : Int) : wI n = 18444773748872577024 + n % 4294967296 := wI_eq n
theorem rIntW (n : Int) (w : World) (h0 : -2147483648 ≤ n) (h1 : n < 2147483648) : Calls Try.prog 13 #[.int .i32 n] w fun e w' => e = .returned (.int .u64 (wI n)) ∧ w' = w := by
  rw [wI_eq]; exact rInt_calls n w h0 h1
theorem alive04 (w : World) : Calls Try.prog 10 #[] w fun e w' => e = .returned (.bool true) ∧ Below w.heap.size w w' := by
  have E1 : FastG 21 (wI 2) (wI 3) = (wI 5, true) := by decide +kernel
  have E2 : SlowG 22 (wI 2) (wI 3) = wI (-1) := by decide +kernel
  have HF := fun w => Fast_calls 21 (wI 2) (wI 3) w
  have HS := fun w => Slow_calls 22 (wI 2) (wI 3) (wI_u64 _) (wI_u64 _) w
  have I2 := fun w => rIntW 2 w (by decide) (by decide)
  have I3 := fun w => rIntW 3 w (by decide) (by decide)
  have I5 := fun w => rIntW 5 w (by decide) (by decide)
  have I1 := fun w => rIntW (-1) w (by decide) (by decide)
  rw [E1] at HF
  rw [E2] at HS
  clear E1 E2
  generalize wI 2 = a at *
  generalize wI 3 = b at *
  generalize wI 5 = c at *
  generalize wI (-1) = d at *
  replace HF := Lib.hid HF
  replace HS := Lib.hid HS
  replace I2 := Lib.hid I2
  replace I3 := Lib.hid I3
  replace I5 := Lib.hid I5
  replace I1 := Lib.hid I1
  go_enter Try.func10, Try.ntmps10
  go_wp2_with (first | (go_at_call 13; with_reducible first | (refine (I2.out _).mono ?_; rintro e w' ⟨rfl, rfl⟩) | (refine (I3.out _).mono ?_; rintro e w' ⟨rfl, rfl⟩) | (refine (I5.out _).mono ?_; rintro e w' ⟨rfl, rfl⟩) | (refine (I1.out _).mono ?_; rintro e w' ⟨rfl, rfl⟩)) | (go_at_call 11; refine (HF.out _).mono ?_; rintro e w' ⟨rfl, rfl⟩) | (go_at_call 12; refine (HS.out _).mono ?_; rintro e w1 ⟨rfl, hb1⟩))
  all_goals go_ret
  all_goals exact ⟨rfl, by repeat (first | exact Below.refl _ _ | apply below_alloc | apply below_drewN | apply below_drew | refine below_via (by assumption) ?_)⟩
end Go.Proofs.Ytkiakflmoplmeaa
