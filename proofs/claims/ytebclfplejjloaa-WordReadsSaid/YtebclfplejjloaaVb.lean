/- The walks through package word: truths, objects, texts; the document's whole numbers and truths. -/
import Derived.Test.YtebclfplejjloaaVa
namespace Go.Proofs.Ytebclfplejjloaa
open Go.RowKit Fp
set_option linter.unusedVariables false
set_option linter.unusedSimpArgs false
theorem wObject_calls (n : Int) (w : World) (h0 : 0 ≤ n) (h1 : n < 4294967296) :
    Calls Try.prog 10 #[.int .u32 n] w fun e w' => e = .returned (.int .u64 (Go.bits .or .u64 18445055223849287680 n)) ∧ w' = w := by
  go_enter Try.func10, Try.ntmps10
  go_wp2_with (first | (go_at_call 26; refine (tagged_calls _ _ _).mono ?_; rintro e w' ⟨rfl, rfl⟩))
  go_ret
  refine ⟨ret_int ?_, rfl⟩
  go_light
  rw [u64_id (x := 18445055223849287680) ⟨by decide, by decide⟩, u64_id (x := n) ⟨by omega, by omega⟩]
theorem wText_calls (n : Int) (w : World) (h0 : 0 ≤ n) (h1 : n < 4294967296) :
    Calls Try.prog 11 #[.int .u32 n] w fun e w' => e = .returned (.int .u64 (Go.bits .or .u64 18445618173802708992 n)) ∧ w' = w := by
  go_enter Try.func11, Try.ntmps11
  go_wp2_with (first | (go_at_call 26; refine (tagged_calls _ _ _).mono ?_; rintro e w' ⟨rfl, rfl⟩))
  go_ret
  refine ⟨ret_int ?_, rfl⟩
  go_light
  rw [u64_id (x := 18445618173802708992) ⟨by decide, by decide⟩, u64_id (x := n) ⟨by omega, by omega⟩]
theorem payU_calls (a t : Int) (w : World) (h0 : 0 ≤ t) (h1 : t < 65536) :
    Calls Try.prog 28 #[.int .u64 a, .int .u64 t] w fun e w' => e = .returned (.tuple #[.int .u32 (pU a t), .bool (tg a t)]) ∧ w' = w := by
  have E : IntKind.u64.wrap (t * 65536) = t * 65536 := u64_id ⟨by omega, by omega⟩
  cases h : tg a t
  · have H : (a / 4294967296 != t * 65536) = true := by rw [bne_iff_ne]; exact of_decide_eq_false h
    have P : pU a t = 0 := by simp [pU, h]
    rw [P]; clear P h
    go_enter Try.func28, Try.ntmps28
    go_wp2
    go_ret2
    exact ⟨rfl, rfl⟩
  · have H : (a / 4294967296 != t * 65536) = false := by rw [bne_eq_false_iff_eq]; exact of_decide_eq_true h
    have P : pU a t = a % 4294967296 := by simp [pU, h]
    rw [P]; clear P h
    go_enter Try.func28, Try.ntmps28
    go_wp2
    go_ret2
    exact ⟨rfl, rfl⟩
theorem IsObject_calls (a : Int) (w : World) :
    Calls Try.prog 13 #[.int .u64 a] w fun e w' => e = .returned (.tuple #[.int .u32 (pU a 65530), .bool (tg a 65530)]) ∧ w' = w := by
  go_enter Try.func13, Try.ntmps13
  go_wp2_with (first | (go_at_call 28; refine (payU_calls _ _ _ (by decide) (by decide)).mono ?_; rintro e w' ⟨rfl, rfl⟩))
  go_ret2
  exact ⟨rfl, rfl⟩
theorem IsText_calls (a : Int) (w : World) :
    Calls Try.prog 14 #[.int .u64 a] w fun e w' => e = .returned (.tuple #[.int .u32 (pU a 65532), .bool (tg a 65532)]) ∧ w' = w := by
  go_enter Try.func14, Try.ntmps14
  go_wp2_with (first | (go_at_call 28; refine (payU_calls _ _ _ (by decide) (by decide)).mono ?_; rintro e w' ⟨rfl, rfl⟩))
  go_ret2
  exact ⟨rfl, rfl⟩
theorem wBool_calls (b : Bool) (w : World) :
    Calls Try.prog 18 #[.bool b] w fun e w' => e = .returned (.int .u64 (wB b)) ∧ w' = w := by
  cases b
  all_goals
    go_enter Try.func18, Try.ntmps18
    go_wp2
    go_ret
    exact ⟨rfl, rfl⟩
theorem rBool_calls (b : Bool) (w : World) :
    Calls Try.prog 19 #[.bool b] w fun e w' => e = .returned (.int .u64 (wB b)) ∧ w' = w := by
  cases b
  all_goals
    go_enter Try.func19, Try.ntmps19
    go_wp2
    go_ret
    exact ⟨rfl, rfl⟩
theorem rInt_calls (n : Int) (w : World) (h0 : -2147483648 ≤ n) (h1 : n < 2147483648) :
    Calls Try.prog 17 #[.int .i32 n] w fun e w' => e = .returned (.int .u64 (18444773748872577024 + n % 4294967296)) ∧ w' = w := by
  go_enter Try.func17, Try.ntmps17
  go_wp2
  go_ret
  refine ⟨ret_int ?_, rfl⟩
  go_light
  first | rfl | (rw [u64_wrap]; omega)
end Go.Proofs.Ytebclfplejjloaa
