/- The walks through package soft: whole parts modulo 2^32, products. -/
import Derived.Test.YtkiakflmoplmeaaSb
namespace Go.Proofs.Ytkiakflmoplmeaa
open Go.RowKit Fp
set_option linter.unusedVariables false
set_option linter.unusedSimpArgs false
set_option maxRecDepth 100000 in
theorem ToUint32_calls (a : Int) (w : World) (ha : U64 a) :
    Calls Try.prog 70 #[.int .u64 a] w fun e w' => e = .returned (.int .u32 (ToUint32G a)) ∧ Below w.heap.size w w' := by
  obtain ⟨he0, he1⟩ := oexp_bd ha
  go_enter Try.func70, Try.ntmps70
  go_wp2_with (first | (go_at_call 66; refine (kind_calls _ _).mono ?_; rintro e w' ⟨rfl, rfl⟩) | (go_at_call 47; refine (open_calls _ _ ha).mono ?_; rintro e w' ⟨rfl, rfl⟩))
  all_goals go_ret
  all_goals refine ⟨ret_int ?_, by repeat (first | exact Below.refl _ _ | apply below_alloc)⟩
  all_goals go_light
  all_goals (unfold ToUint32G toU; repeat' split)
  all_goals first | rfl | (exfalso; omega) | (simp_all; done)
theorem ToInt32_calls (a : Int) (w : World) (ha : U64 a) :
    Calls Try.prog 58 #[.int .u64 a] w fun e w' => e = .returned (.int .i32 (wrap32 (ToUint32G a))) ∧ Below w.heap.size w w' := by
  go_enter Try.func58, Try.ntmps58
  go_wp2_with (first | (go_at_call 70; refine (ToUint32_calls _ _ ha).mono ?_; rintro e w' ⟨rfl, hb⟩))
  go_ret
  exact ⟨rfl, by assumption⟩
theorem Mul64_calls (x y : Int) (w : World) (hx : U64 x) (hy : U64 y) :
    Calls Try.prog 52 #[.int .u64 x, .int .u64 y] w fun e w' => e = .returned (.tuple #[.int .u64 (mhi x y), .int .u64 (mlo x y)]) ∧ w' = w := by
  obtain ⟨hx0, hx1⟩ := hx
  obtain ⟨hy0, hy1⟩ := hy
  obtain ⟨n, rfl⟩ := Int.eq_ofNat_of_zero_le hx0
  obtain ⟨m, rfl⟩ := Int.eq_ofNat_of_zero_le hy0
  have h := Try.bits_Mul64 n m (by omega) (by omega) w
  have e1 : ((n * m / 18446744073709551616 : Nat) : Int) = mhi n m := by unfold mhi; omega
  have e2 : ((n * m % 18446744073709551616 : Nat) : Int) = mlo n m := by unfold mlo; omega
  rw [e1, e2] at h
  exact h
set_option maxRecDepth 100000 in
theorem Mul_some (a b : Int) (w : World) (ha : U64 a) (hb : U64 b) (c1 : isNaN a = false) (c2 : isNaN b = false) (c3 : isInf a = false) (c4 : isInf b = false) (c5 : isZ a = false) (c6 : isZ b = false) :
    Calls Try.prog 26 #[.int .u64 a, .int .u64 b] w fun e w' => e = .returned (.int .u64 (mulF (ngX a b) (oman a) (oexp a) (oman b) (oexp b))) ∧ Below w.heap.size w w' := by
  obtain ⟨he0, he1⟩ := oexp_bd ha
  obtain ⟨hf0, hf1⟩ := oexp_bd hb
  have E0 : (Go.bits .and .u64 (Go.bits .xor .u64 a b) 9223372036854775808 != 0) = ngX a b := rfl
  have hu := oman_u64 a
  have hv := oman_u64 b
  by_cases hl : mhi (oman a) (oman b) < 9223372036854775808
  · have E : mulF (ngX a b) (oman a) (oexp a) (oman b) (oexp b) = nearG (ngX a b) (Go.bits .or .u64 (IntKind.u64.wrap (mhi (oman a) (oman b) * 2)) (mlo (oman a) (oman b) / 9223372036854775808)) (oexp a + oexp b + 64 - 1) (IntKind.u64.wrap (mlo (oman a) (oman b) * 2) != 0) := if_pos hl
    rw [E]; clear E
    go_enter Try.func26, Try.ntmps26
    go_wp2_with (first | (go_at_call 44; refine (isNaN_calls _ _).mono ?_; rintro e w' ⟨rfl, rfl⟩) | (go_at_call 45; refine (isInf_calls _ _).mono ?_; rintro e w' ⟨rfl, rfl⟩) | (go_at_call 46; refine (zero_calls _ _).mono ?_; rintro e w' ⟨rfl, rfl⟩) | (go_at_call 47; refine (open_calls _ _ (by assumption)).mono ?_; rintro e w' ⟨rfl, rfl⟩) | (go_at_call 52; refine (Mul64_calls _ _ _ hu hv).mono ?_; rintro e w' ⟨rfl, rfl⟩) | (go_at_call 53; refine (near_calls _ _ _ _ _ (by omega) (by omega)).mono ?_; rintro e w1 ⟨rfl, hb1⟩))
    go_ret
    exact ⟨rfl, below_via hb1 (by repeat (first | exact Below.refl _ _ | apply below_alloc))⟩
  · have E : mulF (ngX a b) (oman a) (oexp a) (oman b) (oexp b) = nearG (ngX a b) (mhi (oman a) (oman b)) (oexp a + oexp b + 64) (mlo (oman a) (oman b) != 0) := if_neg hl
    rw [E]; clear E
    go_enter Try.func26, Try.ntmps26
    go_wp2_with (first | (go_at_call 44; refine (isNaN_calls _ _).mono ?_; rintro e w' ⟨rfl, rfl⟩) | (go_at_call 45; refine (isInf_calls _ _).mono ?_; rintro e w' ⟨rfl, rfl⟩) | (go_at_call 46; refine (zero_calls _ _).mono ?_; rintro e w' ⟨rfl, rfl⟩) | (go_at_call 47; refine (open_calls _ _ (by assumption)).mono ?_; rintro e w' ⟨rfl, rfl⟩) | (go_at_call 52; refine (Mul64_calls _ _ _ hu hv).mono ?_; rintro e w' ⟨rfl, rfl⟩) | (go_at_call 53; refine (near_calls _ _ _ _ _ (by omega) (by omega)).mono ?_; rintro e w1 ⟨rfl, hb1⟩))
    go_ret
    exact ⟨rfl, below_via hb1 (by repeat (first | exact Below.refl _ _ | apply below_alloc))⟩
set_option maxRecDepth 100000 in
theorem Mul_calls (a b : Int) (w : World) (ha : U64 a) (hb : U64 b) :
    Calls Try.prog 26 #[.int .u64 a, .int .u64 b] w fun e w' => e = .returned (.int .u64 (MulG a b)) ∧ Below w.heap.size w w' := by
  by_cases hs : isNaN a = false ∧ isNaN b = false ∧ isInf a = false ∧ isInf b = false ∧ isZ a = false ∧ isZ b = false
  · obtain ⟨c1, c2, c3, c4, c5, c6⟩ := hs
    have E : MulG a b = mulF (ngX a b) (oman a) (oexp a) (oman b) (oexp b) := by simp [MulG, *]
    rw [E]
    exact Mul_some a b w ha hb c1 c2 c3 c4 c5 c6
  · have E0 : (Go.bits .and .u64 (Go.bits .xor .u64 a b) 9223372036854775808 != 0) = ngX a b := rfl
    have HS := Lib.hid hs
    clear hs
    go_enter Try.func26, Try.ntmps26
    go_wp2_with (first | (go_at_call 44; refine (isNaN_calls _ _).mono ?_; rintro e w' ⟨rfl, rfl⟩) | (go_at_call 45; refine (isInf_calls _ _).mono ?_; rintro e w' ⟨rfl, rfl⟩) | (go_at_call 46; refine (zero_calls _ _).mono ?_; rintro e w' ⟨rfl, rfl⟩) | (go_at_call 51; refine (signed_calls _ _ _).mono ?_; rintro e w' ⟨rfl, rfl⟩) | (go_at_call 47; exfalso; have := HS.out; simp_all; done))
    all_goals go_ret
    all_goals refine ⟨ret_int ?_, Below.refl _ _⟩
    all_goals go_light
    all_goals clear E0
    all_goals simp [MulG, *]
end Go.Proofs.Ytkiakflmoplmeaa
