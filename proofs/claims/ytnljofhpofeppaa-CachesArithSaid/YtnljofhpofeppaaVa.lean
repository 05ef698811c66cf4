/- The walks through package word: whole numbers, numbers, what can be. -/
import Derived.Test.YtnljofhpofeppaaSa
namespace Go.Proofs.Ytnljofhpofeppaa
open Go.RowKit Fp
set_option linter.unusedVariables false
set_option linter.unusedSimpArgs false
theorem tagged_calls (t n : Int) (w : World) :
    Calls Try.prog 44 #[.int .u64 t, .int .u32 n] w fun e w' => e = .returned (.int .u64 (Go.bits .or .u64 (IntKind.u64.wrap (t * 281474976710656)) (IntKind.u64.wrap n))) ∧ w' = w := by
  go_enter Try.func44, Try.ntmps44
  go_wp2
  go_ret
  exact ⟨rfl, rfl⟩
theorem wInt_calls (n : Int) (w : World) (h0 : -2147483648 ≤ n) (h1 : n < 2147483648) :
    Calls Try.prog 37 #[.int .i32 n] w fun e w' => e = .returned (.int .u64 (wI n)) ∧ w' = w := by
  go_enter Try.func37, Try.ntmps37
  go_wp2_with (first | (go_at_call 44; refine (tagged_calls _ _ _).mono ?_; rintro e w' ⟨rfl, rfl⟩))
  go_ret
  refine ⟨ret_int ?_, rfl⟩
  go_light
  rw [u64_id (x := 18444773748872577024) ⟨by decide, by decide⟩, u64_id (x := n % 4294967296) ⟨by omega, by omega⟩]
  rfl
theorem ret_tup {k : IntKind} {a b : Int} {c d : Bool} (h : a = b) (h2 : c = d) : Ending.returned (.tuple #[.int k a, .bool c]) = .returned (.tuple #[.int k b, .bool d]) := by rw [h, h2]
theorem payI_calls (a t : Int) (w : World) (h0 : 0 ≤ t) (h1 : t < 65536) :
    Calls Try.prog 23 #[.int .u64 a, .int .u64 t] w fun e w' => e = .returned (.tuple #[.int .i32 (pI a t), .bool (tg a t)]) ∧ w' = w := by
  have E : IntKind.u64.wrap (t * 65536) = t * 65536 := u64_id ⟨by omega, by omega⟩
  cases h : tg a t
  · have H : (a / 4294967296 != t * 65536) = true := by rw [bne_iff_ne]; exact of_decide_eq_false h
    have P : pI a t = 0 := by simp [pI, h]
    rw [P]; clear P h
    go_enter Try.func23, Try.ntmps23
    go_wp2
    go_ret2
    exact ⟨rfl, rfl⟩
  · have H : (a / 4294967296 != t * 65536) = false := by rw [bne_eq_false_iff_eq]; exact of_decide_eq_true h
    have P : pI a t = wrap32 (a % 4294967296) := by simp [pI, h]
    rw [P]; clear P h
    go_enter Try.func23, Try.ntmps23
    go_wp2
    go_ret2
    exact ⟨rfl, rfl⟩
theorem IsInt_calls (a : Int) (w : World) :
    Calls Try.prog 15 #[.int .u64 a] w fun e w' => e = .returned (.tuple #[.int .i32 (pI a 65529), .bool (tg a 65529)]) ∧ w' = w := by
  go_enter Try.func15, Try.ntmps15
  go_wp2_with (first | (go_at_call 23; refine (payI_calls _ _ _ (by decide) (by decide)).mono ?_; rintro e w' ⟨rfl, rfl⟩))
  go_ret2
  exact ⟨rfl, rfl⟩
set_option maxRecDepth 100000 in
theorem Number_calls (a : Int) (w : World) (ha : U64 a) :
    Calls Try.prog 32 #[.int .u64 a] w fun e w' => e = .returned (.int .u64 (NumberG a)) ∧ Below w.heap.size w w' := by
  have E : ((WholeG a).1 == wrap32 (WholeG a).1) = is32 (WholeG a).1 := rfl
  obtain ⟨hb0, hb1⟩ := wrap32_bd (WholeG a).1
  go_enter Try.func32, Try.ntmps32
  go_wp2_with (first | (go_at_call 35; refine (isNaN_calls _ _).mono ?_; rintro e w' ⟨rfl, rfl⟩) | (go_at_call 36; refine (Whole_calls _ _ ha).mono ?_; rintro e w1 ⟨rfl, hb⟩) | (go_at_call 37; refine (wInt_calls _ _ hb0 hb1).mono ?_; rintro e w' ⟨rfl, rfl⟩))
  all_goals go_ret
  all_goals refine ⟨ret_int ?_, by first | assumption | exact Below.refl _ _⟩
  all_goals go_light
  all_goals simp [NumberG, *]
set_option maxRecDepth 100000 in
theorem Right_calls (a : Int) (w : World) (ha : U64 a) :
    Calls Try.prog 25 #[.int .u64 a] w fun e w' => e = .returned (.bool (RightG a)) ∧ Below w.heap.size w w' := by
  go_enter Try.func25, Try.ntmps25
  go_wp2_with (first | (go_at_call 32; refine (Number_calls _ _ ha).mono ?_; rintro e w1 ⟨rfl, hb⟩))
  all_goals go_ret
  all_goals refine ⟨ret_bool ?_, by first | assumption | exact Below.refl _ _⟩
  all_goals go_light
  all_goals simp only [RightG, *]
  all_goals first | rfl | (simp; done)
set_option maxRecDepth 100000 in
theorem Bits_calls (a : Int) (w : World) (ha : U64 a) (hp0 : -2147483648 ≤ pI a 65529) (hp1 : pI a 65529 < 2147483648) :
    Calls Try.prog 16 #[.int .u64 a] w fun e w' => e = .returned (.tuple #[.int .u64 (BitsG a).1, .bool (BitsG a).2]) ∧ Below w.heap.size w w' := by
  by_cases c1 : tg a 65529 = true
  · have E : BitsG a = (FromIntG (pI a 65529), true) := if_pos c1
    rw [E]; clear E
    go_enter Try.func16, Try.ntmps16
    go_wp2_with (first | (go_at_call 15; refine (IsInt_calls _ _).mono ?_; rintro e w' ⟨rfl, rfl⟩) | (go_at_call 24; refine (FromInt_calls _ _ (by omega) (by omega)).mono ?_; rintro e w1 ⟨rfl, hb⟩))
    go_ret2
    exact ⟨rfl, by assumption⟩
  · have c1b : tg a 65529 = false := Bool.eq_false_iff.mpr c1
    by_cases c2 : RightG a = true
    · by_cases c3 : 65529 ≤ a / 281474976710656 ∧ a / 281474976710656 ≤ 65532
      · have E : BitsG a = (0, false) := by rw [BitsG, if_neg c1, if_pos c2, if_pos c3]
        obtain ⟨c4, c5⟩ := c3
        rw [E]; clear E c1
        go_enter Try.func16, Try.ntmps16
        go_wp2_with (first | (go_at_call 15; refine (IsInt_calls _ _).mono ?_; rintro e w' ⟨rfl, rfl⟩) | (go_at_call 25; refine (Right_calls _ _ ha).mono ?_; rintro e w1 ⟨rfl, hb⟩))
        go_ret2
        exact ⟨rfl, by assumption⟩
      · have E : BitsG a = (a, true) := by rw [BitsG, if_neg c1, if_pos c2, if_neg c3]
        rw [E]; clear E c1
        by_cases c4 : 65529 ≤ a / 281474976710656
        · have c5 : ¬ a / 281474976710656 ≤ 65532 := fun h => c3 ⟨c4, h⟩
          clear c3
          go_enter Try.func16, Try.ntmps16
          go_wp2_with (first | (go_at_call 15; refine (IsInt_calls _ _).mono ?_; rintro e w' ⟨rfl, rfl⟩) | (go_at_call 25; refine (Right_calls _ _ ha).mono ?_; rintro e w1 ⟨rfl, hb⟩))
          go_ret2
          exact ⟨rfl, by assumption⟩
        · clear c3
          go_enter Try.func16, Try.ntmps16
          go_wp2_with (first | (go_at_call 15; refine (IsInt_calls _ _).mono ?_; rintro e w' ⟨rfl, rfl⟩) | (go_at_call 25; refine (Right_calls _ _ ha).mono ?_; rintro e w1 ⟨rfl, hb⟩))
          go_ret2
          exact ⟨rfl, by assumption⟩
    · have c2b : RightG a = false := Bool.eq_false_iff.mpr c2
      have E : BitsG a = (0, false) := by rw [BitsG, if_neg c1, if_neg c2]
      rw [E]; clear E c1 c2
      go_enter Try.func16, Try.ntmps16
      go_wp2_with (first | (go_at_call 15; refine (IsInt_calls _ _).mono ?_; rintro e w' ⟨rfl, rfl⟩) | (go_at_call 25; refine (Right_calls _ _ ha).mono ?_; rintro e w1 ⟨rfl, hb⟩))
      go_ret2
      exact ⟨rfl, by assumption⟩
end Go.Proofs.Ytnljofhpofeppaa
