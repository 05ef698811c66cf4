/- The walks through package small: Fast. -/
import Derived.Test.YtkiakflmoplmeaaHa
import Derived.Test.YtkiakflmoplmeaaVa
import Derived.Test.YtkiakflmoplmeaaVb
namespace Go.Proofs.Ytkiakflmoplmeaa
open Go.RowKit Fp
set_option linter.unusedVariables false
set_option linter.unusedSimpArgs false
theorem whole_calls (n : Int) (w : World) (h0 : -9223372036854775808 ≤ n) (h1 : n < 9223372036854775808) :
    Calls Try.prog 19 #[.int .i64 n] w fun e w' => e = .returned (.tuple #[.int .u64 (whole32 n).1, .bool (whole32 n).2]) ∧ w' = w := by
  have HI := fun w => wInt_calls (wrap32 n) w (wrap32_bd n).1 (wrap32_bd n).2
  obtain ⟨k0, k1⟩ := wrap32_bd n
  unfold whole32
  replace HI := Lib.hid HI
  by_cases c : (n != wrap32 n) = true
  · rw [if_pos c]
    go_enter Try.func19, Try.ntmps19
    go_wp2
    go_ret2
    exact ⟨rfl, rfl⟩
  · rw [if_neg c]
    rw [Bool.not_eq_true] at c
    go_enter Try.func19, Try.ntmps19
    go_wp2_with (first | (go_at_call 21; refine (HI.out _).mono ?_; rintro e w' ⟨rfl, rfl⟩))
    go_ret2
    exact ⟨rfl, rfl⟩
set_option maxRecDepth 100000 in
theorem some_calls (n : Int) (m : Bool) (w : World) (h0 : -9223372036854775808 ≤ n) (h1 : n < 9223372036854775808) :
    Calls Try.prog 20 #[.int .i64 n, .bool m] w fun e w' => e = .returned (.tuple #[.int .u64 (some32 n m).1, .bool (some32 n m).2]) ∧ w' = w := by
  by_cases z : n = 0
  · subst z
    have HW := fun w => whole_calls 0 w (by omega) (by omega)
    unfold some32
    generalize whole32 0 = r at *
    replace HW := Lib.hid HW
    clear h0 h1
    cases m
    · simp only [Bool.and_false, Bool.false_eq_true, if_false]
      go_enter Try.func20, Try.ntmps20
      go_wp2_with (first | (go_at_call 19; refine (HW.out _).mono ?_; rintro e w' ⟨rfl, rfl⟩))
      all_goals go_ret2
      all_goals exact ⟨rfl, rfl⟩
    · rw [if_pos (by decide)]
      go_enter Try.func20, Try.ntmps20
      go_wp2
      go_ret2
      exact ⟨rfl, rfl⟩
  · have HW := fun w => whole_calls n w h0 h1
    have c : (n == 0) = false := beq_eq_false_iff_ne.2 z
    unfold some32
    rw [c, Bool.false_and, if_neg (by decide)]
    generalize whole32 n = r at *
    replace HW := Lib.hid HW
    clear h0 h1 z
    go_enter Try.func20, Try.ntmps20
    go_wp2_with (first | (go_at_call 19; refine (HW.out _).mono ?_; rintro e w' ⟨rfl, rfl⟩))
    all_goals go_ret2
    all_goals exact ⟨rfl, rfl⟩
theorem mul_bd {x y : Int} (x0 : -2147483648 ≤ x) (x1 : x < 2147483648) (y0 : -2147483648 ≤ y) (y1 : y < 2147483648) : -4611686018427387904 ≤ x * y ∧ x * y ≤ 4611686018427387904 := by
  have : (x * y).natAbs ≤ 2147483648 * 2147483648 := by rw [Int.natAbs_mul]; exact Nat.mul_le_mul (by omega) (by omega)
  omega
theorem shr_bd {x : Int} {c : Nat} (x0 : -2147483648 ≤ x) (x1 : x < 2147483648) : -2147483648 ≤ x / 2 ^ c ∧ x / 2 ^ c < 2147483648 := by
  have p : (0 : Int) < 2 ^ c := Int.pow_pos (by decide)
  have p1 : (1 : Int) ≤ 2 ^ c := p
  constructor
  · apply Int.le_ediv_of_mul_le p
    have : (2147483648 : Int) * 1 ≤ 2147483648 * 2 ^ c := Int.mul_le_mul_of_nonneg_left p1 (by decide)
    rw [Int.neg_mul]; omega
  · apply Int.ediv_lt_of_lt_mul p
    have : (2147483648 : Int) * 1 ≤ 2147483648 * 2 ^ c := Int.mul_le_mul_of_nonneg_left p1 (by decide)
    omega
theorem ushr_bd {c : Nat} (x : Int) : 0 ≤ x % 4294967296 / 2 ^ c ∧ x % 4294967296 / 2 ^ c < 4294967296 := by
  have p : (0 : Int) < 2 ^ c := Int.pow_pos (by decide)
  refine ⟨Int.ediv_nonneg (by omega) (Int.le_of_lt p), Int.lt_of_le_of_lt (Int.ediv_le_self _ (by omega)) (by omega)⟩
theorem bits_i32 (o : BinOp) (x y : Int) : -2147483648 ≤ Go.bits o .i32 x y ∧ Go.bits o .i32 x y < 2147483648 := by
  have h : ∀ n, -2147483648 ≤ IntKind.i32.wrap n ∧ IntKind.i32.wrap n < 2147483648 := fun n => by rw [IntKind.wrap_i32]; omega
  exact h _
theorem tmod_bd {x y : Int} (x0 : -2147483648 ≤ x) (x1 : x < 2147483648) : -2147483648 ≤ x.tmod y ∧ x.tmod y ≤ 2147483648 := by
  have h : (x.tmod y).natAbs ≤ x.natAbs := by rw [Int.natAbs_tmod]; exact Nat.mod_le _ _
  omega
theorem tdiv_bd {x y : Int} (x0 : -2147483648 ≤ x) (x1 : x < 2147483648) : -2147483648 ≤ x.tdiv y ∧ x.tdiv y ≤ 2147483648 := by
  have h : (x.tdiv y).natAbs ≤ x.natAbs := by rw [Int.natAbs_tdiv]; exact Nat.div_le_self _ _
  omega
--FAST--
set_option maxRecDepth 100000 in
theorem Fast_21 (a b x y : Int) (w : World) (HA : ∀ w, Calls Try.prog 18 #[.int .u64 a] w fun e w' => e = .returned (.tuple #[.int .i32 x, .bool true]) ∧ w' = w) (HB : ∀ w, Calls Try.prog 18 #[.int .u64 b] w fun e w' => e = .returned (.tuple #[.int .i32 y, .bool true]) ∧ w' = w) (x0 : -2147483648 ≤ x) (x1 : x < 2147483648) (y0 : -2147483648 ≤ y) (y1 : y < 2147483648) :
    Calls Try.prog 11 #[.int .i64 21, .int .u64 a, .int .u64 b] w fun e w' => e = .returned (.tuple #[.int .u64 (fastI 21 x y).1, .bool (fastI 21 x y).2]) ∧ w' = w := by
  unfold fastI
  simp only [if_pos, Int.reduceEq, if_false, reduceIte]
  have HW := fun w => whole_calls (x + y) w (by omega) (by omega)
  generalize whole32 (x + y) = r at *
  replace HW := Lib.hid HW
  replace HA := Lib.hid HA
  replace HB := Lib.hid HB
  go_enter Try.func11, Try.ntmps11
  go_wp2_with (first | (go_at_call 18; with_reducible first | (refine (HA.out _).mono ?_; rintro e w' ⟨rfl, rfl⟩) | (refine (HB.out _).mono ?_; rintro e w' ⟨rfl, rfl⟩)) | (go_at_call 19; refine (HW.out _).mono ?_; rintro e w' ⟨rfl, rfl⟩) | (go_at_call 20; refine (HS.out _).mono ?_; rintro e w' ⟨rfl, rfl⟩) | (go_at_call 21; refine (HI.out _).mono ?_; rintro e w' ⟨rfl, rfl⟩) | (go_at_call 22; refine (HO.out _).mono ?_; rintro e w' ⟨rfl, rfl⟩))
  all_goals go_ret2
  all_goals exact ⟨rfl, rfl⟩
set_option maxRecDepth 100000 in
theorem Fast_22 (a b x y : Int) (w : World) (HA : ∀ w, Calls Try.prog 18 #[.int .u64 a] w fun e w' => e = .returned (.tuple #[.int .i32 x, .bool true]) ∧ w' = w) (HB : ∀ w, Calls Try.prog 18 #[.int .u64 b] w fun e w' => e = .returned (.tuple #[.int .i32 y, .bool true]) ∧ w' = w) (x0 : -2147483648 ≤ x) (x1 : x < 2147483648) (y0 : -2147483648 ≤ y) (y1 : y < 2147483648) :
    Calls Try.prog 11 #[.int .i64 22, .int .u64 a, .int .u64 b] w fun e w' => e = .returned (.tuple #[.int .u64 (fastI 22 x y).1, .bool (fastI 22 x y).2]) ∧ w' = w := by
  unfold fastI
  simp only [if_pos, Int.reduceEq, if_false, reduceIte]
  have HW := fun w => whole_calls (x - y) w (by omega) (by omega)
  generalize whole32 (x - y) = r at *
  replace HW := Lib.hid HW
  replace HA := Lib.hid HA
  replace HB := Lib.hid HB
  go_enter Try.func11, Try.ntmps11
  go_wp2_with (first | (go_at_call 18; with_reducible first | (refine (HA.out _).mono ?_; rintro e w' ⟨rfl, rfl⟩) | (refine (HB.out _).mono ?_; rintro e w' ⟨rfl, rfl⟩)) | (go_at_call 19; refine (HW.out _).mono ?_; rintro e w' ⟨rfl, rfl⟩) | (go_at_call 20; refine (HS.out _).mono ?_; rintro e w' ⟨rfl, rfl⟩) | (go_at_call 21; refine (HI.out _).mono ?_; rintro e w' ⟨rfl, rfl⟩) | (go_at_call 22; refine (HO.out _).mono ?_; rintro e w' ⟨rfl, rfl⟩))
  all_goals go_ret2
  all_goals exact ⟨rfl, rfl⟩
set_option maxRecDepth 100000 in
theorem Fast_23 (a b x y : Int) (w : World) (HA : ∀ w, Calls Try.prog 18 #[.int .u64 a] w fun e w' => e = .returned (.tuple #[.int .i32 x, .bool true]) ∧ w' = w) (HB : ∀ w, Calls Try.prog 18 #[.int .u64 b] w fun e w' => e = .returned (.tuple #[.int .i32 y, .bool true]) ∧ w' = w) (x0 : -2147483648 ≤ x) (x1 : x < 2147483648) (y0 : -2147483648 ≤ y) (y1 : y < 2147483648) :
    Calls Try.prog 11 #[.int .i64 23, .int .u64 a, .int .u64 b] w fun e w' => e = .returned (.tuple #[.int .u64 (fastI 23 x y).1, .bool (fastI 23 x y).2]) ∧ w' = w := by
  unfold fastI
  simp only [if_pos, Int.reduceEq, if_false, reduceIte]
  have hm := mul_bd x0 x1 y0 y1
  have hk2 : wrap64 (x * y) = x * y := by unfold wrap64; omega
  obtain ⟨m, hmm⟩ : ∃ m, (decide (x < 0) || decide (y < 0)) = m := ⟨_, rfl⟩
  rw [hmm]
  have HS := fun w => some_calls (x * y) m w (by omega) (by omega)
  generalize some32 (x * y) m = r at *
  obtain ⟨k, hk⟩ : ∃ k, x * y = k := ⟨_, rfl⟩
  rw [hk] at HS hk2
  clear hm
  replace HA := Lib.hid HA
  replace HB := Lib.hid HB
  replace HS := Lib.hid HS
  by_cases cx : x < 0
  · rw [decide_eq_true cx, Bool.true_or] at hmm
    subst hmm
    go_enter Try.func11, Try.ntmps11
    go_wp2_with (first | (go_at_call 18; with_reducible first | (refine (HA.out _).mono ?_; rintro e w' ⟨rfl, rfl⟩) | (refine (HB.out _).mono ?_; rintro e w' ⟨rfl, rfl⟩)) | (go_at_call 19; refine (HW.out _).mono ?_; rintro e w' ⟨rfl, rfl⟩) | (go_at_call 20; refine (HS.out _).mono ?_; rintro e w' ⟨rfl, rfl⟩) | (go_at_call 21; refine (HI.out _).mono ?_; rintro e w' ⟨rfl, rfl⟩) | (go_at_call 22; refine (HO.out _).mono ?_; rintro e w' ⟨rfl, rfl⟩))
    all_goals go_ret2
    all_goals exact ⟨rfl, rfl⟩
  rw [decide_eq_false cx, Bool.false_or] at hmm
  by_cases cy : y < 0
  · rw [decide_eq_true cy] at hmm
    subst hmm
    go_enter Try.func11, Try.ntmps11
    go_wp2_with (first | (go_at_call 18; with_reducible first | (refine (HA.out _).mono ?_; rintro e w' ⟨rfl, rfl⟩) | (refine (HB.out _).mono ?_; rintro e w' ⟨rfl, rfl⟩)) | (go_at_call 19; refine (HW.out _).mono ?_; rintro e w' ⟨rfl, rfl⟩) | (go_at_call 20; refine (HS.out _).mono ?_; rintro e w' ⟨rfl, rfl⟩) | (go_at_call 21; refine (HI.out _).mono ?_; rintro e w' ⟨rfl, rfl⟩) | (go_at_call 22; refine (HO.out _).mono ?_; rintro e w' ⟨rfl, rfl⟩))
    all_goals go_ret2
    all_goals exact ⟨rfl, rfl⟩
  · rw [decide_eq_false cy] at hmm
    subst hmm
    have hcx : decide (x < 0) = false := decide_eq_false cx
    have hcy : decide (y < 0) = false := decide_eq_false cy
    go_enter Try.func11, Try.ntmps11
    go_wp2_with (first | (go_at_call 18; with_reducible first | (refine (HA.out _).mono ?_; rintro e w' ⟨rfl, rfl⟩) | (refine (HB.out _).mono ?_; rintro e w' ⟨rfl, rfl⟩)) | (go_at_call 19; refine (HW.out _).mono ?_; rintro e w' ⟨rfl, rfl⟩) | (go_at_call 20; refine (HS.out _).mono ?_; rintro e w' ⟨rfl, rfl⟩) | (go_at_call 21; refine (HI.out _).mono ?_; rintro e w' ⟨rfl, rfl⟩) | (go_at_call 22; refine (HO.out _).mono ?_; rintro e w' ⟨rfl, rfl⟩))
    all_goals go_ret2
    all_goals exact ⟨rfl, rfl⟩
set_option maxRecDepth 100000 in
theorem Fast_24 (a b x y : Int) (w : World) (HA : ∀ w, Calls Try.prog 18 #[.int .u64 a] w fun e w' => e = .returned (.tuple #[.int .i32 x, .bool true]) ∧ w' = w) (HB : ∀ w, Calls Try.prog 18 #[.int .u64 b] w fun e w' => e = .returned (.tuple #[.int .i32 y, .bool true]) ∧ w' = w) (x0 : -2147483648 ≤ x) (x1 : x < 2147483648) (y0 : -2147483648 ≤ y) (y1 : y < 2147483648) :
    Calls Try.prog 11 #[.int .i64 24, .int .u64 a, .int .u64 b] w fun e w' => e = .returned (.tuple #[.int .u64 (fastI 24 x y).1, .bool (fastI 24 x y).2]) ∧ w' = w := by
  unfold fastI
  simp only [if_pos, Int.reduceEq, if_false, reduceIte]
  replace HA := Lib.hid HA
  replace HB := Lib.hid HB
  by_cases hy : y = 0
  · subst hy
    rw [if_pos (.inl rfl)]
    go_enter Try.func11, Try.ntmps11
    go_wp2_with (first | (go_at_call 18; with_reducible first | (refine (HA.out _).mono ?_; rintro e w' ⟨rfl, rfl⟩) | (refine (HB.out _).mono ?_; rintro e w' ⟨rfl, rfl⟩)) | (go_at_call 19; refine (HW.out _).mono ?_; rintro e w' ⟨rfl, rfl⟩) | (go_at_call 20; refine (HS.out _).mono ?_; rintro e w' ⟨rfl, rfl⟩) | (go_at_call 21; refine (HI.out _).mono ?_; rintro e w' ⟨rfl, rfl⟩) | (go_at_call 22; refine (HO.out _).mono ?_; rintro e w' ⟨rfl, rfl⟩))
    all_goals go_ret2
    all_goals exact ⟨rfl, rfl⟩
  have hy' : (y == 0) = false := beq_eq_false_iff_ne.2 hy
  obtain ⟨t0, t1⟩ := tmod_bd (y := y) x0 x1
  obtain ⟨q0, q1⟩ := tdiv_bd (y := y) x0 x1
  obtain ⟨t, ht⟩ : ∃ t, x.tmod y = t := ⟨_, rfl⟩
  obtain ⟨q, hq⟩ : ∃ t, x.tdiv y = t := ⟨_, rfl⟩
  rw [ht] at t0 t1
  rw [hq] at q0 q1
  rw [ht, hq]
  have wt : wrap64 t = t := by unfold wrap64; omega
  have wq : wrap64 q = q := by unfold wrap64; omega
  by_cases z : t = 0
  case neg =>
    rw [if_pos (.inr z)]
    have z' : (t != 0) = true := bne_iff_ne.2 z
    clear z
    go_enter Try.func11, Try.ntmps11
    go_wp2_with (first | (go_at_call 18; with_reducible first | (refine (HA.out _).mono ?_; rintro e w' ⟨rfl, rfl⟩) | (refine (HB.out _).mono ?_; rintro e w' ⟨rfl, rfl⟩)) | (go_at_call 19; refine (HW.out _).mono ?_; rintro e w' ⟨rfl, rfl⟩) | (go_at_call 20; refine (HS.out _).mono ?_; rintro e w' ⟨rfl, rfl⟩) | (go_at_call 21; refine (HI.out _).mono ?_; rintro e w' ⟨rfl, rfl⟩) | (go_at_call 22; refine (HO.out _).mono ?_; rintro e w' ⟨rfl, rfl⟩))
    all_goals go_ret2
    all_goals exact ⟨rfl, rfl⟩
  rw [if_neg (fun h => h.elim hy (fun k => k z))]
  subst z
  have key : ∀ m, decide (y < 0) = m → Calls Try.prog 11 #[.int .i64 24, .int .u64 a, .int .u64 b] w fun e w' => e = .returned (.tuple #[.int .u64 (some32 q m).1, .bool (some32 q m).2]) ∧ w' = w := fun m hm => by
    have HS := fun w => some_calls q m w (by omega) (by omega)
    generalize some32 q m = r at *
    replace HS := Lib.hid HS
    cases m
    · have hc := of_decide_eq_false hm
      go_enter Try.func11, Try.ntmps11
      go_wp2_with (first | (go_at_call 18; with_reducible first | (refine (HA.out _).mono ?_; rintro e w' ⟨rfl, rfl⟩) | (refine (HB.out _).mono ?_; rintro e w' ⟨rfl, rfl⟩)) | (go_at_call 19; refine (HW.out _).mono ?_; rintro e w' ⟨rfl, rfl⟩) | (go_at_call 20; refine (HS.out _).mono ?_; rintro e w' ⟨rfl, rfl⟩) | (go_at_call 21; refine (HI.out _).mono ?_; rintro e w' ⟨rfl, rfl⟩) | (go_at_call 22; refine (HO.out _).mono ?_; rintro e w' ⟨rfl, rfl⟩))
      all_goals go_ret2
      all_goals exact ⟨rfl, rfl⟩
    · have hc := of_decide_eq_true hm
      go_enter Try.func11, Try.ntmps11
      go_wp2_with (first | (go_at_call 18; with_reducible first | (refine (HA.out _).mono ?_; rintro e w' ⟨rfl, rfl⟩) | (refine (HB.out _).mono ?_; rintro e w' ⟨rfl, rfl⟩)) | (go_at_call 19; refine (HW.out _).mono ?_; rintro e w' ⟨rfl, rfl⟩) | (go_at_call 20; refine (HS.out _).mono ?_; rintro e w' ⟨rfl, rfl⟩) | (go_at_call 21; refine (HI.out _).mono ?_; rintro e w' ⟨rfl, rfl⟩) | (go_at_call 22; refine (HO.out _).mono ?_; rintro e w' ⟨rfl, rfl⟩))
      all_goals go_ret2
      all_goals exact ⟨rfl, rfl⟩
  exact key _ rfl
set_option maxRecDepth 100000 in
theorem Fast_25 (a b x y : Int) (w : World) (HA : ∀ w, Calls Try.prog 18 #[.int .u64 a] w fun e w' => e = .returned (.tuple #[.int .i32 x, .bool true]) ∧ w' = w) (HB : ∀ w, Calls Try.prog 18 #[.int .u64 b] w fun e w' => e = .returned (.tuple #[.int .i32 y, .bool true]) ∧ w' = w) (x0 : -2147483648 ≤ x) (x1 : x < 2147483648) (y0 : -2147483648 ≤ y) (y1 : y < 2147483648) :
    Calls Try.prog 11 #[.int .i64 25, .int .u64 a, .int .u64 b] w fun e w' => e = .returned (.tuple #[.int .u64 (fastI 25 x y).1, .bool (fastI 25 x y).2]) ∧ w' = w := by
  unfold fastI
  simp only [if_pos, Int.reduceEq, if_false, reduceIte]
  replace HA := Lib.hid HA
  replace HB := Lib.hid HB
  by_cases hy : y = 0
  · subst hy
    rw [if_pos rfl]
    go_enter Try.func11, Try.ntmps11
    go_wp2_with (first | (go_at_call 18; with_reducible first | (refine (HA.out _).mono ?_; rintro e w' ⟨rfl, rfl⟩) | (refine (HB.out _).mono ?_; rintro e w' ⟨rfl, rfl⟩)) | (go_at_call 19; refine (HW.out _).mono ?_; rintro e w' ⟨rfl, rfl⟩) | (go_at_call 20; refine (HS.out _).mono ?_; rintro e w' ⟨rfl, rfl⟩) | (go_at_call 21; refine (HI.out _).mono ?_; rintro e w' ⟨rfl, rfl⟩) | (go_at_call 22; refine (HO.out _).mono ?_; rintro e w' ⟨rfl, rfl⟩))
    all_goals go_ret2
    all_goals exact ⟨rfl, rfl⟩
  have hy' : (y == 0) = false := beq_eq_false_iff_ne.2 hy
  obtain ⟨t0, t1⟩ := tmod_bd (y := y) x0 x1
  obtain ⟨q0, q1⟩ := tdiv_bd (y := y) x0 x1
  obtain ⟨t, ht⟩ : ∃ t, x.tmod y = t := ⟨_, rfl⟩
  obtain ⟨q, hq⟩ : ∃ t, x.tdiv y = t := ⟨_, rfl⟩
  rw [ht] at t0 t1
  rw [hq] at q0 q1
  rw [ht]
  have wt : wrap64 t = t := by unfold wrap64; omega
  have wq : wrap64 q = q := by unfold wrap64; omega
  rw [if_neg hy]
  have key : ∀ m, decide (x < 0) = m → Calls Try.prog 11 #[.int .i64 25, .int .u64 a, .int .u64 b] w fun e w' => e = .returned (.tuple #[.int .u64 (some32 t m).1, .bool (some32 t m).2]) ∧ w' = w := fun m hm => by
    have HS := fun w => some_calls t m w (by omega) (by omega)
    generalize some32 t m = r at *
    replace HS := Lib.hid HS
    cases m
    · have hc := of_decide_eq_false hm
      go_enter Try.func11, Try.ntmps11
      go_wp2_with (first | (go_at_call 18; with_reducible first | (refine (HA.out _).mono ?_; rintro e w' ⟨rfl, rfl⟩) | (refine (HB.out _).mono ?_; rintro e w' ⟨rfl, rfl⟩)) | (go_at_call 19; refine (HW.out _).mono ?_; rintro e w' ⟨rfl, rfl⟩) | (go_at_call 20; refine (HS.out _).mono ?_; rintro e w' ⟨rfl, rfl⟩) | (go_at_call 21; refine (HI.out _).mono ?_; rintro e w' ⟨rfl, rfl⟩) | (go_at_call 22; refine (HO.out _).mono ?_; rintro e w' ⟨rfl, rfl⟩))
      all_goals go_ret2
      all_goals exact ⟨rfl, rfl⟩
    · have hc := of_decide_eq_true hm
      go_enter Try.func11, Try.ntmps11
      go_wp2_with (first | (go_at_call 18; with_reducible first | (refine (HA.out _).mono ?_; rintro e w' ⟨rfl, rfl⟩) | (refine (HB.out _).mono ?_; rintro e w' ⟨rfl, rfl⟩)) | (go_at_call 19; refine (HW.out _).mono ?_; rintro e w' ⟨rfl, rfl⟩) | (go_at_call 20; refine (HS.out _).mono ?_; rintro e w' ⟨rfl, rfl⟩) | (go_at_call 21; refine (HI.out _).mono ?_; rintro e w' ⟨rfl, rfl⟩) | (go_at_call 22; refine (HO.out _).mono ?_; rintro e w' ⟨rfl, rfl⟩))
      all_goals go_ret2
      all_goals exact ⟨rfl, rfl⟩
  exact key _ rfl
set_option maxRecDepth 100000 in
theorem Fast_26 (a b x y : Int) (w : World) (HA : ∀ w, Calls Try.prog 18 #[.int .u64 a] w fun e w' => e = .returned (.tuple #[.int .i32 x, .bool true]) ∧ w' = w) (HB : ∀ w, Calls Try.prog 18 #[.int .u64 b] w fun e w' => e = .returned (.tuple #[.int .i32 y, .bool true]) ∧ w' = w) (x0 : -2147483648 ≤ x) (x1 : x < 2147483648) (y0 : -2147483648 ≤ y) (y1 : y < 2147483648) :
    Calls Try.prog 11 #[.int .i64 26, .int .u64 a, .int .u64 b] w fun e w' => e = .returned (.tuple #[.int .u64 (fastI 26 x y).1, .bool (fastI 26 x y).2]) ∧ w' = w := by
  unfold fastI
  simp only [if_pos, Int.reduceEq, if_false, reduceIte]
  have hb := cnt_bits y
  have HI := fun w => wInt_calls (wrap32 (x * 2 ^ cnt y)) w (wrap32_bd _).1 (wrap32_bd _).2
  have hcm : min (cnt y) 32 = cnt y := Nat.min_eq_left (by have := cnt_bd y; omega)
  generalize cnt y = c at *
  replace HI := Lib.hid HI
  replace HA := Lib.hid HA
  replace HB := Lib.hid HB
  go_enter Try.func11, Try.ntmps11
  go_wp2_with (first | (go_at_call 18; with_reducible first | (refine (HA.out _).mono ?_; rintro e w' ⟨rfl, rfl⟩) | (refine (HB.out _).mono ?_; rintro e w' ⟨rfl, rfl⟩)) | (go_at_call 19; refine (HW.out _).mono ?_; rintro e w' ⟨rfl, rfl⟩) | (go_at_call 20; refine (HS.out _).mono ?_; rintro e w' ⟨rfl, rfl⟩) | (go_at_call 21; refine (HI.out _).mono ?_; rintro e w' ⟨rfl, rfl⟩) | (go_at_call 22; refine (HO.out _).mono ?_; rintro e w' ⟨rfl, rfl⟩))
  all_goals go_ret2
  all_goals exact ⟨rfl, rfl⟩
set_option maxRecDepth 100000 in
theorem Fast_27 (a b x y : Int) (w : World) (HA : ∀ w, Calls Try.prog 18 #[.int .u64 a] w fun e w' => e = .returned (.tuple #[.int .i32 x, .bool true]) ∧ w' = w) (HB : ∀ w, Calls Try.prog 18 #[.int .u64 b] w fun e w' => e = .returned (.tuple #[.int .i32 y, .bool true]) ∧ w' = w) (x0 : -2147483648 ≤ x) (x1 : x < 2147483648) (y0 : -2147483648 ≤ y) (y1 : y < 2147483648) :
    Calls Try.prog 11 #[.int .i64 27, .int .u64 a, .int .u64 b] w fun e w' => e = .returned (.tuple #[.int .u64 (fastI 27 x y).1, .bool (fastI 27 x y).2]) ∧ w' = w := by
  unfold fastI
  simp only [if_pos, Int.reduceEq, if_false, reduceIte]
  have hb := cnt_bits y
  have hs := shr_bd (c := cnt y) x0 x1
  have HI := fun w => wInt_calls (x / 2 ^ cnt y) w hs.1 hs.2
  have hcm : min (cnt y) 32 = cnt y := Nat.min_eq_left (by have := cnt_bd y; omega)
  generalize cnt y = c at *
  replace HI := Lib.hid HI
  replace HA := Lib.hid HA
  replace HB := Lib.hid HB
  go_enter Try.func11, Try.ntmps11
  go_wp2_with (first | (go_at_call 18; with_reducible first | (refine (HA.out _).mono ?_; rintro e w' ⟨rfl, rfl⟩) | (refine (HB.out _).mono ?_; rintro e w' ⟨rfl, rfl⟩)) | (go_at_call 19; refine (HW.out _).mono ?_; rintro e w' ⟨rfl, rfl⟩) | (go_at_call 20; refine (HS.out _).mono ?_; rintro e w' ⟨rfl, rfl⟩) | (go_at_call 21; refine (HI.out _).mono ?_; rintro e w' ⟨rfl, rfl⟩) | (go_at_call 22; refine (HO.out _).mono ?_; rintro e w' ⟨rfl, rfl⟩))
  all_goals go_ret2
  all_goals exact ⟨rfl, rfl⟩
set_option maxRecDepth 100000 in
theorem Fast_28 (a b x y : Int) (w : World) (HA : ∀ w, Calls Try.prog 18 #[.int .u64 a] w fun e w' => e = .returned (.tuple #[.int .i32 x, .bool true]) ∧ w' = w) (HB : ∀ w, Calls Try.prog 18 #[.int .u64 b] w fun e w' => e = .returned (.tuple #[.int .i32 y, .bool true]) ∧ w' = w) (x0 : -2147483648 ≤ x) (x1 : x < 2147483648) (y0 : -2147483648 ≤ y) (y1 : y < 2147483648) :
    Calls Try.prog 11 #[.int .i64 28, .int .u64 a, .int .u64 b] w fun e w' => e = .returned (.tuple #[.int .u64 (fastI 28 x y).1, .bool (fastI 28 x y).2]) ∧ w' = w := by
  unfold fastI
  simp only [if_pos, Int.reduceEq, if_false, reduceIte]
  have hb := cnt_bits y
  have hs := ushr_bd (c := cnt y) x
  have HW := fun w => whole_calls (x % 4294967296 / 2 ^ cnt y) w (by omega) (by omega)
  generalize whole32 (x % 4294967296 / 2 ^ cnt y) = r at *
  have hcm : min (cnt y) 32 = cnt y := Nat.min_eq_left (by have := cnt_bd y; omega)
  generalize cnt y = c at *
  replace HW := Lib.hid HW
  replace HA := Lib.hid HA
  replace HB := Lib.hid HB
  go_enter Try.func11, Try.ntmps11
  go_wp2_with (first | (go_at_call 18; with_reducible first | (refine (HA.out _).mono ?_; rintro e w' ⟨rfl, rfl⟩) | (refine (HB.out _).mono ?_; rintro e w' ⟨rfl, rfl⟩)) | (go_at_call 19; refine (HW.out _).mono ?_; rintro e w' ⟨rfl, rfl⟩) | (go_at_call 20; refine (HS.out _).mono ?_; rintro e w' ⟨rfl, rfl⟩) | (go_at_call 21; refine (HI.out _).mono ?_; rintro e w' ⟨rfl, rfl⟩) | (go_at_call 22; refine (HO.out _).mono ?_; rintro e w' ⟨rfl, rfl⟩))
  all_goals go_ret2
  all_goals exact ⟨rfl, rfl⟩
set_option maxRecDepth 100000 in
theorem Fast_29 (a b x y : Int) (w : World) (HA : ∀ w, Calls Try.prog 18 #[.int .u64 a] w fun e w' => e = .returned (.tuple #[.int .i32 x, .bool true]) ∧ w' = w) (HB : ∀ w, Calls Try.prog 18 #[.int .u64 b] w fun e w' => e = .returned (.tuple #[.int .i32 y, .bool true]) ∧ w' = w) (x0 : -2147483648 ≤ x) (x1 : x < 2147483648) (y0 : -2147483648 ≤ y) (y1 : y < 2147483648) :
    Calls Try.prog 11 #[.int .i64 29, .int .u64 a, .int .u64 b] w fun e w' => e = .returned (.tuple #[.int .u64 (fastI 29 x y).1, .bool (fastI 29 x y).2]) ∧ w' = w := by
  unfold fastI
  simp only [if_pos, Int.reduceEq, if_false, reduceIte]
  have HI := fun w => wInt_calls (Go.bits .and .i32 x y) w (bits_i32 .and x y).1 (bits_i32 .and x y).2
  obtain ⟨r, hr⟩ : ∃ r, Go.bits .and .i32 x y = r := ⟨_, rfl⟩
  rw [hr] at HI ⊢
  replace HI := Lib.hid HI
  replace HA := Lib.hid HA
  replace HB := Lib.hid HB
  go_enter Try.func11, Try.ntmps11
  go_wp2_with (first | (go_at_call 18; with_reducible first | (refine (HA.out _).mono ?_; rintro e w' ⟨rfl, rfl⟩) | (refine (HB.out _).mono ?_; rintro e w' ⟨rfl, rfl⟩)) | (go_at_call 19; refine (HW.out _).mono ?_; rintro e w' ⟨rfl, rfl⟩) | (go_at_call 20; refine (HS.out _).mono ?_; rintro e w' ⟨rfl, rfl⟩) | (go_at_call 21; refine (HI.out _).mono ?_; rintro e w' ⟨rfl, rfl⟩) | (go_at_call 22; refine (HO.out _).mono ?_; rintro e w' ⟨rfl, rfl⟩))
  all_goals go_ret2
  all_goals exact ⟨rfl, rfl⟩
set_option maxRecDepth 100000 in
theorem Fast_30 (a b x y : Int) (w : World) (HA : ∀ w, Calls Try.prog 18 #[.int .u64 a] w fun e w' => e = .returned (.tuple #[.int .i32 x, .bool true]) ∧ w' = w) (HB : ∀ w, Calls Try.prog 18 #[.int .u64 b] w fun e w' => e = .returned (.tuple #[.int .i32 y, .bool true]) ∧ w' = w) (x0 : -2147483648 ≤ x) (x1 : x < 2147483648) (y0 : -2147483648 ≤ y) (y1 : y < 2147483648) :
    Calls Try.prog 11 #[.int .i64 30, .int .u64 a, .int .u64 b] w fun e w' => e = .returned (.tuple #[.int .u64 (fastI 30 x y).1, .bool (fastI 30 x y).2]) ∧ w' = w := by
  unfold fastI
  simp only [if_pos, Int.reduceEq, if_false, reduceIte]
  have HI := fun w => wInt_calls (Go.bits .or .i32 x y) w (bits_i32 .or x y).1 (bits_i32 .or x y).2
  obtain ⟨r, hr⟩ : ∃ r, Go.bits .or .i32 x y = r := ⟨_, rfl⟩
  rw [hr] at HI ⊢
  replace HI := Lib.hid HI
  replace HA := Lib.hid HA
  replace HB := Lib.hid HB
  go_enter Try.func11, Try.ntmps11
  go_wp2_with (first | (go_at_call 18; with_reducible first | (refine (HA.out _).mono ?_; rintro e w' ⟨rfl, rfl⟩) | (refine (HB.out _).mono ?_; rintro e w' ⟨rfl, rfl⟩)) | (go_at_call 19; refine (HW.out _).mono ?_; rintro e w' ⟨rfl, rfl⟩) | (go_at_call 20; refine (HS.out _).mono ?_; rintro e w' ⟨rfl, rfl⟩) | (go_at_call 21; refine (HI.out _).mono ?_; rintro e w' ⟨rfl, rfl⟩) | (go_at_call 22; refine (HO.out _).mono ?_; rintro e w' ⟨rfl, rfl⟩))
  all_goals go_ret2
  all_goals exact ⟨rfl, rfl⟩
set_option maxRecDepth 100000 in
theorem Fast_31 (a b x y : Int) (w : World) (HA : ∀ w, Calls Try.prog 18 #[.int .u64 a] w fun e w' => e = .returned (.tuple #[.int .i32 x, .bool true]) ∧ w' = w) (HB : ∀ w, Calls Try.prog 18 #[.int .u64 b] w fun e w' => e = .returned (.tuple #[.int .i32 y, .bool true]) ∧ w' = w) (x0 : -2147483648 ≤ x) (x1 : x < 2147483648) (y0 : -2147483648 ≤ y) (y1 : y < 2147483648) :
    Calls Try.prog 11 #[.int .i64 31, .int .u64 a, .int .u64 b] w fun e w' => e = .returned (.tuple #[.int .u64 (fastI 31 x y).1, .bool (fastI 31 x y).2]) ∧ w' = w := by
  unfold fastI
  simp only [if_pos, Int.reduceEq, if_false, reduceIte]
  have HI := fun w => wInt_calls (Go.bits .xor .i32 x y) w (bits_i32 .xor x y).1 (bits_i32 .xor x y).2
  obtain ⟨r, hr⟩ : ∃ r, Go.bits .xor .i32 x y = r := ⟨_, rfl⟩
  rw [hr] at HI ⊢
  replace HI := Lib.hid HI
  replace HA := Lib.hid HA
  replace HB := Lib.hid HB
  go_enter Try.func11, Try.ntmps11
  go_wp2_with (first | (go_at_call 18; with_reducible first | (refine (HA.out _).mono ?_; rintro e w' ⟨rfl, rfl⟩) | (refine (HB.out _).mono ?_; rintro e w' ⟨rfl, rfl⟩)) | (go_at_call 19; refine (HW.out _).mono ?_; rintro e w' ⟨rfl, rfl⟩) | (go_at_call 20; refine (HS.out _).mono ?_; rintro e w' ⟨rfl, rfl⟩) | (go_at_call 21; refine (HI.out _).mono ?_; rintro e w' ⟨rfl, rfl⟩) | (go_at_call 22; refine (HO.out _).mono ?_; rintro e w' ⟨rfl, rfl⟩))
  all_goals go_ret2
  all_goals exact ⟨rfl, rfl⟩
set_option maxRecDepth 100000 in
theorem Fast_32 (a b x y : Int) (w : World) (HA : ∀ w, Calls Try.prog 18 #[.int .u64 a] w fun e w' => e = .returned (.tuple #[.int .i32 x, .bool true]) ∧ w' = w) (HB : ∀ w, Calls Try.prog 18 #[.int .u64 b] w fun e w' => e = .returned (.tuple #[.int .i32 y, .bool true]) ∧ w' = w) (x0 : -2147483648 ≤ x) (x1 : x < 2147483648) (y0 : -2147483648 ≤ y) (y1 : y < 2147483648) :
    Calls Try.prog 11 #[.int .i64 32, .int .u64 a, .int .u64 b] w fun e w' => e = .returned (.tuple #[.int .u64 (fastI 32 x y).1, .bool (fastI 32 x y).2]) ∧ w' = w := by
  unfold fastI
  simp only [if_pos, Int.reduceEq, if_false, reduceIte]
  have HO := fun w => wBool_calls (decide (x < y)) w
  replace HO := Lib.hid HO
  replace HA := Lib.hid HA
  replace HB := Lib.hid HB
  go_enter Try.func11, Try.ntmps11
  go_wp2_with (first | (go_at_call 18; with_reducible first | (refine (HA.out _).mono ?_; rintro e w' ⟨rfl, rfl⟩) | (refine (HB.out _).mono ?_; rintro e w' ⟨rfl, rfl⟩)) | (go_at_call 19; refine (HW.out _).mono ?_; rintro e w' ⟨rfl, rfl⟩) | (go_at_call 20; refine (HS.out _).mono ?_; rintro e w' ⟨rfl, rfl⟩) | (go_at_call 21; refine (HI.out _).mono ?_; rintro e w' ⟨rfl, rfl⟩) | (go_at_call 22; refine (HO.out _).mono ?_; rintro e w' ⟨rfl, rfl⟩))
  all_goals go_ret2
  all_goals exact ⟨rfl, rfl⟩
set_option maxRecDepth 100000 in
theorem Fast_33 (a b x y : Int) (w : World) (HA : ∀ w, Calls Try.prog 18 #[.int .u64 a] w fun e w' => e = .returned (.tuple #[.int .i32 x, .bool true]) ∧ w' = w) (HB : ∀ w, Calls Try.prog 18 #[.int .u64 b] w fun e w' => e = .returned (.tuple #[.int .i32 y, .bool true]) ∧ w' = w) (x0 : -2147483648 ≤ x) (x1 : x < 2147483648) (y0 : -2147483648 ≤ y) (y1 : y < 2147483648) :
    Calls Try.prog 11 #[.int .i64 33, .int .u64 a, .int .u64 b] w fun e w' => e = .returned (.tuple #[.int .u64 (fastI 33 x y).1, .bool (fastI 33 x y).2]) ∧ w' = w := by
  unfold fastI
  simp only [if_pos, Int.reduceEq, if_false, reduceIte]
  have HO := fun w => wBool_calls (decide (x ≤ y)) w
  replace HO := Lib.hid HO
  replace HA := Lib.hid HA
  replace HB := Lib.hid HB
  go_enter Try.func11, Try.ntmps11
  go_wp2_with (first | (go_at_call 18; with_reducible first | (refine (HA.out _).mono ?_; rintro e w' ⟨rfl, rfl⟩) | (refine (HB.out _).mono ?_; rintro e w' ⟨rfl, rfl⟩)) | (go_at_call 19; refine (HW.out _).mono ?_; rintro e w' ⟨rfl, rfl⟩) | (go_at_call 20; refine (HS.out _).mono ?_; rintro e w' ⟨rfl, rfl⟩) | (go_at_call 21; refine (HI.out _).mono ?_; rintro e w' ⟨rfl, rfl⟩) | (go_at_call 22; refine (HO.out _).mono ?_; rintro e w' ⟨rfl, rfl⟩))
  all_goals go_ret2
  all_goals exact ⟨rfl, rfl⟩
set_option maxRecDepth 100000 in
theorem Fast_34 (a b x y : Int) (w : World) (HA : ∀ w, Calls Try.prog 18 #[.int .u64 a] w fun e w' => e = .returned (.tuple #[.int .i32 x, .bool true]) ∧ w' = w) (HB : ∀ w, Calls Try.prog 18 #[.int .u64 b] w fun e w' => e = .returned (.tuple #[.int .i32 y, .bool true]) ∧ w' = w) (x0 : -2147483648 ≤ x) (x1 : x < 2147483648) (y0 : -2147483648 ≤ y) (y1 : y < 2147483648) :
    Calls Try.prog 11 #[.int .i64 34, .int .u64 a, .int .u64 b] w fun e w' => e = .returned (.tuple #[.int .u64 (fastI 34 x y).1, .bool (fastI 34 x y).2]) ∧ w' = w := by
  unfold fastI
  simp only [if_pos, Int.reduceEq, if_false, reduceIte]
  have HO := fun w => wBool_calls (decide (y < x)) w
  replace HO := Lib.hid HO
  replace HA := Lib.hid HA
  replace HB := Lib.hid HB
  go_enter Try.func11, Try.ntmps11
  go_wp2_with (first | (go_at_call 18; with_reducible first | (refine (HA.out _).mono ?_; rintro e w' ⟨rfl, rfl⟩) | (refine (HB.out _).mono ?_; rintro e w' ⟨rfl, rfl⟩)) | (go_at_call 19; refine (HW.out _).mono ?_; rintro e w' ⟨rfl, rfl⟩) | (go_at_call 20; refine (HS.out _).mono ?_; rintro e w' ⟨rfl, rfl⟩) | (go_at_call 21; refine (HI.out _).mono ?_; rintro e w' ⟨rfl, rfl⟩) | (go_at_call 22; refine (HO.out _).mono ?_; rintro e w' ⟨rfl, rfl⟩))
  all_goals go_ret2
  all_goals exact ⟨rfl, rfl⟩
set_option maxRecDepth 100000 in
theorem Fast_35 (a b x y : Int) (w : World) (HA : ∀ w, Calls Try.prog 18 #[.int .u64 a] w fun e w' => e = .returned (.tuple #[.int .i32 x, .bool true]) ∧ w' = w) (HB : ∀ w, Calls Try.prog 18 #[.int .u64 b] w fun e w' => e = .returned (.tuple #[.int .i32 y, .bool true]) ∧ w' = w) (x0 : -2147483648 ≤ x) (x1 : x < 2147483648) (y0 : -2147483648 ≤ y) (y1 : y < 2147483648) :
    Calls Try.prog 11 #[.int .i64 35, .int .u64 a, .int .u64 b] w fun e w' => e = .returned (.tuple #[.int .u64 (fastI 35 x y).1, .bool (fastI 35 x y).2]) ∧ w' = w := by
  unfold fastI
  simp only [if_pos, Int.reduceEq, if_false, reduceIte]
  have HO := fun w => wBool_calls (decide (y ≤ x)) w
  replace HO := Lib.hid HO
  replace HA := Lib.hid HA
  replace HB := Lib.hid HB
  go_enter Try.func11, Try.ntmps11
  go_wp2_with (first | (go_at_call 18; with_reducible first | (refine (HA.out _).mono ?_; rintro e w' ⟨rfl, rfl⟩) | (refine (HB.out _).mono ?_; rintro e w' ⟨rfl, rfl⟩)) | (go_at_call 19; refine (HW.out _).mono ?_; rintro e w' ⟨rfl, rfl⟩) | (go_at_call 20; refine (HS.out _).mono ?_; rintro e w' ⟨rfl, rfl⟩) | (go_at_call 21; refine (HI.out _).mono ?_; rintro e w' ⟨rfl, rfl⟩) | (go_at_call 22; refine (HO.out _).mono ?_; rintro e w' ⟨rfl, rfl⟩))
  all_goals go_ret2
  all_goals exact ⟨rfl, rfl⟩
--END--
set_option maxRecDepth 100000 in
theorem Fast_other (op a b x y : Int) (w : World) (HA : ∀ w, Calls Try.prog 18 #[.int .u64 a] w fun e w' => e = .returned (.tuple #[.int .i32 x, .bool true]) ∧ w' = w) (HB : ∀ w, Calls Try.prog 18 #[.int .u64 b] w fun e w' => e = .returned (.tuple #[.int .i32 y, .bool true]) ∧ w' = w) (x0 : -2147483648 ≤ x) (x1 : x < 2147483648) (y0 : -2147483648 ≤ y) (y1 : y < 2147483648) (ho : op < 21 ∨ 35 < op) :
    Calls Try.prog 11 #[.int .i64 op, .int .u64 a, .int .u64 b] w fun e w' => e = .returned (.tuple #[.int .u64 (fastI op x y).1, .bool (fastI op x y).2]) ∧ w' = w := by
  have E : fastI op x y = (0, false) := by
    unfold fastI
    repeat rw [if_neg (by omega)]
  rw [E]
  have h21 : (op == 21) = false := beq_eq_false_iff_ne.2 (by omega)
  have h22 : (op == 22) = false := beq_eq_false_iff_ne.2 (by omega)
  have h23 : (op == 23) = false := beq_eq_false_iff_ne.2 (by omega)
  have h24 : (op == 24) = false := beq_eq_false_iff_ne.2 (by omega)
  have h25 : (op == 25) = false := beq_eq_false_iff_ne.2 (by omega)
  have h26 : (op == 26) = false := beq_eq_false_iff_ne.2 (by omega)
  have h27 : (op == 27) = false := beq_eq_false_iff_ne.2 (by omega)
  have h28 : (op == 28) = false := beq_eq_false_iff_ne.2 (by omega)
  have h29 : (op == 29) = false := beq_eq_false_iff_ne.2 (by omega)
  have h30 : (op == 30) = false := beq_eq_false_iff_ne.2 (by omega)
  have h31 : (op == 31) = false := beq_eq_false_iff_ne.2 (by omega)
  have h32 : (op == 32) = false := beq_eq_false_iff_ne.2 (by omega)
  have h33 : (op == 33) = false := beq_eq_false_iff_ne.2 (by omega)
  have h34 : (op == 34) = false := beq_eq_false_iff_ne.2 (by omega)
  have h35 : (op == 35) = false := beq_eq_false_iff_ne.2 (by omega)
  replace HA := Lib.hid HA
  replace HB := Lib.hid HB
  clear ho E
  go_enter Try.func11, Try.ntmps11
  go_wp2_with (first | (go_at_call 18; with_reducible first | (refine (HA.out _).mono ?_; rintro e w' ⟨rfl, rfl⟩) | (refine (HB.out _).mono ?_; rintro e w' ⟨rfl, rfl⟩)))
  all_goals go_ret2
  all_goals exact ⟨rfl, rfl⟩
set_option maxRecDepth 100000 in
theorem Fast_not (op a b x y : Int) (s t : Bool) (w : World) (HA : ∀ w, Calls Try.prog 18 #[.int .u64 a] w fun e w' => e = .returned (.tuple #[.int .i32 x, .bool s]) ∧ w' = w) (HB : ∀ w, Calls Try.prog 18 #[.int .u64 b] w fun e w' => e = .returned (.tuple #[.int .i32 y, .bool t]) ∧ w' = w) (h : (s && t) = false) :
    Calls Try.prog 11 #[.int .i64 op, .int .u64 a, .int .u64 b] w fun e w' => e = .returned (.tuple #[.int .u64 0, .bool false]) ∧ w' = w := by
  replace HA := Lib.hid HA
  replace HB := Lib.hid HB
  cases s
  · go_enter Try.func11, Try.ntmps11
    go_wp2_with (first | (go_at_call 18; with_reducible first | (refine (HA.out _).mono ?_; rintro e w' ⟨rfl, rfl⟩) | (refine (HB.out _).mono ?_; rintro e w' ⟨rfl, rfl⟩)))
    all_goals go_ret2
    all_goals exact ⟨rfl, rfl⟩
  · cases t
    · go_enter Try.func11, Try.ntmps11
      go_wp2_with (first | (go_at_call 18; with_reducible first | (refine (HA.out _).mono ?_; rintro e w' ⟨rfl, rfl⟩) | (refine (HB.out _).mono ?_; rintro e w' ⟨rfl, rfl⟩)))
      all_goals go_ret2
      all_goals exact ⟨rfl, rfl⟩
    · exact absurd h (by decide)
theorem Fast_calls (op a b : Int) (w : World) : Calls Try.prog 11 #[.int .i64 op, .int .u64 a, .int .u64 b] w fun e w' => e = .returned (.tuple #[.int .u64 (FastG op a b).1, .bool (FastG op a b).2]) ∧ w' = w := by
  have HA := fun w => IsInt_calls a w
  have HB := fun w => IsInt_calls b w
  obtain ⟨x0, x1⟩ := pI_bd a 65529
  obtain ⟨y0, y1⟩ := pI_bd b 65529
  unfold FastG
  generalize pI a 65529 = x at *
  generalize pI b 65529 = y at *
  by_cases h : (tg a 65529 && tg b 65529) = true
  · rw [if_pos h]
    rw [Bool.and_eq_true] at h
    rw [h.1] at HA
    rw [h.2] at HB
    by_cases ho : op < 21 ∨ 35 < op
    · exact Fast_other op a b x y w HA HB x0 x1 y0 y1 ho
    · have : op = 21 ∨ op = 22 ∨ op = 23 ∨ op = 24 ∨ op = 25 ∨ op = 26 ∨ op = 27 ∨ op = 28 ∨ op = 29 ∨ op = 30 ∨ op = 31 ∨ op = 32 ∨ op = 33 ∨ op = 34 ∨ op = 35 := by omega
      rcases this with rfl | rfl | rfl | rfl | rfl | rfl | rfl | rfl | rfl | rfl | rfl | rfl | rfl | rfl | rfl
      · exact Fast_21 a b x y w HA HB x0 x1 y0 y1
      · exact Fast_22 a b x y w HA HB x0 x1 y0 y1
      · exact Fast_23 a b x y w HA HB x0 x1 y0 y1
      · exact Fast_24 a b x y w HA HB x0 x1 y0 y1
      · exact Fast_25 a b x y w HA HB x0 x1 y0 y1
      · exact Fast_26 a b x y w HA HB x0 x1 y0 y1
      · exact Fast_27 a b x y w HA HB x0 x1 y0 y1
      · exact Fast_28 a b x y w HA HB x0 x1 y0 y1
      · exact Fast_29 a b x y w HA HB x0 x1 y0 y1
      · exact Fast_30 a b x y w HA HB x0 x1 y0 y1
      · exact Fast_31 a b x y w HA HB x0 x1 y0 y1
      · exact Fast_32 a b x y w HA HB x0 x1 y0 y1
      · exact Fast_33 a b x y w HA HB x0 x1 y0 y1
      · exact Fast_34 a b x y w HA HB x0 x1 y0 y1
      · exact Fast_35 a b x y w HA HB x0 x1 y0 y1
  · rw [if_neg h]
    rw [Bool.not_eq_true] at h
    exact Fast_not op a b x y _ _ w HA HB h
end Go.Proofs.Ytkiakflmoplmeaa
