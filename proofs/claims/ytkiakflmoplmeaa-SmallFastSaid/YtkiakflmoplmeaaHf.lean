/- Plain facts: what is done at once is what is done in full. -/
import Derived.Test.YtkiakflmoplmeaaHe
namespace Fp
open Go Go.RowKit Ieee
set_option linter.unusedVariables false
set_option linter.unusedSimpArgs false
/-- at once, of what is done in full. -/
def quick (v : Int) : Int × Bool := if (tg v 65529 || (v == 18445336698825998339 || v == 18445336698825998338)) = true then (v, true) else (0, false)
theorem quick_int (k : Int) : quick (wI k) = (wI k, true) := by unfold quick; rw [wI_tg, Bool.true_or, if_pos rfl]
theorem quick_wB (b : Bool) : quick (wB b) = (wB b, true) := by cases b <;> decide +kernel
theorem quick_low {v : Int} (h : v < 18442240474082181121) : quick v = (0, false) := by
  have t : tg v 65529 = false := by rw [tg_not]; omega
  unfold quick
  rw [t, beq_eq_false_iff_ne.2 (show v ≠ 18445336698825998339 by omega), beq_eq_false_iff_ne.2 (show v ≠ 18445336698825998338 by omega)]
  rfl
/-- a number that is no whole one of 32 bits. -/
theorem quick_num {r : Int} (hu : U64 r) (h : ∀ k, -2147483648 ≤ k → k < 2147483648 → WholeG r = (k, true) → False) : quick (NumberG r) = (0, false) := by
  by_cases hn : isNaN r = true
  · unfold NumberG; rw [if_pos hn]; decide +kernel
  · have hb := not_nan_bd hu hn
    have e : NumberG r = r := by
      unfold NumberG
      rw [if_neg hn]
      by_cases hw : (WholeG r).2 = true
      · rw [if_pos hw]
        by_cases h32 : is32 (WholeG r).1 = true
        · exfalso
          have e := beq_iff_eq.1 h32
          have b := wrap32_bd (WholeG r).1
          exact h (WholeG r).1 (by omega) (by omega) (Prod.ext rfl hw)
        · rw [if_neg h32]
      · rw [if_neg hw]
    rw [e]
    exact quick_low hb
theorem quick_whole {k : Int} (h0 : -9007199254740992 < k) (h1 : k < 9007199254740992) : quick (NumberG (FromIntG k)) = whole32 k := by
  unfold whole32
  by_cases c : k = wrap32 k
  · have b := wrap32_bd k
    have e : (k != wrap32 k) = false := by rw [bne_eq_false_iff_eq]; exact c
    rw [e, if_neg (by decide), num_int_word (by omega) (by omega), quick_int, ← c]
  · have e : (k != wrap32 k) = true := bne_iff_ne.2 c
    rw [e, if_pos rfl]
    refine quick_num (FromInt_u64 h0 h1) (fun j j0 j1 hj => ?_)
    rw [Whole_FromInt k h0 h1] at hj
    have : k = j := congrArg Prod.fst hj
    apply c
    unfold wrap32; omega
theorem quick_minus : quick (NumberG 9223372036854775808) = (0, false) := by decide +kernel
/-- a number that is ±K and no less than 2^33 in size is not whole of 32 bits. -/
theorem quick_far {r : Int} (hu : U64 r) (h : SR (FromIntG 8589934592) ≤ SR r ∨ SR r ≤ SR (FromIntG (-8589934592))) : quick (NumberG r) = (0, false) := by
  refine quick_num hu (fun k k0 k1 hk => ?_)
  have e := (FromInt_Whole hu (by rw [hk])).1
  rw [hk] at e
  have e2 : FromIntG k = r := e
  have hU := U_pos
  have f1 := FromInt_u64 (n := k) (by omega) (by omega)
  have s := SV_FromInt (k := k) (by omega) (by omega)
  have p1 := SV_FromInt (k := 8589934592) (by omega) (by omega)
  have p2 := SV_FromInt (k := -8589934592) (by omega) (by omega)
  have u1 := FromInt_u64 (n := 8589934592) (by omega) (by omega)
  have u2 := FromInt_u64 (n := -8589934592) (by omega) (by omega)
  have c1 := SV_SR f1 u1
  have c2 := SV_SR u2 f1
  rw [s, p1] at c1
  rw [s, p2] at c2
  have d1 := c1.1 (mul_lt_U hU (by omega))
  have d2 := c2.1 (mul_lt_U hU (by omega))
  rw [e2] at d1 d2
  omega
theorem mul_ints {x y : Int} (x0 : -2147483648 ≤ x) (x1 : x < 2147483648) (y0 : -2147483648 ≤ y) (y1 : y < 2147483648) : MulG (FromIntG x) (FromIntG y) = NT (decide (x < 0) ^^ decide (y < 0)) (x * y * ((U * U : Nat) : Int)) (-2148) := by
  rw [mul_total (FromInt_u64 (by omega) (by omega)) (FromInt_u64 (by omega) (by omega)) (FromInt_fin (by omega) (by omega)) (FromInt_fin (by omega) (by omega)), SV_FromInt (by omega) (by omega), SV_FromInt (by omega) (by omega), FromInt_ng (by omega) (by omega), FromInt_ng (by omega) (by omega)]
  have e : x * (U : Int) * (y * (U : Int)) = x * y * ((U * U : Nat) : Int) := by
    rw [Int.natCast_mul, Int.mul_assoc x, Int.mul_left_comm (U : Int) y, ← Int.mul_assoc, ← Int.mul_assoc, Int.mul_assoc (x * y)]
  rw [e]
theorem quick_mul {x y : Int} (x0 : -2147483648 ≤ x) (x1 : x < 2147483648) (y0 : -2147483648 ≤ y) (y1 : y < 2147483648) : quick (NumberG (MulG (FromIntG x) (FromIntG y))) = some32 (x * y) (decide (x < 0) || decide (y < 0)) := by
  rw [mul_ints x0 x1 y0 y1]
  unfold some32
  by_cases z : x * y = 0
  · rw [NT_product _ (k := x * y) (by omega) (by omega), if_pos z, z]
    have hx : (decide (x < 0) ^^ decide (y < 0)) = (decide (x < 0) || decide (y < 0)) := by
      rcases Int.mul_eq_zero.1 z with g | g
      · rw [g, decide_eq_false (show ¬ (0 : Int) < 0 by omega)]; simp
      · rw [g, decide_eq_false (show ¬ (0 : Int) < 0 by omega)]; simp
    rw [hx]
    cases (decide (x < 0) || decide (y < 0))
    · rw [if_neg (by decide)]
      have := quick_whole (k := 0) (by decide) (by decide)
      rw [FromInt_zero] at this
      exact this
    · rw [if_pos (by decide)]
      exact quick_minus
  · have zb : (x * y == 0) = false := beq_eq_false_iff_ne.2 z
    rw [zb, Bool.false_and, if_neg (by decide)]
    by_cases c : -9007199254740992 < x * y ∧ x * y < 9007199254740992
    · rw [NT_product _ c.1 c.2, if_neg z]
      exact quick_whole c.1 c.2
    · have w : whole32 (x * y) = (0, false) := by
        unfold whole32
        have : (x * y != wrap32 (x * y)) = true := bne_iff_ne.2 (fun g => by have := wrap32_bd (x * y); omega)
        rw [if_pos this]
      rw [w]
      have hUU := Nat.mul_pos U_pos U_pos
      obtain ⟨f1, f2, f3⟩ := NT_facts (decide (x < 0) ^^ decide (y < 0)) (x * y * ((U * U : Nat) : Int)) (-2148)
      refine quick_far f1 ?_
      have p1 := NT_product false (k := 8589934592) (by omega) (by omega)
      have p2 := NT_product false (k := -8589934592) (by omega) (by omega)
      rw [if_neg (by decide)] at p1 p2
      by_cases g : 9007199254740992 ≤ x * y
      · left
        rw [← p1]
        exact NT_mono _ _ (Int.mul_le_mul_of_nonneg_right (by omega) (Int.natCast_nonneg _))
      · right
        rw [← p2]
        exact NT_mono _ _ (Int.mul_le_mul_of_nonneg_right (by omega) (Int.natCast_nonneg _))
end Fp
