/- Plain facts: what package small reckons are words. -/
import Derived.Test.YtkiakflmoplmeaaHa
import Derived.Test.YtkiakflmoplmeaaGf
namespace Fp
open Go Go.RowKit Ieee
set_option linter.unusedVariables false
set_option linter.unusedSimpArgs false
theorem sub_u64 {a c : Int} (ha : U64 a) (hc : U64 c) : U64 (SubG a c) := add_u64 ha (neg_u64 hc)
theorem div_u64 {a c : Int} (ha : U64 a) (hc : U64 c) : U64 (DivG a c) := by
  rw [div_ok ha hc]
  cases h : double.div a.toNat c.toNat with
  | none => exact NaN_u64
  | some r =>
    have := Format.div_lt double h
    have e : (2 : Nat) ^ double.width = 18446744073709551616 := by decide
    rw [e] at this
    exact ⟨by show (0 : Int) ≤ (r : Int); omega, by show (r : Int) < _; omega⟩
theorem rem_u64 {a b : Int} (ha : U64 a) (hb : U64 b) : U64 (RemG a b) := by
  by_cases h : (isNaN a || (isNaN b || (isInf a || isZ b))) = true
  · unfold RemG; rw [if_pos h]; exact NaN_u64
  · by_cases hs : sz a < sz b
    · unfold RemG; rw [if_neg h, if_pos hs]; exact ha
    · simp only [Bool.or_eq_true, not_or, Bool.not_eq_true] at h
      obtain ⟨c1, c2, c3, c4⟩ := h
      have zb : ¬ sz b = 0 := fun k => by rw [isZ_iff.2 k] at c4; cases c4
      have fa := fin_of c1 c3
      unfold Fin' at fa
      rw [rem_word ha hb fa (by omega) zb (by omega)]
      have := rungN_le (V a % V b) (-1074)
      rw [sgn_eq (by omega) (by omega)]
      split <;> exact ⟨by omega, by omega⟩
theorem near_int {n : Int} (h0 : 0 ≤ n) : NearG n 0 false = FromIntG n := by unfold FromIntG; rw [if_neg (by omega)]
theorem bits_wrap (o : BinOp) (x y : Int) : -2147483648 ≤ Go.bits o .i32 x y ∧ Go.bits o .i32 x y < 2147483648 := by
  have h : ∀ n, -2147483648 ≤ IntKind.i32.wrap n ∧ IntKind.i32.wrap n < 2147483648 := fun n => by rw [IntKind.wrap_i32]; omega
  exact h _
theorem shift_bd {x : Int} (c : Nat) (x0 : -2147483648 ≤ x) (x1 : x < 2147483648) : -2147483648 ≤ x / 2 ^ c ∧ x / 2 ^ c < 2147483648 := by
  have p : (0 : Int) < 2 ^ c := Int.pow_pos (by decide)
  have p1 : (1 : Int) ≤ 2 ^ c := p
  constructor
  · apply Int.le_ediv_of_mul_le p
    have : (2147483648 : Int) * 1 ≤ 2147483648 * 2 ^ c := Int.mul_le_mul_of_nonneg_left p1 (by decide)
    rw [Int.neg_mul]; omega
  · apply Int.ediv_lt_of_lt_mul p
    have : (2147483648 : Int) * 1 ≤ 2147483648 * 2 ^ c := Int.mul_le_mul_of_nonneg_left p1 (by decide)
    omega
theorem ushift_bd (c : Nat) (x : Int) : 0 ≤ x % 4294967296 / 2 ^ c ∧ x % 4294967296 / 2 ^ c < 4294967296 := by
  have p : (0 : Int) < 2 ^ c := Int.pow_pos (by decide)
  refine ⟨Int.ediv_nonneg (by omega) (Int.le_of_lt p), Int.lt_of_le_of_lt (Int.ediv_le_self _ (by omega)) (by omega)⟩
/-- the operations on bits give the number of a whole one. -/
theorem bitsI_int (op x y : Int) (x0 : -2147483648 ≤ x) (x1 : x < 2147483648) : ∃ k : Int, bitsI op x y = FromIntG k ∧ -2147483648 ≤ k ∧ k < 4294967296 := by
  have w := wrap32_bd (x * 2 ^ cnt y)
  have s := shift_bd (cnt y) x0 x1
  have u := ushift_bd (cnt y) x
  have b1 := bits_wrap .and x y
  have b2 := bits_wrap .or x y
  have b3 := bits_wrap .xor x y
  unfold bitsI
  split
  · exact ⟨_, rfl, by omega, by omega⟩
  · split
    · exact ⟨_, rfl, by omega, by omega⟩
    · split
      · exact ⟨_, near_int u.1, by omega, by omega⟩
      · split
        · exact ⟨_, rfl, by omega, by omega⟩
        · split
          · exact ⟨_, rfl, by omega, by omega⟩
          · exact ⟨_, rfl, by omega, by omega⟩
theorem bitsI_u64 (op x y : Int) (x0 : -2147483648 ≤ x) (x1 : x < 2147483648) : U64 (bitsI op x y) := by
  obtain ⟨k, e, h0, h1⟩ := bitsI_int op x y x0 x1
  rw [e]; exact FromInt_u64 (by omega) (by omega)
theorem I32_bd (p : Int) : -2147483648 ≤ I32 p ∧ I32 p < 2147483648 := wrap32_bd _
end Fp
