/- Plain facts: what math.Ldexp reckons of a finite number that is not 0. -/
import Derived.Test.YtkiakflmoplmeaaFz
namespace Fp
open Go Go.RowKit Ieee
set_option linter.unusedVariables false
set_option linter.unusedSimpArgs false

/-- a normal word by its parts. -/
theorem normal_parts {a E F : Int} {s : Bool} (h : a = (if s then 9223372036854775808 else 0) + E * 4503599627370496 + F) (h0 : 1 ≤ E) (h1 : E ≤ 2046) (f0 : 0 ≤ F) (f1 : F < 4503599627370496) :
    U64 a ∧ ngb a = s ∧ ¬ sz a = 0 ∧ sz a < 9218868437227405312 ∧ oman a = (F + 4503599627370496) * 2048 ∧ oexp a = E - 1086 := by
  have hu : U64 a := by cases s <;> simp at h <;> exact ⟨by omega, by omega⟩
  have es := sz_eq hu
  have ss : sz a = E * 4503599627370496 + F := by rw [es]; cases s <;> simp at h <;> omega
  have ee : eb a = E := by unfold eb; rw [ss]; omega
  have em : a % 4503599627370496 = F := by cases s <;> simp at h <;> omega
  refine ⟨hu, ?_, by omega, by omega, ?_, ?_⟩
  · unfold ngb
    cases s <;> simp at h <;> simp <;> omega
  · have hl := lz_hf hu
    unfold oman
    have m : mant a = hf a := by unfold mant; rw [if_pos (by omega)]
    rw [m, hl, hf_eq hu]
    rw [show (11 : Int).toNat = 11 from rfl, u64_wrap]
    omega
  · have hl := lz_hf hu
    unfold oexp
    rw [if_pos (by omega), hl, ee]; omega
/-- the word that Ldexp makes: the same sign, the same fraction, the exponent's field E. -/
def ldW (y E : Int) : Int := Go.bits .or .u64 (Go.bits .andNot .u64 y 9218868437227405312) (E * 4503599627370496)
theorem and_field (n : Nat) (h : n < 18446744073709551616) : n &&& 9218868437227405312 = n / 4503599627370496 % 2048 * 4503599627370496 := by
  have e1 : (9218868437227405312 : Nat) = (2 ^ 11 - 1) <<< 52 := by decide
  have e2 : n / 4503599627370496 % 2048 * 4503599627370496 = ((n >>> 52) &&& (2 ^ 11 - 1)) <<< 52 := by
    rw [Nat.and_two_pow_sub_one_eq_mod, Nat.shiftLeft_eq, Nat.shiftRight_eq_div_pow]
  rw [e2, e1]
  apply Nat.eq_of_testBit_eq
  intro j
  rw [Nat.testBit_and, Nat.testBit_shiftLeft, Nat.testBit_shiftLeft, Nat.testBit_and, Nat.testBit_shiftRight]
  by_cases hj : j ≥ 52
  · rw [show 52 + (j - 52) = j by omega]
    cases decide (j ≥ 52) <;> simp
  · simp [hj]
theorem ldW_eq {y E : Int} (hy : U64 y) (h0 : 1 ≤ E) (h1 : E ≤ 2046) : ldW y E = (if ngb y then 9223372036854775808 else 0) + E * 4503599627370496 + y % 4503599627370496 := by
  have y0 := hy.lo
  have y1 := hy.hi
  obtain ⟨n, rfl⟩ := Int.eq_ofNat_of_zero_le y0
  obtain ⟨m, rfl⟩ := Int.eq_ofNat_of_zero_le (show 0 ≤ E by omega)
  have a1 := and_not_mask_lemma n 9218868437227405312 (by omega) (by decide)
  rw [and_field n (by omega)] at a1
  have a1' : Go.bits .andNot .u64 (n : Int) 9218868437227405312 = ((n - n / 4503599627370496 % 2048 * 4503599627370496 : Nat) : Int) := a1
  have w1 : (m : Int) * 4503599627370496 = ((m * 4503599627370496 : Nat) : Int) := by omega
  unfold ldW
  rw [a1', w1]
  have hs : n - n / 4503599627370496 % 2048 * 4503599627370496 = n / 9223372036854775808 * 9223372036854775808 + n % 4503599627370496 := by omega
  rw [hs, bits_or64 _ _ (by omega) (by omega)]
  -- the fields do not meet
  have hq : n / 9223372036854775808 = 0 ∨ n / 9223372036854775808 = 1 := by omega
  have hf : n % 4503599627370496 < 2 ^ 52 := by have : (2 : Nat) ^ 52 = 4503599627370496 := by decide
                                                rw [this]; omega
  have hm63 : m * 4503599627370496 + n % 4503599627370496 < 2 ^ 63 := by have : (2 : Nat) ^ 63 = 9223372036854775808 := by decide
                                                                         rw [this]; omega
  have o1 := Nat.two_pow_add_eq_or_of_lt (i := 52) (b := n % 4503599627370496) hf m
  have o2 := Nat.two_pow_add_eq_or_of_lt (i := 63) (b := m * 4503599627370496 + n % 4503599627370496) hm63 (n / 9223372036854775808)
  have o3 := Nat.two_pow_add_eq_or_of_lt (i := 63) (b := n % 4503599627370496) (by omega) (n / 9223372036854775808)
  have e52n : (2 : Nat) ^ 52 = 4503599627370496 := by decide
  have e63n : (2 : Nat) ^ 63 = 9223372036854775808 := by decide
  rw [e52n] at o1
  rw [e63n] at o2 o3
  have key : (n / 9223372036854775808 * 9223372036854775808 + n % 4503599627370496) ||| m * 4503599627370496 = 9223372036854775808 * (n / 9223372036854775808) + (m * 4503599627370496 + n % 4503599627370496) := by
    rw [o2, Nat.mul_comm m, o1, Nat.mul_comm (n / 9223372036854775808), o3, Nat.or_assoc, Nat.or_comm (n % 4503599627370496)]
  rw [key]
  unfold ngb
  by_cases c : 9223372036854775808 ≤ (n : Int)
  · rw [decide_eq_true c, if_pos rfl]
    have : n / 9223372036854775808 = 1 := by omega
    rw [this]; omega
  · rw [decide_eq_false c, if_neg (by decide)]
    have : n / 9223372036854775808 = 0 := by omega
    rw [this]; omega
end Fp
