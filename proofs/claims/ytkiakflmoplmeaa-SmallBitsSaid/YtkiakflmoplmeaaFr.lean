/- Plain facts: the long division of bits.Div64. -/
import Derived.Test.YtkiakflmoplmeaaFg
namespace Fp
open Go
set_option linter.unusedVariables false
set_option linter.unusedSimpArgs false

/-- one digit: U*2^32+B by Yh*2^32+Yl, q the guess, r = U - q*Yh. -/
structure KInv (U B Yh Yl q r : Int) : Prop where
  e : q * Yh + r = U
  lo : (U * 4294967296 + B) / (Yh * 4294967296 + Yl) ≤ q
  hi : q ≤ 4294967297
  r0 : 0 ≤ r
  r1 : r < 4294967296

structure KPre (U B Yh Yl : Int) : Prop where
  u0 : 0 ≤ U
  u1 : U < Yh * 4294967296 + Yl
  b0 : 0 ≤ B
  b1 : B < 4294967296
  h0 : 2147483648 ≤ Yh
  h1 : Yh < 4294967296
  l0 : 0 ≤ Yl
  l1 : Yl < 4294967296

variable {U B Yh Yl q r : Int}
theorem KPre.Q_lt (p : KPre U B Yh Yl) : (U * 4294967296 + B) / (Yh * 4294967296 + Yl) < 4294967296 := by
  obtain ⟨a, b, c, d, e, f, g, h⟩ := p
  apply Int.ediv_lt_of_lt_mul (by omega)
  omega
theorem KPre.Q_nonneg (p : KPre U B Yh Yl) : 0 ≤ (U * 4294967296 + B) / (Yh * 4294967296 + Yl) := by
  obtain ⟨a, b, c, d, e, f, g, h⟩ := p
  exact Int.ediv_nonneg (by omega) (by omega)
theorem KInv.start (p : KPre U B Yh Yl) : KInv U B Yh Yl (U / Yh) (U % Yh) := by
  obtain ⟨a, b, c, d, e, f, g, h⟩ := p
  have m0 := Int.emod_nonneg U (show Yh ≠ 0 by omega)
  have m1 := Int.emod_lt_of_pos U (show 0 < Yh by omega)
  have dm := Int.mul_ediv_add_emod U Yh
  refine ⟨by rw [Int.mul_comm]; exact dm, ?_, ?_, m0, by omega⟩
  · apply Int.le_of_lt_add_one
    apply Int.ediv_lt_of_lt_mul (by omega)
    generalize U / Yh = q at *
    generalize U % Yh = r at *
    have e1 : (q + 1) * (Yh * 4294967296 + Yl) = Yh * q * 4294967296 + Yh * 4294967296 + (q + 1) * Yl := by
      rw [Int.mul_add, Int.add_mul, ← Int.mul_assoc, Int.mul_comm q Yh]; omega
    rw [e1]
    have q0 : 0 ≤ q := by
      rcases Int.lt_or_le q 0 with hq | hq
      · have : Yh * q ≤ Yh * (-1) := Int.mul_le_mul_of_nonneg_left (by omega) (by omega)
        omega
      · exact hq
    have : 0 ≤ (q + 1) * Yl := Int.mul_nonneg (by omega) g
    generalize (q + 1) * Yl = z at *
    generalize Yh * q = x at *
    omega
  · apply Int.le_of_lt_add_one
    apply Int.ediv_lt_of_lt_mul (by omega)
    omega
theorem KInv.exit (p : KPre U B Yh Yl) (k : KInv U B Yh Yl q r) (h2 : q * Yl ≤ 4294967296 * r + B) : (U * 4294967296 + B) / (Yh * 4294967296 + Yl) = q := by
  obtain ⟨a, b, c, d, e, f, g, h⟩ := p
  obtain ⟨k1, k2, k3, k4, k5⟩ := k
  refine Int.le_antisymm k2 ?_
  apply Int.le_ediv_of_mul_le (by omega)
  rw [Int.mul_add, ← Int.mul_assoc]
  generalize q * Yh = x at *
  generalize q * Yl = z at *
  omega
theorem KInv.big (p : KPre U B Yh Yl) (k : KInv U B Yh Yl q r) (h : 4294967296 ≤ q) : (U * 4294967296 + B) / (Yh * 4294967296 + Yl) ≤ q - 1 := by
  have := p.Q_lt; omega
theorem KInv.much (p : KPre U B Yh Yl) (k : KInv U B Yh Yl q r) (h2 : 4294967296 * r + B < q * Yl) : (U * 4294967296 + B) / (Yh * 4294967296 + Yl) ≤ q - 1 := by
  obtain ⟨a, b, c, d, e, f, g, h⟩ := p
  obtain ⟨k1, k2, k3, k4, k5⟩ := k
  apply Int.le_sub_one_of_lt
  apply Int.ediv_lt_of_lt_mul (by omega)
  rw [Int.mul_add, ← Int.mul_assoc]
  generalize q * Yh = x at *
  generalize q * Yl = z at *
  omega
theorem KInv.step (k : KInv U B Yh Yl q r) (h : (U * 4294967296 + B) / (Yh * 4294967296 + Yl) ≤ q - 1) (h0 : 0 ≤ Yh) (h1 : r + Yh < 4294967296) : KInv U B Yh Yl (q - 1) (r + Yh) := by
  obtain ⟨k1, k2, k3, k4, k5⟩ := k
  refine ⟨?_, h, by omega, by omega, h1⟩
  rw [Int.sub_mul]; generalize q * Yh = x at *; omega
theorem KInv.stop (p : KPre U B Yh Yl) (k : KInv U B Yh Yl q r) (h : (U * 4294967296 + B) / (Yh * 4294967296 + Yl) ≤ q - 1) (h1 : 4294967296 ≤ r + Yh) : (U * 4294967296 + B) / (Yh * 4294967296 + Yl) = q - 1 := by
  obtain ⟨a, b, c, d, e, f, g, h'⟩ := p
  obtain ⟨k1, k2, k3, k4, k5⟩ := k
  refine Int.le_antisymm h ?_
  apply Int.le_ediv_of_mul_le (by omega)
  have z1 : (q - 1) * Yl ≤ 4294967296 * Yl := Int.mul_le_mul_of_nonneg_right (by omega) g
  rw [Int.mul_add, ← Int.mul_assoc]
  have e1 : (q - 1) * Yh = q * Yh - Yh := by rw [Int.sub_mul]; omega
  rw [e1]
  generalize q * Yh = x at *
  generalize (q - 1) * Yl = z at *
  omega
/-- both digits. -/
theorem two_digits (hi Lh Ll y : Int) (hy : 0 < y) : (hi * 18446744073709551616 + (Lh * 4294967296 + Ll)) / y = (hi * 4294967296 + Lh) / y * 4294967296 + ((hi * 4294967296 + Lh) % y * 4294967296 + Ll) / y ∧ (hi * 18446744073709551616 + (Lh * 4294967296 + Ll)) % y = ((hi * 4294967296 + Lh) % y * 4294967296 + Ll) % y := by
  have dm := Int.mul_ediv_add_emod (hi * 4294967296 + Lh) y
  generalize hq : (hi * 4294967296 + Lh) / y = q at *
  generalize hr : (hi * 4294967296 + Lh) % y = r at *
  have e : hi * 18446744073709551616 + (Lh * 4294967296 + Ll) = (r * 4294967296 + Ll) + y * (q * 4294967296) := by
    rw [← Int.mul_assoc]; generalize y * q = x at *; omega
  rw [e]
  refine ⟨?_, Int.add_mul_emod_self_left _ _ _⟩
  rw [Int.add_mul_ediv_left _ _ (by omega)]; omega
/-- the quotient of two opened numbers. -/
def divF (ng : Bool) (x ex y ey : Int) : Int :=
  if y ≤ x then nearG ng (x * 9223372036854775808 / y) (ex - ey - 64 + 1) (x * 9223372036854775808 % y != 0)
  else nearG ng (x * 18446744073709551616 / y) (ex - ey - 64) (x * 18446744073709551616 % y != 0)
def DivG (a b : Int) : Int :=
  if (isNaN a || (isNaN b || ((isInf a && isInf b) || (isZ a && isZ b)))) = true then 9221120237041090560
  else if (isInf a || isZ b) = true then sgnG (ngX a b) 9218868437227405312
  else if (isZ a || isInf b) = true then sgnG (ngX a b) 0
  else divF (ngX a b) (oman a) (oexp a) (oman b) (oexp b)
theorem half_shift {x : Int} (h0 : 9223372036854775808 ≤ x) (h1 : x < 18446744073709551616) : x / 2 * 18446744073709551616 + IntKind.u64.wrap (x * 9223372036854775808) = x * 9223372036854775808 := by
  rw [u64_wrap]; omega
end Fp
