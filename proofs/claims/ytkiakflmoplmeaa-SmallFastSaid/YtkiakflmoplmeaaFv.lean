/- Plain facts: what Rem of package soft reckons. -/
import Derived.Test.YtkiakflmoplmeaaFl
namespace Fp
open Go Go.RowKit
set_option linter.unusedVariables false
set_option linter.unusedSimpArgs false
def RemG (a b : Int) : Int :=
  if (isNaN a || (isNaN b || (isInf a || isZ b))) = true then 9221120237041090560
  else if sz a < sz b then a
  else sgnG (ngb a) (NearG (oman a / 2048 * 2 ^ (oexp a - oexp b).toNat % (oman b / 2048)) (oexp b + 11) false)
theorem emod_mul' (r k Y : Int) : (r % Y) * k % Y = r * k % Y := by rw [Int.mul_emod, Int.emod_emod_of_dvd _ (Int.dvd_refl Y), ← Int.mul_emod]
theorem step_mod {r Y : Int} (f s : Nat) (h : s ≤ f) : (r * 2 ^ s % Y) * 2 ^ (f - s) % Y = r * 2 ^ f % Y := by
  rw [emod_mul', Int.mul_assoc, ← Int.pow_add, show s + (f - s) = f by omega]
theorem first_mod {X Y : Int} (f : Nat) : (X - Y) * 2 ^ f % Y = X * 2 ^ f % Y := by
  rw [Int.sub_mul]
  rw [show X * 2 ^ f - Y * 2 ^ f = X * 2 ^ f + Y * (-(2 ^ f)) by rw [Int.mul_neg]; omega, Int.add_mul_emod_self_left]
/-- so far: what is left, and how many twos are still to come. -/
structure RInv (X Y R : Int) (f : Nat) (r : Int) (n : Nat) : Prop where
  nn : 0 ≤ r
  lt : r < Y
  eq : r * 2 ^ n % Y = R
  yb : Y < 9007199254740992
  fb : n ≤ 4000
theorem RInv.start1 {X Y R : Int} {f : Nat} (h : X * 2 ^ f % Y = R) (c : Y ≤ X) (x : X < 2 * Y) (y : Y < 9007199254740992) (fb : f ≤ 4000) : RInv X Y R f (X - Y) f :=
  ⟨by omega, by omega, by rw [first_mod]; exact h, y, fb⟩
theorem RInv.start2 {X Y R : Int} {f : Nat} (h : X * 2 ^ f % Y = R) (c : ¬ Y ≤ X) (x : 0 ≤ X) (y : Y < 9007199254740992) (fb : f ≤ 4000) : RInv X Y R f X f :=
  ⟨x, by omega, h, y, fb⟩
theorem RInv.small {X Y R r : Int} {f n s : Nat} (k : RInv X Y R f r n) (h : s ≤ 10) : r * 2 ^ s < 18446744073709551616 := by
  have h1 : (2 : Int) ^ s ≤ 2 ^ 10 := by
    have := Nat.pow_le_pow_right (show 0 < 2 by omega) h
    exact_mod_cast this
  have h2 : (0 : Int) ≤ 2 ^ s := Int.le_of_lt (Int.pow_pos (by decide))
  have h3 : r * 2 ^ s ≤ 9007199254740992 * 1024 := Int.mul_le_mul (by have := k.lt; have := k.yb; omega) (by omega) h2 (by omega)
  omega
theorem RInv.step {X Y R r : Int} {f n s : Nat} (k : RInv X Y R f r n) (h : s ≤ n) : RInv X Y R f (r * 2 ^ s % Y) (n - s) := by
  have y0 : 0 < Y := by have := k.nn; have := k.lt; omega
  exact ⟨Int.emod_nonneg _ (by omega), Int.emod_lt_of_pos _ y0, by rw [step_mod n s h]; exact k.eq, k.yb, by have := k.fb; omega⟩
end Fp
