/- Plain facts: a small whole number as a float. -/
import Derived.Test.YtkiakflmoplmeaaGc
namespace Fp
open Go Go.RowKit Ieee
set_option linter.unusedVariables false
set_option linter.unusedSimpArgs false
theorem small_float (n : Nat) (h0 : n ≠ 0) (h1 : n ≤ 9007199254740992) : ∃ a : Int, ((near2 false n false 0 : Nat) : Int) = a ∧ U64 a ∧ ¬ sz a = 0 ∧ sz a < 9218868437227405312 ∧ ∀ L : Int, near2 (ngb a) (oman a).toNat false (oexp a + L) = near2 false n false L := by
  have e53n : (2 : Nat) ^ 53 = 9007199254740992 := by decide
  have hl : n.log2 ≤ 53 := by
    have : n.log2 < 54 := (log2_lt' h0).2 (by rw [Nat.pow_succ, e53n]; omega)
    omega
  have lo := log2_lo h0
  have hi := log2_hi h0
  obtain ⟨l, el⟩ : ∃ l, n.log2 = l := ⟨_, rfl⟩
  rw [el] at hl lo hi
  have e63n : (2 : Nat) ^ 63 = 9223372036854775808 := by decide
  have e64n : (2 : Nat) ^ 64 = 18446744073709551616 := by decide
  have a1 : 9223372036854775808 ≤ n * 2 ^ (63 - l) := by
    have := Nat.mul_le_mul_right (2 ^ (63 - l)) lo
    rw [← Nat.pow_add, show l + (63 - l) = 63 by omega, e63n] at this
    exact this
  have a2 : n * 2 ^ (63 - l) < 18446744073709551616 := by
    have := Nat.mul_lt_mul_of_pos_right hi (Nat.two_pow_pos (63 - l))
    rw [← Nat.pow_add, show l + 1 + (63 - l) = 64 by omega, e64n] at this
    exact this
  have a3 : n * 2 ^ (63 - l) % 2048 = 0 := by
    by_cases c : l = 53
    · subst c
      rw [e53n] at lo
      have : n = 9007199254740992 := by omega
      rw [this]
    · have : 63 - l = 11 + (52 - l) := by omega
      rw [this, Nat.pow_add, Nat.mul_comm (2 ^ 11), ← Nat.mul_assoc]
      exact Nat.mul_mod_left _ _
  obtain ⟨a, _, q1, q2, q3, q4, q5, q6, q7⟩ := word_of false ((n * 2 ^ (63 - l) : Nat) : Int) ((l : Int) - 63) (by omega) (by omega) (by omega) (by omega) (by omega)
  rw [Int.toNat_natCast] at q7
  refine ⟨a, ?_, q1, q3, q4, fun L => ?_⟩
  · rw [← q7, near2_scale _ _ _ _ h0]
    congr 2; omega
  · rw [q2, q5, q6, Int.toNat_natCast, near2_scale _ _ _ _ h0]
    congr 1; omega
end Fp
