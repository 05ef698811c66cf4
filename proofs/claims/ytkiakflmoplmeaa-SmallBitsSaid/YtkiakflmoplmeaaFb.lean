/- Plain facts: package soft's rounding is the model's; a word's number and its opened form. -/
import Derived.Test.YtkiakflmoplmeaaFa
import Derived.Test.YtkiakflmoplmeaaFc
namespace Fp
open Go Ieee
set_option linter.unusedVariables false
set_option linter.unusedSimpArgs false

theorem cpow (k : Nat) : ((2 : Int) ^ k) = ((2 ^ k : Nat) : Int) := by simp
theorem and_one (n : Nat) (h : n < 2 ^ 64) : Go.bits .and .u64 (n : Int) 1 = ((n % 2 : Nat) : Int) := by
  have := and_mask n 1 h (by omega)
  simpa using this

theorem wrap_shift (n s : Nat) (hs : s ≤ 64) : IntKind.u64.wrap ((n : Int) * 2 ^ (64 - s)) = ((n % 2 ^ s * 2 ^ (64 - s) : Nat) : Int) := by
  have e : 2 ^ s * 2 ^ (64 - s) = 18446744073709551616 := by rw [← Nat.pow_add, show s + (64 - s) = 64 from by omega]
  rw [u64_wrap, cpow, ← Int.natCast_mul]
  have h2 := Nat.mul_mod_mul_right (2 ^ (64 - s)) n (2 ^ s)
  rw [e] at h2
  rw [← h2]; simp

theorem up_iff (n s : Nat) (h : Bool) (hs : 1 ≤ s) (hs2 : s ≤ 64) (hn : n < 2 ^ 64) :
    upG (IntKind.u64.wrap ((n : Int) * 2 ^ (64 - s))) h ((n : Int) / 2 ^ s) = decide (2 ^ s < 2 * (n % 2 ^ s) ∨ (2 ^ s = 2 * (n % 2 ^ s) ∧ (h = true ∨ n / 2 ^ s % 2 = 1))) := by
  have e : 2 ^ s * 2 ^ (64 - s) = 18446744073709551616 := by rw [← Nat.pow_add, show s + (64 - s) = 64 from by omega]
  rw [wrap_shift n s hs2, cpow, ← Int.natCast_ediv]
  have hq : n / 2 ^ s < 2 ^ 64 := Nat.lt_of_le_of_lt (Nat.div_le_self _ _) hn
  unfold upG
  rw [and_one _ hq]
  have hK := Nat.two_pow_pos (64 - s)
  generalize n % 2 ^ s = r at *
  generalize n / 2 ^ s = q at *
  generalize 2 ^ (64 - s) = K at *
  generalize 2 ^ s = T at *
  have c1 : (9223372036854775808 < ((r * K : Nat) : Int)) ↔ T < 2 * r := by
    have : T < 2 * r ↔ T * K < 2 * r * K := (Nat.mul_lt_mul_right hK).symm
    rw [this, e, Nat.mul_assoc]; omega
  have c2 : (((r * K : Nat) : Int) = 9223372036854775808) ↔ T = 2 * r := by
    have : T = 2 * r ↔ T * K = 2 * r * K := ⟨fun h => by rw [h], fun h => Nat.eq_of_mul_eq_mul_right hK h⟩
    rw [this, e, Nat.mul_assoc]; omega
  have c3 : (((q % 2 : Nat) : Int) == 1) = decide (q % 2 = 1) := by
    rcases Nat.mod_two_eq_zero_or_one q with h | h <;> rw [h] <;> rfl
  rw [c3]
  simp only [c1, c2]
  cases h <;> simp

theorem sgn_word (neg : Bool) (r : Nat) (h : r < 9223372036854775808) : sgnG neg (r : Int) = ((double.word neg r : Nat) : Int) := by
  rw [sgn_eq (Int.natCast_nonneg _) (by omega)]
  unfold Format.word
  have : double.signWeight = 9223372036854775808 := by decide
  rw [this]
  cases neg <;> simp <;> omega

theorem infRung_d : double.infRung = 9218868437227405312 := by decide

theorem log2_63 {n : Nat} (h0 : 9223372036854775808 ≤ n) (h1 : n < 18446744073709551616) : n.log2 = 63 := log2_eq (by omega) (by omega)

/-- rounding, its value written out. -/
theorem rne_if (n : Nat) (h : Bool) (s : Nat) : rne n h s = if (2 ^ s < 2 * (n % 2 ^ s) ∨ (2 ^ s = 2 * (n % 2 ^ s) ∧ (h = true ∨ n / 2 ^ s % 2 = 1))) then n / 2 ^ s + 1 else n / 2 ^ s := by
  unfold rne; split <;> rfl

theorem up_rne (n s : Nat) (h : Bool) (hs : 1 ≤ s) (hs2 : s ≤ 64) (hn : n < 2 ^ 64) :
    (if upG (IntKind.u64.wrap ((n : Int) * 2 ^ (64 - s))) h ((n : Int) / 2 ^ s) then IntKind.u64.wrap ((n : Int) / 2 ^ s + 1) else (n : Int) / 2 ^ s) = ((rne n h s : Nat) : Int) := by
  have hq : n / 2 ^ s * 2 ≤ n := by
    have h1 : 2 ^ 1 ≤ 2 ^ s := Nat.pow_le_pow_right (by omega) hs
    have := Nat.div_le_div_left h1 (by decide) (a := n)
    omega
  rw [up_iff n s h hs hs2 hn, rne_if, cpow, ← Int.natCast_ediv]
  by_cases hc : 2 ^ s < 2 * (n % 2 ^ s) ∨ (2 ^ s = 2 * (n % 2 ^ s) ∧ (h = true ∨ n / 2 ^ s % 2 = 1))
  · rw [if_pos hc, if_pos (decide_eq_true hc), u64_wrap]
    generalize n / 2 ^ s = q at *
    omega
  · rw [if_neg hc, if_neg (by simp [hc])]

theorem rne_le (n : Nat) (h : Bool) (s : Nat) : rne n h s ≤ n / 2 ^ s + 1 := by unfold rne; split <;> omega
theorem le_rne (n : Nat) (h : Bool) (s : Nat) : n / 2 ^ s ≤ rne n h s := by unfold rne; omega

theorem nearG_eq (neg : Bool) (n : Nat) (p : Int) (h : Bool) (h0 : 9223372036854775808 ≤ n) (h1 : n < 18446744073709551616) (hp0 : -7000 ≤ p) (hp1 : p ≤ 7000) :
    nearG neg (n : Int) p h = ((near2 neg n h p : Nat) : Int) := by
  have hl := log2_63 h0 h1
  unfold nearG near2
  rw [hl, infRung_d]
  have q11 : n / 2 ^ 11 < 9007199254740992 := by omega
  have q11' : 4503599627370496 ≤ n / 2 ^ 11 := by omega
  by_cases c1 : 1023 < p + 63
  · rw [if_pos c1]
    have e1 : max (p + ((63 : Nat) : Int) - 52) (-1074) = p + 11 := by omega
    have e2 : (p - (p + 11)).toNat = 0 := by omega
    have e3 : (p + 11 - p).toNat = 11 := by omega
    rw [e1, e2, e3, Nat.pow_zero, Nat.mul_one]
    have r1 := le_rne n h 11
    have e4 : 2046 ≤ (p + 11 + 1074).toNat := by omega
    rw [Nat.min_eq_right (by omega)]
    exact sgn_word neg 9218868437227405312 (by decide)
  · rw [if_neg c1]
    by_cases c2 : p + 63 + 1023 < 1
    · rw [if_pos c2]
      have e1 : max (p + ((63 : Nat) : Int) - 52) (-1074) = -1074 := by omega
      have e2 : (p - (-1074)).toNat = 0 := by omega
      rw [e1, e2, Nat.pow_zero, Nat.mul_one]
      have e0 : ((-1074 : Int) + 1074).toNat = 0 := by decide
      rw [e0, Nat.zero_mul, Nat.zero_add]
      obtain ⟨s, hs⟩ : ∃ s : Nat, 12 - (p + 63 + 1023) = (s : Int) := ⟨(12 - (p + 63 + 1023)).toNat, by omega⟩
      have e3 : (-1074 - p).toNat = s := by omega
      rw [e3, hs]
      by_cases c3 : 64 < (s : Int)
      · rw [if_pos c3]
        have hp : 2 ^ 65 ≤ 2 ^ s := Nat.pow_le_pow_right (by omega) (by omega)
        have d : n / 2 ^ s = 0 := Nat.div_eq_of_lt (by omega)
        have m : n % 2 ^ s = n := Nat.mod_eq_of_lt (by omega)
        have : rne n h s = 0 := by rw [rne_if, d, m, if_neg (by omega)]
        rw [this]
        exact sgn_word neg 0 (by decide)
      · rw [if_neg c3]
        have e5 : (64 - (s : Int)).toNat = 64 - s := by omega
        have e6 : ((s : Int)).toNat = s := by omega
        rw [e5, e6]
        unfold nearA
        rw [up_rne n s h (by omega) (by omega) (by omega)]
        have r1 := rne_le n h s
        have : n / 2 ^ s ≤ n / 2 ^ 11 := Nat.div_le_div_left (Nat.pow_le_pow_right (by omega) (by omega)) (by decide)
        rw [u64_id ⟨Int.natCast_nonneg _, by omega⟩, Nat.min_eq_left (by omega)]
        exact sgn_word neg _ (by omega)
    · rw [if_neg c2]
      have e1 : max (p + ((63 : Nat) : Int) - 52) (-1074) = p + 11 := by omega
      have e2 : (p - (p + 11)).toNat = 0 := by omega
      have e3 : (p + 11 - p).toNat = 11 := by omega
      rw [e1, e2, e3, Nat.pow_zero, Nat.mul_one]
      unfold nearB
      have u := up_rne n 11 h (by omega) (by omega) (by omega)
      have k1 : (2 : Int) ^ (64 - 11) = 9007199254740992 := by decide
      have k2 : (2 : Int) ^ 11 = 2048 := by decide
      rw [k1, k2] at u
      rw [u]
      have r1 := rne_le n h 11
      obtain ⟨b, hb⟩ : ∃ b : Nat, p + 63 + 1023 - 1 = (b : Int) := ⟨(p + 63 + 1023 - 1).toNat, by omega⟩
      have e4 : (p + 11 + 1074).toNat = b := by omega
      have hb2 : b ≤ 2045 := by omega
      have k3 : (2 : Nat) ^ 52 = 4503599627370496 := by decide
      rw [e4, hb, k3]
      generalize rne n h 11 = R at *
      have e5 : (b : Int) * 4503599627370496 + (R : Int) = ((b * 4503599627370496 + R : Nat) : Int) := by omega
      rw [e5, u64_id ⟨Int.natCast_nonneg _, by omega⟩, Nat.min_eq_left (by omega)]
      exact sgn_word neg _ (by omega)
end Fp
