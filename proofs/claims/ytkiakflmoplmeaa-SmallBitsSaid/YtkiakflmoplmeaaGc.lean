/- Plain facts: a number that was cut and rounded at its last place stays what it is. -/
import Derived.Test.YtkiakflmoplmeaaGb
namespace Fp
open Go Go.RowKit Ieee
set_option linter.unusedVariables false
set_option linter.unusedSimpArgs false
/-- a whole number of 53 bits, at the last place of its size. -/
theorem again (s : Bool) (z : Nat) (L : Int) (h0 : z ≠ 0) (h1 : z ≤ 9007199254740992) (hL : -1074 ≤ L) (hlo : -1074 < L → 4503599627370496 ≤ z) :
    near2 s z false L = double.word s (min ((L + 1074).toNat * 4503599627370496 + z) double.infRung) := by
  have e52n : (2 : Nat) ^ 52 = 4503599627370496 := by decide
  have e53n : (2 : Nat) ^ 53 = 9007199254740992 := by decide
  unfold near2
  rw [e52n]
  by_cases c : z = 9007199254740992
  · have zl : z.log2 = 53 := log2_eq (by rw [e53n]; omega) (by rw [Nat.pow_succ, e53n]; omega)
    have eL : max (L + (z.log2 : Int) - 52) (-1074) = L + 1 := by rw [zl]; omega
    have r : rne z false 1 = 4503599627370496 := by
      rw [rne_if, Nat.pow_one, if_neg (by omega)]; omega
    rw [eL, show (L - (L + 1)).toNat = 0 by omega, show (L + 1 - L).toNat = 1 by omega, Nat.pow_zero, Nat.mul_one, r]
    have : (L + 1 + 1074).toNat * 4503599627370496 + 4503599627370496 = (L + 1074).toNat * 4503599627370496 + z := by omega
    rw [this]
  · have hl : z.log2 ≤ 52 := by
      have : z.log2 < 53 := (log2_lt' h0).2 (by rw [e53n]; omega)
      omega
    have hl2 : -1074 < L → z.log2 = 52 := fun g => by
      have := (le_log2' (k := 52) h0).2 (by rw [e52n]; exact hlo g)
      omega
    have eL : max (L + (z.log2 : Int) - 52) (-1074) = L := by
      by_cases g : -1074 < L
      · rw [hl2 g]; omega
      · omega
    rw [eL, Int.sub_self, show (0 : Int).toNat = 0 from rfl, Nat.pow_zero, Nat.mul_one, rne_zero]
theorem keptH_hi (n : Nat) (h : Bool) (p : Int) (hn : n ≠ 0) : rne (n * 2 ^ (p - lastP n p).toNat) h (lastP n p - p).toNat ≤ 2 ^ 53 := by
  have h1 := log2_hi hn
  have hL : p + n.log2 - 52 ≤ lastP n p := Int.le_max_left _ _
  generalize lastP n p = L at *
  have hb : n * 2 ^ (p - L).toNat / 2 ^ (L - p).toNat < 2 ^ 53 := by
    apply Nat.div_lt_of_lt_mul
    rw [← Nat.pow_add]
    have h2 : n * 2 ^ (p - L).toNat < 2 ^ (n.log2 + 1) * 2 ^ (p - L).toNat := Nat.mul_lt_mul_of_pos_right h1 (Nat.two_pow_pos _)
    rw [← Nat.pow_add] at h2
    exact Nat.lt_of_lt_of_le h2 (Nat.pow_le_pow_right (by omega) (by omega))
  have := rne_le (n * 2 ^ (p - L).toNat) h (L - p).toNat
  omega
theorem keptH_lo (n : Nat) (h : Bool) (p : Int) (hn : n ≠ 0) (hh : -1074 < lastP n p) : 2 ^ 52 ≤ rne (n * 2 ^ (p - lastP n p).toNat) h (lastP n p - p).toNat := by
  have h1 := log2_lo hn
  have hL : lastP n p = p + n.log2 - 52 := by unfold lastP at *; omega
  generalize lastP n p = L at *
  have hb : 2 ^ 52 ≤ n * 2 ^ (p - L).toNat / 2 ^ (L - p).toNat := by
    rw [Nat.le_div_iff_mul_le (Nat.two_pow_pos _), ← Nat.pow_add]
    have h2 : 2 ^ n.log2 * 2 ^ (p - L).toNat ≤ n * 2 ^ (p - L).toNat := Nat.mul_le_mul_right _ h1
    rw [← Nat.pow_add] at h2
    exact Nat.le_trans (Nat.pow_le_pow_right (by omega) (by omega)) h2
  exact Nat.le_trans hb (le_rne _ _ _)
/-- rounding is: cut at the last place, then write. -/
theorem near_again (s : Bool) (n : Nat) (h : Bool) (p : Int) (hn : n ≠ 0) (z : Nat) (hz : z = rne (n * 2 ^ (p - lastP n p).toNat) h (lastP n p - p).toNat) :
    near2 s n h p = if z = 0 then double.word s 0 else near2 s z false (lastP n p) := by
  have e52n : (2 : Nat) ^ 52 = 4503599627370496 := by decide
  have e53n : (2 : Nat) ^ 53 = 9007199254740992 := by decide
  have k1 := keptH_hi n h p hn
  have k2 := keptH_lo n h p hn
  rw [← hz] at k1 k2
  rw [e53n] at k1
  rw [e52n] at k2
  have kL : -1074 ≤ lastP n p := Int.le_max_right _ _
  have key : near2 s n h p = double.word s (min ((lastP n p + 1074).toNat * 4503599627370496 + z) double.infRung) := by
    rw [hz]; unfold near2 lastP; rw [e52n]
  rw [key]
  by_cases c : z = 0
  · rw [if_pos c]
    have : lastP n p = -1074 := by
      by_cases g : -1074 < lastP n p
      · have := k2 g; omega
      · omega
    rw [this, c]
    rfl
  · rw [if_neg c, again s z _ c k1 kL k2]
end Fp
