/- Plain facts: a word's number, its opened form; sums, products, quotients of package soft are the model's. -/
import Derived.Test.YtkiakflmoplmeaaFb
import Derived.Test.YtkiakflmoplmeaaFg
namespace Fp
open Go Go.RowKit Ieee
set_option linter.unusedVariables false
set_option linter.unusedSimpArgs false

/-- the place of the last digit -/
def pl (a : Int) : Int := if 0 < eb a then eb a - 1075 else -1074

theorem mant_eq {a : Int} (h : U64 a) : mant a = if 0 < eb a then a % 4503599627370496 + 4503599627370496 else a % 4503599627370496 := by
  unfold mant; rw [hf_eq h, fr_eq h]
theorem eb_eq {a : Int} (h : U64 a) : eb a = a % 9223372036854775808 / 4503599627370496 := by unfold eb; rw [sz_eq h]

theorem read_eq {a : Int} (h : U64 a) : double.read a.toNat =
    if sz a < 9218868437227405312 then .number (ngb a) (mant a).toNat (pl a) else if sz a = 9218868437227405312 then .infinity (ngb a) else .nan (ngb a) (sz a - 9218868437227405312).toNat := by
  have h0 := h.lo
  have h1 := h.hi
  have es := sz_eq h
  have eb' := eb_eq h
  have em := mant_eq h
  obtain ⟨n, rfl⟩ := Int.eq_ofNat_of_zero_le h0
  have sw : double.signWeight = 9223372036854775808 := by decide
  have bn : double.binade = 4503599627370496 := by decide
  unfold Format.read
  simp only [Int.toNat_natCast, sw, bn, infRung_d, leastPlace_double]
  have hneg : (n / 9223372036854775808 % 2 == 1) = ngb (n : Int) := by
    unfold ngb
    by_cases hc : 9223372036854775808 ≤ (n : Int)
    · rw [decide_eq_true hc]
      have : n / 9223372036854775808 % 2 = 1 := by omega
      rw [this]; rfl
    · rw [decide_eq_false hc]
      have : n / 9223372036854775808 % 2 = 0 := by omega
      rw [this]; rfl
  rw [hneg]
  unfold pl
  by_cases c1 : n % 9223372036854775808 < 4503599627370496
  · have k1 : sz (n : Int) < 9218868437227405312 := by rw [es]; omega
    have k2 : ¬ 0 < eb (n : Int) := by rw [eb']; omega
    rw [if_pos c1, if_pos k1, if_neg k2]
    have : mant (n : Int) = ((n % 9223372036854775808 : Nat) : Int) := by rw [em, if_neg k2]; omega
    rw [this, Int.toNat_natCast]
  · rw [if_neg c1]
    have k2 : 0 < eb (n : Int) := by rw [eb']; omega
    by_cases c2 : n % 9223372036854775808 < 9218868437227405312
    · have k1 : sz (n : Int) < 9218868437227405312 := by rw [es]; omega
      rw [if_pos c2, if_pos k1, if_pos k2]
      have e0 : n % 9223372036854775808 % 4503599627370496 = n % 4503599627370496 := Nat.mod_mod_of_dvd n ⟨2048, by decide⟩
      have e1 : mant (n : Int) = ((4503599627370496 + n % 4503599627370496 : Nat) : Int) := by rw [em, if_pos k2]; omega
      have e2 : eb (n : Int) - 1075 = -1074 + ((n % 9223372036854775808 / 4503599627370496 - 1 : Nat) : Int) := by rw [eb']; omega
      rw [e0, e1, e2, Int.toNat_natCast]
    · have k1 : ¬ sz (n : Int) < 9218868437227405312 := by rw [es]; omega
      rw [if_neg c2, if_neg k1]
      by_cases c3 : n % 9223372036854775808 = 9218868437227405312
      · have k3 : sz (n : Int) = 9218868437227405312 := by rw [es]; omega
        rw [if_pos c3, if_pos k3]
      · have k3 : ¬ sz (n : Int) = 9218868437227405312 := by rw [es]; omega
        rw [if_neg c3, if_neg k3]
        have : (sz (n : Int) - 9218868437227405312).toNat = n % 9223372036854775808 - 9218868437227405312 := by rw [es]; omega
        rw [this]

theorem kind_cases (a : Int) : (kindS a = 0 ∧ sz a = 0) ∨ (kindS a = 1 ∧ ¬ sz a = 0 ∧ sz a < 9218868437227405312) ∨ (kindS a = 2 ∧ sz a = 9218868437227405312) ∨ (kindS a = 3 ∧ ¬ sz a < 9218868437227405312 ∧ ¬ sz a = 9218868437227405312) := by
  unfold kindS
  by_cases h1 : sz a = 0
  · rw [if_pos h1]; exact .inl ⟨rfl, h1⟩
  · rw [if_neg h1]
    by_cases h2 : sz a < 9218868437227405312
    · rw [if_pos h2]; exact .inr (.inl ⟨rfl, h1, h2⟩)
    · rw [if_neg h2]
      by_cases h3 : sz a = 9218868437227405312
      · rw [if_pos h3]; exact .inr (.inr (.inl ⟨rfl, h3⟩))
      · rw [if_neg h3]; exact .inr (.inr (.inr ⟨rfl, h2, h3⟩))

/-- opened: the number with its highest digit in place 63 -/
structure Opened (a : Int) : Prop where
  lo : 9223372036854775808 ≤ oman a
  hi : oman a < 18446744073709551616
  eq : oman a = mant a * 2 ^ (lz (mant a)).toNat
  ex : oexp a = pl a - lz (mant a)
  l0 : 11 ≤ lz (mant a)
  l1 : lz (mant a) ≤ 63
  pos : 0 < mant a
  small : mant a < 9007199254740992
  lower : oman a % 2048 = 0

theorem opened {a : Int} (h : U64 a) (hz : ¬ sz a = 0) : Opened a := by
  have h0 := h.lo
  have h1 := h.hi
  have es := sz_eq h
  have em := mant_eq h
  have ee := eb_eq h
  have hpos : 0 < mant a := by rw [em, ee]; split <;> omega
  have hsm : mant a < 9007199254740992 := by rw [em]; split <;> omega
  have hm := mant_u64 h
  have hl := lz_eq hm (by omega)
  obtain ⟨n, hn⟩ := Int.eq_ofNat_of_zero_le (Int.le_of_lt hpos)
  have hn0 : n ≠ 0 := by omega
  have htn : (mant a).toNat = n := by omega
  rw [htn] at hl
  have g1 : n.log2 < 53 := (Nat.log2_lt hn0).2 (by omega)
  have g2 := log2_lo hn0
  have g3 := log2_hi hn0
  have e63 : 2 ^ n.log2 * 2 ^ (63 - n.log2) = 9223372036854775808 := by rw [← Nat.pow_add, show n.log2 + (63 - n.log2) = 63 from by omega]
  have elz : (lz (mant a)).toNat = 63 - n.log2 := by omega
  have hK := Nat.two_pow_pos (63 - n.log2)
  have lo : 9223372036854775808 ≤ n * 2 ^ (63 - n.log2) := by
    have := Nat.mul_le_mul_right (2 ^ (63 - n.log2)) g2; omega
  have hi : n * 2 ^ (63 - n.log2) < 18446744073709551616 := by
    have := Nat.mul_lt_mul_of_pos_right g3 hK
    rw [Nat.pow_succ, Nat.mul_comm (2 ^ n.log2) 2, Nat.mul_assoc, e63] at this; omega
  have eo : oman a = ((n * 2 ^ (63 - n.log2) : Nat) : Int) := by
    unfold oman
    rw [hn] at elz ⊢
    rw [elz, cpow, ← Int.natCast_mul, u64_id ⟨Int.natCast_nonneg _, by omega⟩]
  have low : n * 2 ^ (63 - n.log2) % 2048 = 0 := by
    have : 63 - n.log2 = (52 - n.log2) + 11 := by omega
    rw [this, Nat.pow_add, ← Nat.mul_assoc]
    exact Nat.mul_mod_left _ _
  refine ⟨by omega, by omega, ?_, ?_, by omega, by omega, hpos, hsm, by omega⟩
  · rw [elz, eo, hn, cpow, ← Int.natCast_mul]
  · unfold oexp pl
    by_cases hc : 0 < eb a
    · rw [if_pos hc, if_pos hc]
      have : mant a = hf a := by unfold mant; rw [if_pos hc]
      rw [this]
    · rw [if_neg hc, if_neg hc]
      have : mant a = fr a := by unfold mant; rw [if_neg hc]
      rw [this]
end Fp
