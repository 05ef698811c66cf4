/- Plain facts on rounding: what the model's binary64 rounding is, and that what lies below may be told by one bit. -/
import Ieee.Arith
import Derived.Test.YtnljofhpofeppaaFa
import Derived.Test.YtnljofhpofeppaaFg
namespace Fp
open Ieee
set_option linter.unusedVariables false
set_option linter.unusedSimpArgs false

theorem pow_pos (n : Nat) : 0 < 2 ^ n := Nat.two_pow_pos n

/-- n / 2^s to the nearest, ties to even; h: there is something more below. -/
def rne (n : Nat) (h : Bool) (s : Nat) : Nat :=
  n / 2 ^ s + (if 2 ^ s < 2 * (n % 2 ^ s) ∨ (2 ^ s = 2 * (n % 2 ^ s) ∧ (h = true ∨ n / 2 ^ s % 2 = 1)) then 1 else 0)

theorem rne_zero (n : Nat) (h : Bool) : rne n h 0 = n := by
  unfold rne; simp [Nat.mod_one]

theorem log2_lt' {n k : Nat} (hn : n ≠ 0) : n.log2 < k ↔ n < 2 ^ k := Nat.log2_lt hn

theorem le_log2' {n k : Nat} (hn : n ≠ 0) : k ≤ n.log2 ↔ 2 ^ k ≤ n := Nat.le_log2 hn

theorem log2_eq {n k : Nat} (h1 : 2 ^ k ≤ n) (h2 : n < 2 ^ (k + 1)) : n.log2 = k := by
  have hn : n ≠ 0 := by have := pow_pos k; omega
  have a := (le_log2' hn).2 h1
  have b := (log2_lt' hn).2 h2
  omega

theorem log2_lo {n : Nat} (hn : n ≠ 0) : 2 ^ n.log2 ≤ n := (le_log2' hn).1 (Nat.le_refl _)
theorem log2_hi {n : Nat} (hn : n ≠ 0) : n < 2 ^ (n.log2 + 1) := (log2_lt' hn).1 (Nat.lt_succ_self _)

theorem cut_even (neg : Bool) (n drop : Nat) (hn : n ≠ 0) : Toward.even.cut neg n drop = rne n false drop := by
  unfold Toward.cut rne
  by_cases hd : drop ≤ n.log2 + 2
  · rw [Nat.min_eq_left hd]
    simp only [Nat.shiftLeft_eq, Nat.one_mul]
    congr 1
    generalize n / 2 ^ drop % 2 = A
    generalize 2 * (n % 2 ^ drop) = B
    generalize 2 ^ drop = C
    by_cases h1 : C < B
    · simp [h1]
    · by_cases h2 : C = B
      · subst h2; by_cases h3 : A = 1 <;> simp [h3]
      · simp [h1, h2]
  · rw [Nat.min_eq_right (by omega)]
    have hlt := log2_hi hn
    have e1 : 2 ^ (n.log2 + 2) = 2 * 2 ^ (n.log2 + 1) := by rw [Nat.pow_succ, Nat.mul_comm]
    have e2 : 2 ^ (n.log2 + 2) ≤ 2 ^ drop := Nat.pow_le_pow_right (by omega) (by omega)
    have e3 : 2 ^ (n.log2 + 1) = 2 * 2 ^ (n.log2) := by rw [Nat.pow_succ, Nat.mul_comm]
    have hd' : n / 2 ^ drop = 0 := Nat.div_eq_of_lt (by omega)
    have hm' : n % 2 ^ drop = n := Nat.mod_eq_of_lt (by omega)
    have hd2 : n / 2 ^ (n.log2 + 2) = 0 := Nat.div_eq_of_lt (by omega)
    have hm2 : n % 2 ^ (n.log2 + 2) = n := Nat.mod_eq_of_lt (by omega)
    simp only [Nat.shiftLeft_eq, Nat.one_mul, hd', hm', hd2, hm2]
    have n1 : ¬ 2 ^ drop < 2 * n := by omega
    have n2 : ¬ 2 ^ drop = 2 * n := by omega
    have n3 : ¬ 2 ^ (n.log2 + 2) < 2 * n := by omega
    have n4 : ¬ 2 ^ (n.log2 + 2) = 2 * n := by omega
    simp [n1, n2, n3]

theorem div_merge (n r k s : Nat) (hr : r < 2 ^ k) : (n * 2 ^ k + r) / 2 ^ (s + k) = n / 2 ^ s := by
  rw [Nat.add_comm s k, Nat.pow_add, ← Nat.div_div_eq_div_mul]
  congr 1
  rw [Nat.mul_comm, Nat.mul_add_div (pow_pos k), Nat.div_eq_of_lt hr]; rfl

theorem mod_merge (n r k s : Nat) (hr : r < 2 ^ k) : (n * 2 ^ k + r) % 2 ^ (s + k) = n % 2 ^ s * 2 ^ k + r := by
  have h := Nat.div_add_mod (n * 2 ^ k + r) (2 ^ (s + k))
  rw [div_merge n r k s hr] at h
  have h2 := Nat.div_add_mod n (2 ^ s)
  have e : 2 ^ (s + k) * (n / 2 ^ s) = 2 ^ s * (n / 2 ^ s) * 2 ^ k := by
    rw [Nat.pow_add, Nat.mul_assoc, Nat.mul_comm (2 ^ k), ← Nat.mul_assoc]
  have e2 : n * 2 ^ k = 2 ^ s * (n / 2 ^ s) * 2 ^ k + n % 2 ^ s * 2 ^ k := by
    rw [← Nat.add_mul, h2]
  omega

theorem rne_merge (n r k s : Nat) (h : Bool) (hs : 1 ≤ s) (hr : r < 2 ^ k) :
    rne (n * 2 ^ k + r) h (s + k) = rne n (h || decide (r ≠ 0)) s := by
  unfold rne
  rw [div_merge n r k s hr, mod_merge n r k s hr]
  obtain ⟨t, rfl⟩ : ∃ t, s = t + 1 := ⟨s - 1, by omega⟩
  have e1 : 2 ^ (t + 1) = 2 * 2 ^ t := by rw [Nat.pow_succ, Nat.mul_comm]
  have e2 : 2 ^ (t + 1 + k) = 2 * (2 ^ t * 2 ^ k) := by rw [Nat.pow_add, e1, Nat.mul_assoc]
  rw [e2, e1]
  generalize n / (2 * 2 ^ t) = q
  generalize n % (2 * 2 ^ t) = M
  generalize 2 ^ t = T
  have hK := pow_pos k
  generalize 2 ^ k = K at *
  congr 1
  rcases Nat.lt_trichotomy T M with hl | hl | hl
  · have : T * K + K ≤ M * K := by
      have := Nat.mul_le_mul_right K hl
      rw [Nat.succ_mul] at this; exact this
    rw [if_pos (by left; omega), if_pos (by left; omega)]
  · subst hl
    by_cases hr0 : r = 0
    · subst hr0; simp
    · rw [if_pos (by left; omega), if_pos (by right; simp [hr0])]
  · have : M * K + K ≤ T * K := by
      have := Nat.mul_le_mul_right K hl
      rw [Nat.succ_mul] at this; exact this
    rw [if_neg (by omega), if_neg (by omega)]

/-- exact shift: no remainder. -/
theorem rne_exact (n k s : Nat) : rne (n * 2 ^ k) false (s + k) = rne n false s := by
  cases s with
  | zero =>
    rw [rne_zero]; unfold rne
    have a : n * 2 ^ k / 2 ^ (0 + k) = n := by rw [Nat.zero_add]; exact Nat.mul_div_cancel _ (pow_pos k)
    have b : n * 2 ^ k % 2 ^ (0 + k) = 0 := by rw [Nat.zero_add]; exact Nat.mul_mod_left _ _
    have := pow_pos (0 + k)
    rw [a, b, if_neg (by omega)]; rfl
  | succ s =>
    have := rne_merge n 0 k (s + 1) false (by omega) (pow_pos k)
    simpa using this

/-- the rounding of n * 2^p (with something more below if h) to a binary64. -/
def near2 (neg : Bool) (n : Nat) (h : Bool) (p : Int) : Nat :=
  double.word neg (min ((max (p + n.log2 - 52) (-1074) + 1074).toNat * 2 ^ 52 + rne (n * 2 ^ (p - max (p + n.log2 - 52) (-1074)).toNat) h (max (p + n.log2 - 52) (-1074) - p).toNat) double.infRung)

theorem leastPlace_double : double.leastPlace = -1074 := by decide
theorem fraction_double : double.fractionBits = 52 := rfl
theorem binade_double : double.binade = 2 ^ 52 := rfl

theorem nearest_eq (neg : Bool) (n : Nat) (p : Int) (hn : n ≠ 0) : double.nearest neg n p = near2 neg n false p := by
  unfold Format.nearest near2
  rw [if_neg hn]
  simp only [leastPlace_double, fraction_double, binade_double, Nat.shiftLeft_eq]
  rw [cut_even _ _ _ (Nat.mul_ne_zero hn (Nat.ne_of_gt (pow_pos _)))]
  rfl

theorem log2_merge (n r k : Nat) (hn : n ≠ 0) (hr : r < 2 ^ k) : (n * 2 ^ k + r).log2 = n.log2 + k := by
  have a := log2_lo hn
  have b := log2_hi hn
  refine log2_eq ?_ ?_
  · rw [Nat.pow_add]; have := Nat.mul_le_mul_right (2 ^ k) a; omega
  · have e : 2 ^ (n.log2 + k + 1) = 2 ^ (n.log2 + 1) * 2 ^ k := by rw [← Nat.pow_add]; congr 1; omega
    rw [e]
    have := Nat.mul_le_mul_right (2 ^ k) b
    rw [Nat.succ_mul] at this
    omega

theorem near2_merge (neg : Bool) (n r k : Nat) (h : Bool) (p : Int) (hn : 2 ^ 53 ≤ n) (hr : r < 2 ^ k) :
    near2 neg (n * 2 ^ k + r) h p = near2 neg n (h || decide (r ≠ 0)) (p + k) := by
  have hn0 : n ≠ 0 := by omega
  have hl := (le_log2' hn0).2 hn
  unfold near2
  rw [log2_merge n r k hn0 hr]
  have e : p + ((n.log2 + k : Nat) : Int) - 52 = p + k + n.log2 - 52 := by omega
  rw [e]
  generalize hL : max (p + (k : Int) + (n.log2 : Int) - 52) (-1074) = L
  have hL1 : p + k + 1 ≤ L := by omega
  have e1 : (p - L).toNat = 0 := by omega
  have e2 : (p + k - L).toNat = 0 := by omega
  have e3 : (L - p).toNat = (L - (p + k)).toNat + k := by omega
  rw [e1, e2, e3, Nat.pow_zero, Nat.mul_one, Nat.mul_one, rne_merge n r k _ h (by omega) hr]

theorem near2_scale (neg : Bool) (n k : Nat) (p : Int) (hn : n ≠ 0) :
    near2 neg (n * 2 ^ k) false p = near2 neg n false (p + k) := by
  unfold near2
  have hl : (n * 2 ^ k).log2 = n.log2 + k := by simpa using log2_merge n 0 k hn (pow_pos k)
  rw [hl]
  have e : p + ((n.log2 + k : Nat) : Int) - 52 = p + k + n.log2 - 52 := by omega
  rw [e]
  generalize hL : max (p + (k : Int) + (n.log2 : Int) - 52) (-1074) = L
  by_cases h1 : p + k ≤ L
  · have e1 : (p - L).toNat = 0 := by omega
    have e2 : (p + k - L).toNat = 0 := by omega
    have e3 : (L - p).toNat = (L - (p + k)).toNat + k := by omega
    rw [e1, e2, e3, Nat.pow_zero, Nat.mul_one, Nat.mul_one, rne_exact]
  · have e0 : (L - (p + k)).toNat = 0 := by omega
    rw [e0, rne_zero]
    by_cases h2 : L ≤ p
    · have e1 : (L - p).toNat = 0 := by omega
      have e2 : (p + k - L).toNat = k + (p - L).toNat := by omega
      rw [e1, e2, rne_zero, Nat.pow_add, Nat.mul_assoc]
    · have e1 : (p - L).toNat = 0 := by omega
      have e2 : k = (p + k - L).toNat + (L - p).toNat := by omega
      rw [e1, Nat.pow_zero, Nat.mul_one]
      have e4 : n * 2 ^ k = n * 2 ^ (p + k - L).toNat * 2 ^ (L - p).toNat := by rw [Nat.mul_assoc, ← Nat.pow_add, ← e2]
      rw [e4]
      have := rne_exact (n * 2 ^ (p + k - L).toNat) (L - p).toNat 0
      rw [Nat.zero_add, rne_zero] at this
      rw [this]

theorem nearest_scale (neg : Bool) (n k : Nat) (p : Int) : double.nearest neg (n * 2 ^ k) p = double.nearest neg n (p + k) := by
  by_cases hn : n = 0
  · subst hn; simp [Format.nearest]
  · rw [nearest_eq _ _ _ hn, nearest_eq _ _ _ (Nat.mul_ne_zero hn (Nat.ne_of_gt (pow_pos _))), near2_scale _ _ _ _ hn]
end Fp
namespace Fp
open Go Ieee
set_option linter.unusedVariables false
set_option linter.unusedSimpArgs false

theorem cpow (k : Nat) : ((2 : Int) ^ k) = ((2 ^ k : Nat) : Int) := by simp
theorem and_one (n : Nat) (h : n < 2 ^ 64) : Go.bits .and .u64 (n : Int) 1 = ((n % 2 : Nat) : Int) := by
  have := and_mask n 1 h (by omega)
  simpa using this

theorem wrap_shift (n s : Nat) (hs : s ≤ 64) : IntKind.u64.wrap ((n : Int) * 2 ^ (64 - s)) = ((n % 2 ^ s * 2 ^ (64 - s) : Nat) : Int) := by
  have e : 2 ^ s * 2 ^ (64 - s) = 18446744073709551616 := by rw [← Nat.pow_add, show s + (64 - s) = 64 from by omega]
  rw [u64_wrap, cpow, ← Int.natCast_mul]
  have h2 := Nat.mul_mod_mul_right (2 ^ (64 - s)) n (2 ^ s)
  rw [e] at h2
  rw [← h2]; simp

theorem up_iff (n s : Nat) (h : Bool) (hs : 1 ≤ s) (hs2 : s ≤ 64) (hn : n < 2 ^ 64) :
    upG (IntKind.u64.wrap ((n : Int) * 2 ^ (64 - s))) h ((n : Int) / 2 ^ s) = decide (2 ^ s < 2 * (n % 2 ^ s) ∨ (2 ^ s = 2 * (n % 2 ^ s) ∧ (h = true ∨ n / 2 ^ s % 2 = 1))) := by
  have e : 2 ^ s * 2 ^ (64 - s) = 18446744073709551616 := by rw [← Nat.pow_add, show s + (64 - s) = 64 from by omega]
  rw [wrap_shift n s hs2, cpow, ← Int.natCast_ediv]
  have hq : n / 2 ^ s < 2 ^ 64 := Nat.lt_of_le_of_lt (Nat.div_le_self _ _) hn
  unfold upG
  rw [and_one _ hq]
  have hK := Nat.two_pow_pos (64 - s)
  generalize n % 2 ^ s = r at *
  generalize n / 2 ^ s = q at *
  generalize 2 ^ (64 - s) = K at *
  generalize 2 ^ s = T at *
  have c1 : (9223372036854775808 < ((r * K : Nat) : Int)) ↔ T < 2 * r := by
    have : T < 2 * r ↔ T * K < 2 * r * K := (Nat.mul_lt_mul_right hK).symm
    rw [this, e, Nat.mul_assoc]; omega
  have c2 : (((r * K : Nat) : Int) = 9223372036854775808) ↔ T = 2 * r := by
    have : T = 2 * r ↔ T * K = 2 * r * K := ⟨fun h => by rw [h], fun h => Nat.eq_of_mul_eq_mul_right hK h⟩
    rw [this, e, Nat.mul_assoc]; omega
  have c3 : (((q % 2 : Nat) : Int) == 1) = decide (q % 2 = 1) := by
    rcases Nat.mod_two_eq_zero_or_one q with h | h <;> rw [h] <;> rfl
  rw [c3]
  simp only [c1, c2]
  cases h <;> simp

theorem sgn_word (neg : Bool) (r : Nat) (h : r < 9223372036854775808) : sgnG neg (r : Int) = ((double.word neg r : Nat) : Int) := by
  rw [sgn_eq (Int.natCast_nonneg _) (by omega)]
  unfold Format.word
  have : double.signWeight = 9223372036854775808 := by decide
  rw [this]
  cases neg <;> simp <;> omega

theorem infRung_d : double.infRung = 9218868437227405312 := by decide

theorem log2_63 {n : Nat} (h0 : 9223372036854775808 ≤ n) (h1 : n < 18446744073709551616) : n.log2 = 63 := log2_eq (by omega) (by omega)

/-- rounding, its value written out. -/
theorem rne_if (n : Nat) (h : Bool) (s : Nat) : rne n h s = if (2 ^ s < 2 * (n % 2 ^ s) ∨ (2 ^ s = 2 * (n % 2 ^ s) ∧ (h = true ∨ n / 2 ^ s % 2 = 1))) then n / 2 ^ s + 1 else n / 2 ^ s := by
  unfold rne; split <;> rfl

theorem up_rne (n s : Nat) (h : Bool) (hs : 1 ≤ s) (hs2 : s ≤ 64) (hn : n < 2 ^ 64) :
    (if upG (IntKind.u64.wrap ((n : Int) * 2 ^ (64 - s))) h ((n : Int) / 2 ^ s) then IntKind.u64.wrap ((n : Int) / 2 ^ s + 1) else (n : Int) / 2 ^ s) = ((rne n h s : Nat) : Int) := by
  have hq : n / 2 ^ s * 2 ≤ n := by
    have h1 : 2 ^ 1 ≤ 2 ^ s := Nat.pow_le_pow_right (by omega) hs
    have := Nat.div_le_div_left h1 (by decide) (a := n)
    omega
  rw [up_iff n s h hs hs2 hn, rne_if, cpow, ← Int.natCast_ediv]
  by_cases hc : 2 ^ s < 2 * (n % 2 ^ s) ∨ (2 ^ s = 2 * (n % 2 ^ s) ∧ (h = true ∨ n / 2 ^ s % 2 = 1))
  · rw [if_pos hc, if_pos (decide_eq_true hc), u64_wrap]
    generalize n / 2 ^ s = q at *
    omega
  · rw [if_neg hc, if_neg (by simp [hc])]

theorem rne_le (n : Nat) (h : Bool) (s : Nat) : rne n h s ≤ n / 2 ^ s + 1 := by unfold rne; split <;> omega
theorem le_rne (n : Nat) (h : Bool) (s : Nat) : n / 2 ^ s ≤ rne n h s := by unfold rne; omega

theorem nearG_eq (neg : Bool) (n : Nat) (p : Int) (h : Bool) (h0 : 9223372036854775808 ≤ n) (h1 : n < 18446744073709551616) (hp0 : -7000 ≤ p) (hp1 : p ≤ 7000) :
    nearG neg (n : Int) p h = ((near2 neg n h p : Nat) : Int) := by
  have hl := log2_63 h0 h1
  unfold nearG near2
  rw [hl, infRung_d]
  have q11 : n / 2 ^ 11 < 9007199254740992 := by omega
  have q11' : 4503599627370496 ≤ n / 2 ^ 11 := by omega
  by_cases c1 : 1023 < p + 63
  · rw [if_pos c1]
    have e1 : max (p + ((63 : Nat) : Int) - 52) (-1074) = p + 11 := by omega
    have e2 : (p - (p + 11)).toNat = 0 := by omega
    have e3 : (p + 11 - p).toNat = 11 := by omega
    rw [e1, e2, e3, Nat.pow_zero, Nat.mul_one]
    have r1 := le_rne n h 11
    have e4 : 2046 ≤ (p + 11 + 1074).toNat := by omega
    rw [Nat.min_eq_right (by omega)]
    exact sgn_word neg 9218868437227405312 (by decide)
  · rw [if_neg c1]
    by_cases c2 : p + 63 + 1023 < 1
    · rw [if_pos c2]
      have e1 : max (p + ((63 : Nat) : Int) - 52) (-1074) = -1074 := by omega
      have e2 : (p - (-1074)).toNat = 0 := by omega
      rw [e1, e2, Nat.pow_zero, Nat.mul_one]
      have e0 : ((-1074 : Int) + 1074).toNat = 0 := by decide
      rw [e0, Nat.zero_mul, Nat.zero_add]
      obtain ⟨s, hs⟩ : ∃ s : Nat, 12 - (p + 63 + 1023) = (s : Int) := ⟨(12 - (p + 63 + 1023)).toNat, by omega⟩
      have e3 : (-1074 - p).toNat = s := by omega
      rw [e3, hs]
      by_cases c3 : 64 < (s : Int)
      · rw [if_pos c3]
        have hp : 2 ^ 65 ≤ 2 ^ s := Nat.pow_le_pow_right (by omega) (by omega)
        have d : n / 2 ^ s = 0 := Nat.div_eq_of_lt (by omega)
        have m : n % 2 ^ s = n := Nat.mod_eq_of_lt (by omega)
        have : rne n h s = 0 := by rw [rne_if, d, m, if_neg (by omega)]
        rw [this]
        exact sgn_word neg 0 (by decide)
      · rw [if_neg c3]
        have e5 : (64 - (s : Int)).toNat = 64 - s := by omega
        have e6 : ((s : Int)).toNat = s := by omega
        rw [e5, e6]
        unfold nearA
        rw [up_rne n s h (by omega) (by omega) (by omega)]
        have r1 := rne_le n h s
        have : n / 2 ^ s ≤ n / 2 ^ 11 := Nat.div_le_div_left (Nat.pow_le_pow_right (by omega) (by omega)) (by decide)
        rw [u64_id ⟨Int.natCast_nonneg _, by omega⟩, Nat.min_eq_left (by omega)]
        exact sgn_word neg _ (by omega)
    · rw [if_neg c2]
      have e1 : max (p + ((63 : Nat) : Int) - 52) (-1074) = p + 11 := by omega
      have e2 : (p - (p + 11)).toNat = 0 := by omega
      have e3 : (p + 11 - p).toNat = 11 := by omega
      rw [e1, e2, e3, Nat.pow_zero, Nat.mul_one]
      unfold nearB
      have u := up_rne n 11 h (by omega) (by omega) (by omega)
      have k1 : (2 : Int) ^ (64 - 11) = 9007199254740992 := by decide
      have k2 : (2 : Int) ^ 11 = 2048 := by decide
      rw [k1, k2] at u
      rw [u]
      have r1 := rne_le n h 11
      obtain ⟨b, hb⟩ : ∃ b : Nat, p + 63 + 1023 - 1 = (b : Int) := ⟨(p + 63 + 1023 - 1).toNat, by omega⟩
      have e4 : (p + 11 + 1074).toNat = b := by omega
      have hb2 : b ≤ 2045 := by omega
      have k3 : (2 : Nat) ^ 52 = 4503599627370496 := by decide
      rw [e4, hb, k3]
      generalize rne n h 11 = R at *
      have e5 : (b : Int) * 4503599627370496 + (R : Int) = ((b * 4503599627370496 + R : Nat) : Int) := by omega
      rw [e5, u64_id ⟨Int.natCast_nonneg _, by omega⟩, Nat.min_eq_left (by omega)]
      exact sgn_word neg _ (by omega)
end Fp
namespace Fp
open Go Go.RowKit Ieee
set_option linter.unusedVariables false
set_option linter.unusedSimpArgs false

/-- the place of the last digit -/
def pl (a : Int) : Int := if 0 < eb a then eb a - 1075 else -1074

theorem mant_eq {a : Int} (h : U64 a) : mant a = if 0 < eb a then a % 4503599627370496 + 4503599627370496 else a % 4503599627370496 := by
  unfold mant; rw [hf_eq h, fr_eq h]
theorem eb_eq {a : Int} (h : U64 a) : eb a = a % 9223372036854775808 / 4503599627370496 := by unfold eb; rw [sz_eq h]

theorem read_eq {a : Int} (h : U64 a) : double.read a.toNat =
    if sz a < 9218868437227405312 then .number (ngb a) (mant a).toNat (pl a) else if sz a = 9218868437227405312 then .infinity (ngb a) else .nan (ngb a) (sz a - 9218868437227405312).toNat := by
  have h0 := h.lo
  have h1 := h.hi
  have es := sz_eq h
  have eb' := eb_eq h
  have em := mant_eq h
  obtain ⟨n, rfl⟩ := Int.eq_ofNat_of_zero_le h0
  have sw : double.signWeight = 9223372036854775808 := by decide
  have bn : double.binade = 4503599627370496 := by decide
  unfold Format.read
  simp only [Int.toNat_natCast, sw, bn, infRung_d, leastPlace_double]
  have hneg : (n / 9223372036854775808 % 2 == 1) = ngb (n : Int) := by
    unfold ngb
    by_cases hc : 9223372036854775808 ≤ (n : Int)
    · rw [decide_eq_true hc]
      have : n / 9223372036854775808 % 2 = 1 := by omega
      rw [this]; rfl
    · rw [decide_eq_false hc]
      have : n / 9223372036854775808 % 2 = 0 := by omega
      rw [this]; rfl
  rw [hneg]
  unfold pl
  by_cases c1 : n % 9223372036854775808 < 4503599627370496
  · have k1 : sz (n : Int) < 9218868437227405312 := by rw [es]; omega
    have k2 : ¬ 0 < eb (n : Int) := by rw [eb']; omega
    rw [if_pos c1, if_pos k1, if_neg k2]
    have : mant (n : Int) = ((n % 9223372036854775808 : Nat) : Int) := by rw [em, if_neg k2]; omega
    rw [this, Int.toNat_natCast]
  · rw [if_neg c1]
    have k2 : 0 < eb (n : Int) := by rw [eb']; omega
    by_cases c2 : n % 9223372036854775808 < 9218868437227405312
    · have k1 : sz (n : Int) < 9218868437227405312 := by rw [es]; omega
      rw [if_pos c2, if_pos k1, if_pos k2]
      have e0 : n % 9223372036854775808 % 4503599627370496 = n % 4503599627370496 := Nat.mod_mod_of_dvd n ⟨2048, by decide⟩
      have e1 : mant (n : Int) = ((4503599627370496 + n % 4503599627370496 : Nat) : Int) := by rw [em, if_pos k2]; omega
      have e2 : eb (n : Int) - 1075 = -1074 + ((n % 9223372036854775808 / 4503599627370496 - 1 : Nat) : Int) := by rw [eb']; omega
      rw [e0, e1, e2, Int.toNat_natCast]
    · have k1 : ¬ sz (n : Int) < 9218868437227405312 := by rw [es]; omega
      rw [if_neg c2, if_neg k1]
      by_cases c3 : n % 9223372036854775808 = 9218868437227405312
      · have k3 : sz (n : Int) = 9218868437227405312 := by rw [es]; omega
        rw [if_pos c3, if_pos k3]
      · have k3 : ¬ sz (n : Int) = 9218868437227405312 := by rw [es]; omega
        rw [if_neg c3, if_neg k3]
        have : (sz (n : Int) - 9218868437227405312).toNat = n % 9223372036854775808 - 9218868437227405312 := by rw [es]; omega
        rw [this]

theorem kind_cases (a : Int) : (kindS a = 0 ∧ sz a = 0) ∨ (kindS a = 1 ∧ ¬ sz a = 0 ∧ sz a < 9218868437227405312) ∨ (kindS a = 2 ∧ sz a = 9218868437227405312) ∨ (kindS a = 3 ∧ ¬ sz a < 9218868437227405312 ∧ ¬ sz a = 9218868437227405312) := by
  unfold kindS
  by_cases h1 : sz a = 0
  · rw [if_pos h1]; exact .inl ⟨rfl, h1⟩
  · rw [if_neg h1]
    by_cases h2 : sz a < 9218868437227405312
    · rw [if_pos h2]; exact .inr (.inl ⟨rfl, h1, h2⟩)
    · rw [if_neg h2]
      by_cases h3 : sz a = 9218868437227405312
      · rw [if_pos h3]; exact .inr (.inr (.inl ⟨rfl, h3⟩))
      · rw [if_neg h3]; exact .inr (.inr (.inr ⟨rfl, h2, h3⟩))

/-- opened: the number with its highest digit in place 63 -/
structure Opened (a : Int) : Prop where
  lo : 9223372036854775808 ≤ oman a
  hi : oman a < 18446744073709551616
  eq : oman a = mant a * 2 ^ (lz (mant a)).toNat
  ex : oexp a = pl a - lz (mant a)
  l0 : 11 ≤ lz (mant a)
  l1 : lz (mant a) ≤ 63
  pos : 0 < mant a
  small : mant a < 9007199254740992
  lower : oman a % 2048 = 0

theorem opened {a : Int} (h : U64 a) (hz : ¬ sz a = 0) : Opened a := by
  have h0 := h.lo
  have h1 := h.hi
  have es := sz_eq h
  have em := mant_eq h
  have ee := eb_eq h
  have hpos : 0 < mant a := by rw [em, ee]; split <;> omega
  have hsm : mant a < 9007199254740992 := by rw [em]; split <;> omega
  have hm := mant_u64 h
  have hl := lz_eq hm (by omega)
  obtain ⟨n, hn⟩ := Int.eq_ofNat_of_zero_le (Int.le_of_lt hpos)
  have hn0 : n ≠ 0 := by omega
  have htn : (mant a).toNat = n := by omega
  rw [htn] at hl
  have g1 : n.log2 < 53 := (Nat.log2_lt hn0).2 (by omega)
  have g2 := log2_lo hn0
  have g3 := log2_hi hn0
  have e63 : 2 ^ n.log2 * 2 ^ (63 - n.log2) = 9223372036854775808 := by rw [← Nat.pow_add, show n.log2 + (63 - n.log2) = 63 from by omega]
  have elz : (lz (mant a)).toNat = 63 - n.log2 := by omega
  have hK := Nat.two_pow_pos (63 - n.log2)
  have lo : 9223372036854775808 ≤ n * 2 ^ (63 - n.log2) := by
    have := Nat.mul_le_mul_right (2 ^ (63 - n.log2)) g2; omega
  have hi : n * 2 ^ (63 - n.log2) < 18446744073709551616 := by
    have := Nat.mul_lt_mul_of_pos_right g3 hK
    rw [Nat.pow_succ, Nat.mul_comm (2 ^ n.log2) 2, Nat.mul_assoc, e63] at this; omega
  have eo : oman a = ((n * 2 ^ (63 - n.log2) : Nat) : Int) := by
    unfold oman
    rw [hn] at elz ⊢
    rw [elz, cpow, ← Int.natCast_mul, u64_id ⟨Int.natCast_nonneg _, by omega⟩]
  have low : n * 2 ^ (63 - n.log2) % 2048 = 0 := by
    have : 63 - n.log2 = (52 - n.log2) + 11 := by omega
    rw [this, Nat.pow_add, ← Nat.mul_assoc]
    exact Nat.mul_mod_left _ _
  refine ⟨by omega, by omega, ?_, ?_, by omega, by omega, hpos, hsm, by omega⟩
  · rw [elz, eo, hn, cpow, ← Int.natCast_mul]
  · unfold oexp pl
    by_cases hc : 0 < eb a
    · rw [if_pos hc, if_pos hc]
      have : mant a = hf a := by unfold mant; rw [if_pos hc]
      rw [this]
    · rw [if_neg hc, if_neg hc]
      have : mant a = fr a := by unfold mant; rw [if_neg hc]
      rw [this]
end Fp
namespace Fp
open Go Go.RowKit Ieee
set_option linter.unusedVariables false
set_option linter.unusedSimpArgs false

theorem dec_ne_zero (n : Nat) : (((n % 2 : Nat) : Int) == 1) = decide (n % 2 ≠ 0) := by
  rcases Nat.mod_two_eq_zero_or_one n with h | h <;> rw [h] <;> rfl

theorem lessG_nat (Y d : Nat) (far : Int) (hf : far.toNat = d) : lessG (Y : Int) far = ((Y / 2 ^ d : Nat) : Int) := by
  unfold lessG; rw [hf, cpow, ← Int.natCast_ediv]
theorem lostG_nat (Y d : Nat) (far : Int) (hf : far.toNat = d) (hY : Y < 18446744073709551616) : lostG (Y : Int) far = decide (Y % 2 ^ d ≠ 0) := by
  unfold lostG
  rw [lessG_nat Y d far hf, hf, cpow, ← Int.natCast_mul]
  have h1 := Nat.div_add_mod Y (2 ^ d)
  have h2 : Y / 2 ^ d * 2 ^ d ≤ Y := Nat.div_mul_le_self _ _
  rw [u64_id ⟨Int.natCast_nonneg _, by omega⟩]
  rw [Nat.mul_comm] at h1
  by_cases hr : Y % 2 ^ d = 0
  · rw [decide_eq_false (by simp [hr]), bne_eq_false_iff_eq]; omega
  · rw [decide_eq_true hr, bne_iff_ne]; omega

theorem addS_core (neg : Bool) (X q : Nat) (lost : Bool) (x : Int) (h0 : 9223372036854775808 ≤ X) (h1 : X < 18446744073709551616) (hq : q < 18446744073709551616) (hx0 : -6000 ≤ x) (hx1 : x ≤ 6000) :
    addS neg (X : Int) x (q : Int) lost = ((near2 neg (X + q) lost x : Nat) : Int) := by
  unfold addS aca alo
  by_cases hc : X + q < 18446744073709551616
  · have e1 : (((X : Int) + q) / 18446744073709551616 == 0) = true := by rw [beq_iff_eq]; omega
    have e2 : ((X : Int) + q) % 18446744073709551616 = ((X + q : Nat) : Int) := by omega
    rw [if_pos e1, e2, nearG_eq neg _ x lost (by omega) hc (by omega) (by omega)]
  · have e1 : ¬ (((X : Int) + q) / 18446744073709551616 == 0) = true := by rw [beq_iff_eq]; omega
    have e2 : ((X : Int) + q) % 18446744073709551616 = ((X + q - 18446744073709551616 : Nat) : Int) := by omega
    rw [if_neg e1, e2, and_one _ (by omega), dec_ne_zero]
    have e3 : ((X + q - 18446744073709551616 : Nat) : Int) / 2 = (((X + q - 18446744073709551616) / 2 : Nat) : Int) := by omega
    have e4 := or_high ((X + q - 18446744073709551616) / 2) 63 63 (by omega) (by omega) (by omega)
    rw [← e63] at e4
    rw [e3, e4]
    have e5 : (X + q - 18446744073709551616) / 2 + 2 ^ 63 = (X + q) / 2 := by omega
    have e6 : (X + q - 18446744073709551616) % 2 = (X + q) % 2 := by omega
    rw [e5, e6, nearG_eq neg _ (x + 1) _ (by omega) (by omega) (by omega) (by omega)]
    have m := near2_merge neg ((X + q) / 2) ((X + q) % 2) 1 lost x (by omega) (by omega)
    have e7 : (X + q) / 2 * 2 ^ 1 + (X + q) % 2 = X + q := by omega
    rw [e7] at m
    rw [m]; rfl

theorem addD_core (neg : Bool) (X q : Nat) (lost : Bool) (x : Int) (h0 : 9223372036854775808 ≤ X) (h1 : X < 18446744073709551616) (hq : q ≤ X) (hl : lost = true → q ≤ 4503599627370496) (hx0 : -6000 ≤ x) (hx1 : x ≤ 6000) :
    addD neg (X : Int) x (q : Int) lost = if X - q - lost.toNat = 0 then 0 else ((near2 neg (X - q - lost.toNat) lost x : Nat) : Int) := by
  have hM : subM (X : Int) (q : Int) lost = ((X - q - lost.toNat : Nat) : Int) := by
    unfold subM
    cases lost
    · simp only [Bool.toNat_false, Bool.false_eq_true, if_false]
      rw [u64_id ⟨by omega, by omega⟩]; omega
    · have := hl rfl
      simp only [Bool.toNat_true, if_true]
      rw [u64_id (x := (X : Int) - q) ⟨by omega, by omega⟩, u64_id ⟨by omega, by omega⟩]; omega
  unfold addD
  rw [hM]
  have hsm : X - q - lost.toNat < 18446744073709551616 := by omega
  have big : lost = true → 4611686018427387904 ≤ X - q - lost.toNat := fun h => by have := hl h; subst h; simp only [Bool.toNat_true]; omega
  generalize X - q - lost.toNat = M at *
  by_cases hz : M = 0
  · subst hz; rw [if_pos (by decide), if_pos rfl]
  · rw [if_neg (by rw [beq_iff_eq]; omega), if_neg hz]
    have hu : U64 (M : Int) := ⟨by omega, by omega⟩
    have hlz := lz_eq hu (by omega)
    rw [Int.toNat_natCast] at hlz
    have g1 : M.log2 < 64 := (Nat.log2_lt hz).2 (by omega)
    have g2 := log2_lo hz
    have g3 := log2_hi hz
    have hK := Nat.two_pow_pos (63 - M.log2)
    have e63' : 2 ^ M.log2 * 2 ^ (63 - M.log2) = 9223372036854775808 := by rw [← Nat.pow_add, show M.log2 + (63 - M.log2) = 63 from by omega]
    have lo : 9223372036854775808 ≤ M * 2 ^ (63 - M.log2) := by
      have := Nat.mul_le_mul_right (2 ^ (63 - M.log2)) g2; omega
    have hi : M * 2 ^ (63 - M.log2) < 18446744073709551616 := by
      have := Nat.mul_lt_mul_of_pos_right g3 hK
      rw [Nat.pow_succ, Nat.mul_comm (2 ^ M.log2) 2, Nat.mul_assoc, e63'] at this; omega
    have elz : (lz (M : Int)).toNat = 63 - M.log2 := by omega
    have es : shlG (M : Int) = ((M * 2 ^ (63 - M.log2) : Nat) : Int) := by
      unfold shlG
      rw [elz, cpow, ← Int.natCast_mul, u64_id ⟨Int.natCast_nonneg _, by omega⟩]
    rw [es, nearG_eq neg _ _ lost lo hi (by omega) (by omega)]
    have ex : x - lz (M : Int) + ((63 - M.log2 : Nat) : Int) = x := by omega
    cases lost
    · rw [near2_scale neg M (63 - M.log2) _ hz, ex]
    · have := big rfl
      have m := near2_merge neg M 0 (63 - M.log2) true (x - lz (M : Int)) (by omega) hK
      rw [Nat.add_zero, ex] at m
      rw [m]; rfl

/-- the value of a signed sum, in units of the lower place -/
theorem same_sum (X Y d : Nat) : X * 2 ^ d + Y = (X + Y / 2 ^ d) * 2 ^ d + Y % 2 ^ d := by
  have := Nat.div_add_mod Y (2 ^ d)
  rw [Nat.add_mul, Nat.mul_comm (Y / 2 ^ d)]; omega

theorem addG_same (neg : Bool) (X Y : Nat) (x y : Int) (h0 : 9223372036854775808 ≤ X) (h1 : X < 18446744073709551616) (hY0 : Y ≠ 0) (hY : Y < 18446744073709551616) (hd : y ≤ x) (hx0 : -6000 ≤ x) (hx1 : x ≤ 6000) :
    addG neg (X : Int) x neg (Y : Int) y = ((near2 neg (X * 2 ^ (x - y).toNat + Y) false y : Nat) : Int) := by
  unfold addG
  rw [if_pos (by simp)]
  generalize hd' : (x - y).toNat = d
  have ex : y + (d : Int) = x := by omega
  have hr := Nat.mod_lt Y (Nat.two_pow_pos d)
  have key : near2 neg (X * 2 ^ d + Y) false y = near2 neg (X + Y / 2 ^ d) (decide (Y % 2 ^ d ≠ 0)) x := by
    have m := near2_merge neg (X + Y / 2 ^ d) (Y % 2 ^ d) d false y (Nat.le_trans (show 2 ^ 53 ≤ X by omega) (Nat.le_add_right _ _)) hr
    rw [← same_sum, ex, Bool.false_or] at m
    exact m
  rw [key]
  have hq : Y / 2 ^ d ≤ Y := Nat.div_le_self _ _
  by_cases hc : x - y < 64
  · rw [if_pos hc, lessG_nat Y d _ hd', lostG_nat Y d _ hd' hY]
    exact addS_core neg X _ _ x h0 h1 (by omega) hx0 hx1
  · rw [if_neg hc]
    have hp : 2 ^ 64 ≤ 2 ^ d := Nat.pow_le_pow_right (by omega) (by omega)
    have q0 : Y / 2 ^ d = 0 := Nat.div_eq_of_lt (by omega)
    have r0 : Y % 2 ^ d = Y := Nat.mod_eq_of_lt (by omega)
    rw [q0, r0, decide_eq_true hY0]
    exact addS_core neg X 0 true x h0 h1 (by omega) hx0 hx1

theorem addG_diff (neg : Bool) (X Y : Nat) (x y : Int) (h0 : 9223372036854775808 ≤ X) (h1 : X < 18446744073709551616) (hY0 : Y ≠ 0) (hY : Y < 18446744073709551616) (hYl : Y % 2048 = 0) (hd : y ≤ x) (hx0 : -6000 ≤ x) (hx1 : x ≤ 6000)
    (hge : Y ≤ X * 2 ^ (x - y).toNat) :
    addG neg (X : Int) x (!neg) (Y : Int) y = if X * 2 ^ (x - y).toNat - Y = 0 then 0 else ((near2 neg (X * 2 ^ (x - y).toNat - Y) false y : Nat) : Int) := by
  unfold addG
  rw [if_neg (by simp)]
  generalize hd' : (x - y).toNat = d at *
  have ex : y + (d : Int) = x := by omega
  have hp := Nat.two_pow_pos d
  have hr := Nat.mod_lt Y hp
  have hdm := Nat.div_add_mod Y (2 ^ d)
  rw [Nat.mul_comm] at hdm
  -- both ways of taking the parts
  have parts : (if x - y < 64 then addD neg (X : Int) x (lessG (Y : Int) (x - y)) (lostG (Y : Int) (x - y)) else addD neg (X : Int) x 0 true) = addD neg (X : Int) x ((Y / 2 ^ d : Nat) : Int) (decide (Y % 2 ^ d ≠ 0)) := by
    by_cases hc : x - y < 64
    · rw [if_pos hc, lessG_nat Y d _ hd', lostG_nat Y d _ hd' hY]
    · rw [if_neg hc]
      have hp : 2 ^ 64 ≤ 2 ^ d := Nat.pow_le_pow_right (by omega) (by omega)
      have q0 : Y / 2 ^ d = 0 := Nat.div_eq_of_lt (by omega)
      have r0 : Y % 2 ^ d = Y := Nat.mod_eq_of_lt (by omega)
      rw [q0, r0, decide_eq_true hY0]; rfl
  rw [parts]
  have hqX : Y / 2 ^ d ≤ X := by
    have : Y / 2 ^ d * 2 ^ d ≤ X * 2 ^ d := by omega
    exact Nat.le_of_mul_le_mul_right this hp
  generalize hq : Y / 2 ^ d = q at *
  generalize hrr : Y % 2 ^ d = r at *
  by_cases hr0 : r = 0
  · subst hr0
    have dr : decide ((0 : Nat) ≠ 0) = false := by decide
    rw [dr, addD_core neg X q false x h0 h1 hqX (by simp) hx0 hx1]
    have eY : X * 2 ^ d - Y = (X - q) * 2 ^ d := by rw [Nat.mul_sub_right_distrib]; omega
    rw [eY]
    simp only [Bool.toNat_false, Nat.sub_zero]
    by_cases hz : X - q = 0
    · rw [hz]; simp
    · rw [if_neg hz, if_neg (Nat.mul_ne_zero hz (by omega)), near2_scale neg _ d y hz, ex]
  · have dr : decide (r ≠ 0) = true := decide_eq_true hr0
    -- the places that are lost lie deep
    have hd12 : 12 ≤ d := by
      rcases Nat.lt_or_ge d 12 with hlt | hge'
      · exfalso; apply hr0
        have : 2 ^ d ∣ Y := by
          have h2 : 2 ^ d ∣ 2 ^ 11 := Nat.pow_dvd_pow 2 (by omega)
          have h3 : 2 ^ 11 ∣ Y := Nat.dvd_of_mod_eq_zero hYl
          exact Nat.dvd_trans h2 h3
        rw [← hrr]; exact Nat.mod_eq_zero_of_dvd this
      · exact hge'
    have hq52 : q ≤ 4503599627370496 := by
      have : Y / 2 ^ d ≤ Y / 2 ^ 12 := Nat.div_le_div_left (Nat.pow_le_pow_right (by omega) hd12) (by decide)
      omega
    rw [dr, addD_core neg X q true x h0 h1 hqX (fun _ => hq52) hx0 hx1]
    simp only [Bool.toNat_true]
    have hM : 4611686018427387904 ≤ X - q - 1 := by omega
    have eY : X * 2 ^ d - Y = (X - q - 1) * 2 ^ d + (2 ^ d - r) := by
      have e1 : (X - q - 1) * 2 ^ d = X * 2 ^ d - q * 2 ^ d - 2 ^ d := by rw [Nat.mul_sub_right_distrib, Nat.mul_sub_right_distrib, Nat.one_mul]
      have e2 : (X - q) * 2 ^ d = X * 2 ^ d - q * 2 ^ d := Nat.mul_sub_right_distrib _ _ _
      have e3 : 1 * 2 ^ d ≤ (X - q) * 2 ^ d := Nat.mul_le_mul_right _ (by omega)
      omega
    have m := near2_merge neg (X - q - 1) (2 ^ d - r) d false y (by omega) (by omega)
    rw [← eY, ex, Bool.false_or, decide_eq_true (show 2 ^ d - r ≠ 0 by omega)] at m
    have hne : X * 2 ^ d - Y ≠ 0 := by omega
    rw [if_neg (by omega), if_neg hne, m]
end Fp
namespace Fp
open Go Go.RowKit Ieee
set_option linter.unusedVariables false
set_option linter.unusedSimpArgs false

theorem sgn_sz {a : Int} (h : U64 a) : sgnG (ngb a) (sz a) = a := by
  have h0 := h.lo
  have h1 := h.hi
  have es := sz_eq h
  rw [sgn_eq (by omega) (by omega)]
  unfold ngb
  by_cases hc : 9223372036854775808 ≤ a
  · rw [decide_eq_true hc, if_pos rfl]; omega
  · rw [decide_eq_false hc, if_neg (by decide)]; omega

/-- m * 2^p, m below 2^53, p not too low: its word's rung. -/
theorem near2_small (neg : Bool) (m : Nat) (p : Int) (hm : m ≠ 0) (hm2 : m < 9007199254740992) (hp : -1074 ≤ p) (hp2 : p + m.log2 ≤ 1023) :
    ∃ L : Int, L = max (p + m.log2 - 52) (-1074) ∧ L ≤ p ∧ m * 2 ^ (p - L).toNat < 9007199254740992 ∧ (-1074 < L → 4503599627370496 ≤ m * 2 ^ (p - L).toNat) ∧ L ≤ 971 ∧
      near2 neg m false p = double.word neg ((L + 1074).toNat * 4503599627370496 + m * 2 ^ (p - L).toNat) := by
  have hl : m.log2 < 53 := (Nat.log2_lt hm).2 (by omega)
  have g2 := log2_lo hm
  have g3 := log2_hi hm
  obtain ⟨L, hL⟩ : ∃ L : Int, L = max (p + m.log2 - 52) (-1074) := ⟨_, rfl⟩
  have hLp : L ≤ p := by omega
  have e53 : 2 ^ (m.log2 + 1) * 2 ^ (52 - m.log2) = 9007199254740992 := by rw [← Nat.pow_add, show m.log2 + 1 + (52 - m.log2) = 53 from by omega]
  have e52 : 2 ^ m.log2 * 2 ^ (52 - m.log2) = 4503599627370496 := by rw [← Nat.pow_add, show m.log2 + (52 - m.log2) = 52 from by omega]
  have hi : m * 2 ^ (p - L).toNat < 9007199254740992 := by
    have h1 : 2 ^ (p - L).toNat ≤ 2 ^ (52 - m.log2) := Nat.pow_le_pow_right (by omega) (by omega)
    have h2 := Nat.mul_le_mul_left m h1
    have h3 := Nat.mul_lt_mul_of_pos_right g3 (Nat.two_pow_pos (52 - m.log2))
    omega
  have lo : -1074 < L → 4503599627370496 ≤ m * 2 ^ (p - L).toNat := fun h => by
    have h1 : (p - L).toNat = 52 - m.log2 := by omega
    rw [h1]
    have := Nat.mul_le_mul_right (2 ^ (52 - m.log2)) g2
    omega
  refine ⟨L, hL, hLp, hi, lo, by omega, ?_⟩
  unfold near2
  rw [← hL, infRung_d]
  have s0 : (L - p).toNat = 0 := by omega
  have k3 : (2 : Nat) ^ 52 = 4503599627370496 := by decide
  rw [s0, rne_zero, k3]
  obtain ⟨b, hb⟩ : ∃ b : Nat, L + 1074 = (b : Int) := ⟨(L + 1074).toNat, by omega⟩
  have hb2 : b ≤ 2045 := by omega
  have e4 : (L + 1074).toNat = b := by omega
  rw [e4]
  generalize m * 2 ^ (p - L).toNat = M at *
  rw [Nat.min_eq_left (by omega)]

theorem word_int (neg : Bool) (r : Nat) (h : r < 9223372036854775808) : U64 ((double.word neg r : Nat) : Int) ∧ sz ((double.word neg r : Nat) : Int) = r ∧ ngb ((double.word neg r : Nat) : Int) = neg := by
  have sw : double.signWeight = 9223372036854775808 := by decide
  unfold Format.word
  rw [sw]
  cases neg
  · have hu : U64 (r : Int) := ⟨by omega, by omega⟩
    refine ⟨by simpa using hu, ?_, ?_⟩
    · simp only [Bool.false_eq_true, if_false]; rw [sz_eq hu]; omega
    · simp only [Bool.false_eq_true, if_false]; exact decide_eq_false (by omega)
  · have hu : U64 ((9223372036854775808 + r : Nat) : Int) := ⟨by omega, by omega⟩
    refine ⟨by simpa using hu, ?_, ?_⟩
    · simp only [if_true]; rw [sz_eq hu]; omega
    · simp only [if_true]; exact decide_eq_true (by omega)

/-- m * 2^p as a word: what it reads as. -/
theorem small_read (neg : Bool) (m : Nat) (p : Int) (hm : m ≠ 0) (hm2 : m < 9007199254740992) (hp : -1074 ≤ p) (hp2 : p + m.log2 ≤ 1023) :
    U64 ((near2 neg m false p : Nat) : Int) ∧ ngb ((near2 neg m false p : Nat) : Int) = neg ∧ ¬ sz ((near2 neg m false p : Nat) : Int) = 0 ∧ sz ((near2 neg m false p : Nat) : Int) < 9218868437227405312 ∧
    oman ((near2 neg m false p : Nat) : Int) = ((m * 2 ^ (63 - m.log2) : Nat) : Int) ∧ oexp ((near2 neg m false p : Nat) : Int) = p - ((63 - m.log2 : Nat) : Int) := by
  obtain ⟨L, hL, hLp, hi, lo, hL2, e⟩ := near2_small neg m p hm hm2 hp hp2
  have hl : m.log2 < 53 := (Nat.log2_lt hm).2 (by omega)
  have g2 := log2_lo hm
  have g3 := log2_hi hm
  obtain ⟨b, hb⟩ : ∃ b : Nat, L + 1074 = (b : Int) := ⟨(L + 1074).toNat, by omega⟩
  have hb2 : b ≤ 2045 := by omega
  have e4 : (L + 1074).toNat = b := by omega
  rw [e4] at e
  have lgM : (m * 2 ^ (p - L).toNat).log2 = m.log2 + (p - L).toNat := by simpa using log2_merge m 0 (p - L).toNat hm (Nat.two_pow_pos _)
  have hMpos : m * 2 ^ (p - L).toNat ≠ 0 := Nat.mul_ne_zero hm (Nat.ne_of_gt (Nat.two_pow_pos _))
  have back : ∀ j : Nat, m * 2 ^ (p - L).toNat * 2 ^ j = m * 2 ^ ((p - L).toNat + j) := fun j => by rw [Nat.mul_assoc, ← Nat.pow_add]
  generalize hM : m * 2 ^ (p - L).toNat = M at *
  obtain ⟨hu, hs, hn⟩ := word_int neg (b * 4503599627370496 + M) (by omega)
  rw [← e] at hu hs hn
  generalize ((near2 neg m false p : Nat) : Int) = a at *
  have hz : ¬ sz a = 0 := by rw [hs]; omega
  have hfin : sz a < 9218868437227405312 := by rw [hs]; omega
  refine ⟨hu, hn, hz, hfin, ?_⟩
  have em := mant_eq hu
  have ee := eb_eq hu
  have es := sz_eq hu
  -- what it reads as
  have hmant : mant a = (M : Int) ∧ pl a = L := by
    unfold pl
    by_cases hbM : M < 4503599627370496
    · have hb0 : b = 0 := by
        rcases Nat.eq_zero_or_pos b with h | h
        · exact h
        · have := lo (by omega); omega
      subst hb0
      have k : ¬ 0 < eb a := by rw [ee]; omega
      rw [if_neg k, em, if_neg k]; omega
    · have k : 0 < eb a := by rw [ee]; omega
      rw [if_pos k, em, if_pos k, ee]; omega
  obtain ⟨h1, h2⟩ := hmant
  have op := opened hu hz
  have hm64 := mant_u64 hu
  have hlz := lz_eq hm64 (by omega)
  rw [h1, Int.toNat_natCast] at hlz
  have hpos : (p - L).toNat + (63 - M.log2) = 63 - m.log2 := by omega
  refine ⟨?_, ?_⟩
  · rw [op.eq, h1, hlz]
    have : ((63 : Int) - (M.log2 : Int)).toNat = 63 - M.log2 := by omega
    rw [this, cpow, ← Int.natCast_mul, back, hpos]
  · rw [op.ex, h1, h2, hlz]; omega

/-- a word is the nearest to what it stands for. -/
theorem self_near {a : Int} (h : U64 a) (hz : ¬ sz a = 0) (hf : sz a < 9218868437227405312) : ((near2 (ngb a) (oman a).toNat false (oexp a) : Nat) : Int) = a := by
  have op := opened h hz
  obtain ⟨n, hn⟩ := Int.eq_ofNat_of_zero_le (Int.le_of_lt op.pos)
  have hn0 : n ≠ 0 := by have := op.pos; omega
  have hsm : n < 9007199254740992 := by have := op.small; omega
  have e1 : (oman a).toNat = n * 2 ^ (lz (mant a)).toNat := by
    rw [op.eq, hn, cpow, ← Int.natCast_mul, Int.toNat_natCast]
  have e2 : oexp a + ((lz (mant a)).toNat : Int) = pl a := by have := op.ex; have := op.l0; omega
  rw [e1, near2_scale _ _ _ _ hn0, e2]
  have em := mant_eq h
  have ee := eb_eq h
  have es := sz_eq h
  have hpl : -1074 ≤ pl a ∧ pl a ≤ 971 := by unfold pl; split <;> omega
  have hlog : n.log2 < 53 := (Nat.log2_lt hn0).2 (by omega)
  have hlogn : 0 < eb a → n.log2 = 52 := fun hk => by
    refine log2_eq ?_ ?_ <;> · have := em; rw [if_pos hk] at this; omega
  have hp2 : pl a + n.log2 ≤ 1023 := by omega
  obtain ⟨L, hL, hLp, hi, lo, hL2, e⟩ := near2_small (ngb a) n (pl a) hn0 hsm hpl.1 hp2
  rw [e]
  have hLeq : L = pl a := by
    unfold pl at hL ⊢
    by_cases hk : 0 < eb a
    · have := hlogn hk
      rw [if_pos hk] at hL ⊢; omega
    · rw [if_neg hk] at hL ⊢; omega
  have z : (pl a - L).toNat = 0 := by omega
  rw [z, Nat.pow_zero, Nat.mul_one, hLeq]
  have hr : (((pl a + 1074).toNat * 4503599627370496 + n : Nat) : Int) = sz a := by
    unfold pl
    by_cases hk : 0 < eb a
    · rw [if_pos hk]; rw [if_pos hk] at em
      have : (eb a - 1075 + 1074).toNat = (eb a).toNat - 1 := by omega
      rw [this, es]; omega
    · rw [if_neg hk]; rw [if_neg hk] at em
      have : ((-1074 : Int) + 1074).toNat = 0 := by decide
      rw [this, es]; omega
  rw [← sgn_word _ _ (by omega), hr, sgn_sz h]
end Fp
namespace Fp
open Go Go.RowKit Ieee
set_option linter.unusedVariables false
set_option linter.unusedSimpArgs false

theorem shl_eq (M : Nat) (hz : M ≠ 0) (hM : M < 18446744073709551616) :
    shlG (M : Int) = ((M * 2 ^ (63 - M.log2) : Nat) : Int) ∧ 9223372036854775808 ≤ M * 2 ^ (63 - M.log2) ∧ M * 2 ^ (63 - M.log2) < 18446744073709551616 ∧ lz (M : Int) = ((63 - M.log2 : Nat) : Int) := by
  have hu : U64 (M : Int) := ⟨by omega, by omega⟩
  have hlz := lz_eq hu (by omega)
  rw [Int.toNat_natCast] at hlz
  have g1 : M.log2 < 64 := (Nat.log2_lt hz).2 (by omega)
  have g2 := log2_lo hz
  have g3 := log2_hi hz
  have hK := Nat.two_pow_pos (63 - M.log2)
  have e63' : 2 ^ M.log2 * 2 ^ (63 - M.log2) = 9223372036854775808 := by rw [← Nat.pow_add, show M.log2 + (63 - M.log2) = 63 from by omega]
  have lo : 9223372036854775808 ≤ M * 2 ^ (63 - M.log2) := by
    have := Nat.mul_le_mul_right (2 ^ (63 - M.log2)) g2; omega
  have hi : M * 2 ^ (63 - M.log2) < 18446744073709551616 := by
    have := Nat.mul_lt_mul_of_pos_right g3 hK
    rw [Nat.pow_succ, Nat.mul_comm (2 ^ M.log2) 2, Nat.mul_assoc, e63'] at this; omega
  have elz : (lz (M : Int)).toNat = 63 - M.log2 := by omega
  refine ⟨?_, lo, hi, by omega⟩
  unfold shlG
  rw [elz, cpow, ← Int.natCast_mul, u64_id ⟨Int.natCast_nonneg _, by omega⟩]

theorem nearN_false (M : Nat) (e : Int) (hz : M ≠ 0) (hM : M < 18446744073709551616) (h0 : -6000 ≤ e) (h1 : e ≤ 6000) :
    nearN (M : Int) e false = ((near2 false M false e : Nat) : Int) := by
  obtain ⟨es, lo, hi, el⟩ := shl_eq M hz hM
  have g1 : M.log2 < 64 := (Nat.log2_lt hz).2 (by omega)
  unfold nearN
  rw [if_neg (by simp), es, nearG_eq false _ _ false lo hi (by omega) (by omega), near2_scale _ _ _ _ hz]
  have : e - lz (M : Int) + ((63 - M.log2 : Nat) : Int) = e := by omega
  rw [this]

theorem nearN_true (M : Nat) (e : Int) (hz : M ≠ 0) (hM : M < 18446744073709551616) (h0 : -6000 ≤ e) (h1 : e ≤ 6000) :
    nearN (M : Int) e true = if M < 9223372036854775808 then ((near2 false (2 * M + 1) false (e - 1) : Nat) : Int) else ((near2 false M true e : Nat) : Int) := by
  obtain ⟨es, lo, hi, el⟩ := shl_eq M hz hM
  have g1 : M.log2 < 64 := (Nat.log2_lt hz).2 (by omega)
  have g2 := log2_lo hz
  have g3 := log2_hi hz
  unfold nearN
  by_cases hc : M < 9223372036854775808
  · have hl : M.log2 < 63 := (Nat.log2_lt hz).2 (by omega)
    rw [if_pos ⟨rfl, by omega⟩, if_pos hc]
    unfold orG
    have e1 : (lz (M : Int)).toNat - 1 = 62 - M.log2 := by omega
    have p2 : 2 ^ (62 - M.log2) * 2 = 2 ^ (63 - M.log2) := by rw [← Nat.pow_succ]; congr 1; omega
    have p3 : 2 ^ (62 - M.log2) ≤ 2 ^ 62 := Nat.pow_le_pow_right (by omega) (by omega)
    have hK := Nat.two_pow_pos (62 - M.log2)
    rw [es, e1, cpow, u64_id ⟨Int.natCast_nonneg _, by omega⟩, bits_or64 _ _ hi (by omega)]
    have hor : M * 2 ^ (63 - M.log2) ||| 2 ^ (62 - M.log2) = M * 2 ^ (63 - M.log2) + 2 ^ (62 - M.log2) := by
      have h := Nat.two_pow_add_eq_or_of_lt (i := 63 - M.log2) (b := 2 ^ (62 - M.log2)) (by omega) M
      rw [Nat.mul_comm M, ← h]
    rw [hor]
    have hM2 : M * 2 ^ (63 - M.log2) + 2 ^ (62 - M.log2) = (2 * M + 1) * 2 ^ (62 - M.log2) := by
      rw [Nat.add_mul, ← p2, Nat.one_mul]; congr 1
      rw [Nat.mul_comm (2 ^ (62 - M.log2)) 2, ← Nat.mul_assoc, Nat.mul_comm M 2]
    have hlt : (2 * M + 1) * 2 ^ (62 - M.log2) < 18446744073709551616 := by
      have h2 : 2 * M + 1 < 2 ^ (M.log2 + 2) := by rw [Nat.pow_succ]; omega
      have h3 := Nat.mul_lt_mul_of_pos_right h2 hK
      have h4 : 2 ^ (M.log2 + 2) * 2 ^ (62 - M.log2) = 18446744073709551616 := by rw [← Nat.pow_add, show M.log2 + 2 + (62 - M.log2) = 64 from by omega]
      omega
    rw [hM2, nearG_eq false _ _ false (by omega) hlt (by omega) (by omega), near2_scale _ _ _ _ (by omega)]
    have : e - lz (M : Int) + ((62 - M.log2 : Nat) : Int) = e - 1 := by omega
    rw [this]
  · have hl : M.log2 = 63 := log2_63 (by omega) hM
    rw [if_neg (by omega), if_neg hc, es]
    have : M * 2 ^ (63 - M.log2) = M := by rw [hl]; simp
    rw [this, el, hl, nearG_eq false M _ true (by omega) hM (by omega) (by omega)]
    simp

def rung (n : Nat) (h : Bool) (p : Int) : Nat :=
  min ((max (p + n.log2 - 52) (-1074) + 1074).toNat * 2 ^ 52 + rne (n * 2 ^ (p - max (p + n.log2 - 52) (-1074)).toNat) h (max (p + n.log2 - 52) (-1074) - p).toNat) double.infRung
theorem near2_word (neg : Bool) (n : Nat) (h : Bool) (p : Int) : near2 neg n h p = double.word neg (rung n h p) := by
  unfold near2 rung; exact Eq.refl _
theorem rung_le (n : Nat) (h : Bool) (p : Int) : rung n h p ≤ 9218868437227405312 := by
  unfold rung; rw [← infRung_d]; exact Nat.min_le_right _ _
theorem near2_neg (n : Nat) (h : Bool) (p : Int) : ((near2 true n h p : Nat) : Int) = sgnG true ((near2 false n h p : Nat) : Int) := by
  rw [near2_word, near2_word]
  have hlt : rung n h p < 9223372036854775808 := Nat.lt_of_le_of_lt (rung_le n h p) (by decide)
  generalize rung n h p = r at *
  have e : double.word false r = r := by unfold Format.word; simp
  rw [← sgn_word true r hlt, e]

/-- FromInt is the nearest. -/
theorem FromInt_eq (n : Int) (h0 : -9223372036854775808 ≤ n) (h1 : n < 9223372036854775808) (hz : n ≠ 0) :
    FromIntG n = ((near2 (decide (n < 0)) n.natAbs false 0 : Nat) : Int) := by
  have c0 : cl 0 = 0 := by decide
  have key : ∀ m : Nat, m ≠ 0 → m < 18446744073709551616 → NearG (m : Int) 0 false = ((near2 false m false 0 : Nat) : Int) := fun m hm hm2 => by
    unfold NearG
    rw [if_neg (by omega), c0, nearN_false m 0 hm hm2 (by omega) (by omega)]
  unfold FromIntG
  by_cases hn : n < 0
  · rw [if_pos hn, decide_eq_true hn]
    have e : IntKind.u64.wrap (-IntKind.u64.wrap n) = (n.natAbs : Int) := by rw [u64_wrap, u64_wrap]; omega
    rw [e, key _ (by omega) (by omega), near2_neg]
  · rw [if_neg hn, decide_eq_false hn]
    have e : n = (n.natAbs : Int) := by omega
    rw [e, key _ (by omega) (by omega)]
    simp
theorem FromInt_zero : FromIntG 0 = 0 := by decide

theorem wrap64_id {n : Int} (h0 : -9223372036854775808 ≤ n) (h1 : n < 9223372036854775808) : wrap64 n = n := by unfold wrap64; omega

theorem kind_some {a : Int} (hz : ¬ sz a = 0) (hf : sz a < 9218868437227405312) : kindS a = 1 := by rw [kindS, if_neg hz, if_pos hf]

theorem wholeV_eq {a q : Int} (h : oman a / 2 ^ (-oexp a).toNat = q) (h0 : 0 ≤ q) (h1 : q < 9007199254740992) : wholeV a = if ngb a = true then -q else q := by
  unfold wholeV
  rw [h]
  cases ngb a
  · simp only [Bool.false_eq_true, if_false]; exact wrap64_id (by omega) (by omega)
  · simp only [if_true]; rw [wrap64_id (n := q) (by omega) (by omega)]; exact wrap64_id (by omega) (by omega)
/-- Whole, of an opened form that is a whole number. -/
theorem whole_of {a : Int} (hu : U64 a) (hz : ¬ sz a = 0) (hf : sz a < 9218868437227405312) (m : Nat) (hm : m ≠ 0) (hm2 : m < 9007199254740992)
    (ho : oman a = ((m * 2 ^ (63 - m.log2) : Nat) : Int)) (he : oexp a = -((63 - m.log2 : Nat) : Int)) :
    WholeG a = (if ngb a then -(m : Int) else (m : Int), true) := by
  have hl : m.log2 < 53 := (Nat.log2_lt hm).2 (by omega)
  have ha : a ≠ 0 := by intro h; apply hz; rw [sz_eq hu, h]; rfl
  unfold WholeG
  have c3 : IntKind.u64.wrap (oman a * 2 ^ (64 + oexp a).toNat) = 0 := by
    have e1 : (64 + oexp a).toNat = m.log2 + 1 := by omega
    have e2 : m * 2 ^ (63 - m.log2) * 2 ^ (m.log2 + 1) = m * 18446744073709551616 := by
      rw [Nat.mul_assoc, ← Nat.pow_add, show 63 - m.log2 + (m.log2 + 1) = 64 from by omega]
    rw [e1, ho, cpow, ← Int.natCast_mul, e2, u64_wrap]
    omega
  rw [if_neg ha, if_neg (by simp [kind_some hz hf]), if_neg (by rw [c3]; omega)]
  have e1 : (-oexp a).toNat = 63 - m.log2 := by omega
  have e2 : oman a / 2 ^ (-oexp a).toNat = (m : Int) := by
    rw [e1, ho, cpow, ← Int.natCast_ediv, Nat.mul_div_cancel _ (Nat.two_pow_pos _)]
  rw [wholeV_eq e2 (by omega) (by omega)]

/-- a whole number below 2^53 in size, as a word, and back. -/
theorem Whole_FromInt (n : Int) (h0 : -9007199254740992 < n) (h1 : n < 9007199254740992) : WholeG (FromIntG n) = (n, true) := by
  by_cases hz : n = 0
  · subst hz; rw [FromInt_zero]; rfl
  · rw [FromInt_eq n (by omega) (by omega) hz]
    have hm : n.natAbs ≠ 0 := by omega
    have hl : n.natAbs.log2 < 53 := (Nat.log2_lt hm).2 (by omega)
    obtain ⟨hu, hn, hs, hf, ho, he⟩ := small_read (decide (n < 0)) n.natAbs 0 hm (by omega) (by omega) (by omega)
    rw [whole_of hu hs hf n.natAbs hm (by omega) ho (by omega), hn]
    by_cases hc : n < 0
    · rw [decide_eq_true hc, if_pos rfl]; congr 1; omega
    · rw [decide_eq_false hc, if_neg (by decide)]; congr 1; omega

/-- what Whole finds is the word's number. -/
theorem FromInt_Whole {a : Int} (hu : U64 a) (hw : (WholeG a).2 = true) : FromIntG (WholeG a).1 = a ∧ -9007199254740992 < (WholeG a).1 ∧ (WholeG a).1 < 9007199254740992 := by
  unfold WholeG at hw ⊢
  by_cases h0 : a = 0
  · rw [if_pos h0]; subst h0; exact ⟨FromInt_zero, by decide, by decide⟩
  · rw [if_neg h0] at hw ⊢
    by_cases hk : kindS a = 1
    · rw [if_neg (by simp [hk])] at hw ⊢
      by_cases hc : (oexp a + 63 < 0 ∨ 52 < oexp a + 63) ∨ IntKind.u64.wrap (oman a * 2 ^ (64 + oexp a).toNat) ≠ 0
      · rw [if_pos hc] at hw; simp at hw
      · rw [if_neg hc]
        have c1 : 0 ≤ oexp a + 63 ∧ oexp a + 63 ≤ 52 := by omega
        have c3 : IntKind.u64.wrap (oman a * 2 ^ (64 + oexp a).toNat) = 0 := Decidable.not_not.mp fun h => hc (.inr h)
        rcases kind_cases a with h | ⟨_, hz, hf⟩ | h | h <;> try (exfalso; omega)
        have op := opened hu hz
        have lo := op.lo
        have hi := op.hi
        obtain ⟨X, hX⟩ := Int.eq_ofNat_of_zero_le (show 0 ≤ oman a by omega)
        obtain ⟨s, hs⟩ : ∃ s : Nat, oexp a = -(s : Int) := ⟨(-oexp a).toNat, by omega⟩
        have hs2 : 11 ≤ s ∧ s ≤ 63 := by omega
        have e1 : (64 + oexp a).toNat = 64 - s := by omega
        have e2 : (-oexp a).toNat = s := by omega
        rw [e1, hX, wrap_shift X s (by omega)] at c3
        have hK := Nat.two_pow_pos (64 - s)
        have hS := Nat.two_pow_pos s
        have hmod : X % 2 ^ s = 0 := by
          rcases Nat.mul_eq_zero.1 (by omega : X % 2 ^ s * 2 ^ (64 - s) = 0) with h | h
          · exact h
          · omega
        have hdm := Nat.div_add_mod X (2 ^ s)
        rw [hmod, Nat.add_zero, Nat.mul_comm] at hdm
        have hk0 : X / 2 ^ s < 9007199254740992 := by
          have h11 : 2 ^ 11 ≤ 2 ^ s := Nat.pow_le_pow_right (by omega) hs2.1
          have := Nat.div_le_div_left h11 (by decide) (a := X)
          omega
        have hkp : X / 2 ^ s ≠ 0 := by
          intro h
          rw [h] at hdm; omega
        have e3 : oman a / 2 ^ (-oexp a).toNat = ((X / 2 ^ s : Nat) : Int) := by rw [e2, hX, cpow, ← Int.natCast_ediv]
        generalize X / 2 ^ s = q at *
        have hv := wholeV_eq e3 (by omega) (by omega)
        have hself := self_near hu hz hf
        rw [hX, Int.toNat_natCast, ← hdm, near2_scale _ _ _ _ hkp, hs] at hself
        have z : -(s : Int) + (s : Int) = 0 := by omega
        rw [z] at hself
        show FromIntG (wholeV a) = a ∧ _ ∧ _
        cases hng : ngb a
        · rw [hng] at hv hself
          simp only [Bool.false_eq_true, if_false] at hv
          rw [hv]
          refine ⟨?_, by omega, by omega⟩
          rw [FromInt_eq _ (by omega) (by omega) (by omega), decide_eq_false (by omega), Int.natAbs_natCast]
          exact hself
        · rw [hng] at hv hself
          simp only [if_true] at hv
          rw [hv]
          refine ⟨?_, by omega, by omega⟩
          rw [FromInt_eq _ (by omega) (by omega) (by omega), decide_eq_true (by omega), Int.natAbs_neg, Int.natAbs_natCast]
          exact hself
    · rw [if_pos hk] at hw; simp at hw
end Fp
