/- Plain facts on rounding: what the model's binary64 rounding is, and that what lies below may be told by one bit. -/
import Ieee.Arith
namespace Fp
open Ieee
set_option linter.unusedVariables false
set_option linter.unusedSimpArgs false

theorem pow_pos (n : Nat) : 0 < 2 ^ n := Nat.two_pow_pos n

/-- n / 2^s to the nearest, ties to even; h: there is something more below. -/
def rne (n : Nat) (h : Bool) (s : Nat) : Nat :=
  n / 2 ^ s + (if 2 ^ s < 2 * (n % 2 ^ s) ∨ (2 ^ s = 2 * (n % 2 ^ s) ∧ (h = true ∨ n / 2 ^ s % 2 = 1)) then 1 else 0)

theorem rne_zero (n : Nat) (h : Bool) : rne n h 0 = n := by
  unfold rne; simp [Nat.mod_one]

theorem log2_lt' {n k : Nat} (hn : n ≠ 0) : n.log2 < k ↔ n < 2 ^ k := Nat.log2_lt hn

theorem le_log2' {n k : Nat} (hn : n ≠ 0) : k ≤ n.log2 ↔ 2 ^ k ≤ n := Nat.le_log2 hn

theorem log2_eq {n k : Nat} (h1 : 2 ^ k ≤ n) (h2 : n < 2 ^ (k + 1)) : n.log2 = k := by
  have hn : n ≠ 0 := by have := pow_pos k; omega
  have a := (le_log2' hn).2 h1
  have b := (log2_lt' hn).2 h2
  omega

theorem log2_lo {n : Nat} (hn : n ≠ 0) : 2 ^ n.log2 ≤ n := (le_log2' hn).1 (Nat.le_refl _)
theorem log2_hi {n : Nat} (hn : n ≠ 0) : n < 2 ^ (n.log2 + 1) := (log2_lt' hn).1 (Nat.lt_succ_self _)

theorem cut_even (neg : Bool) (n drop : Nat) (hn : n ≠ 0) : Toward.even.cut neg n drop = rne n false drop := by
  unfold Toward.cut rne
  by_cases hd : drop ≤ n.log2 + 2
  · rw [Nat.min_eq_left hd]
    simp only [Nat.shiftLeft_eq, Nat.one_mul]
    congr 1
    generalize n / 2 ^ drop % 2 = A
    generalize 2 * (n % 2 ^ drop) = B
    generalize 2 ^ drop = C
    by_cases h1 : C < B
    · simp [h1]
    · by_cases h2 : C = B
      · subst h2; by_cases h3 : A = 1 <;> simp [h3]
      · simp [h1, h2]
  · rw [Nat.min_eq_right (by omega)]
    have hlt := log2_hi hn
    have e1 : 2 ^ (n.log2 + 2) = 2 * 2 ^ (n.log2 + 1) := by rw [Nat.pow_succ, Nat.mul_comm]
    have e2 : 2 ^ (n.log2 + 2) ≤ 2 ^ drop := Nat.pow_le_pow_right (by omega) (by omega)
    have e3 : 2 ^ (n.log2 + 1) = 2 * 2 ^ (n.log2) := by rw [Nat.pow_succ, Nat.mul_comm]
    have hd' : n / 2 ^ drop = 0 := Nat.div_eq_of_lt (by omega)
    have hm' : n % 2 ^ drop = n := Nat.mod_eq_of_lt (by omega)
    have hd2 : n / 2 ^ (n.log2 + 2) = 0 := Nat.div_eq_of_lt (by omega)
    have hm2 : n % 2 ^ (n.log2 + 2) = n := Nat.mod_eq_of_lt (by omega)
    simp only [Nat.shiftLeft_eq, Nat.one_mul, hd', hm', hd2, hm2]
    have n1 : ¬ 2 ^ drop < 2 * n := by omega
    have n2 : ¬ 2 ^ drop = 2 * n := by omega
    have n3 : ¬ 2 ^ (n.log2 + 2) < 2 * n := by omega
    have n4 : ¬ 2 ^ (n.log2 + 2) = 2 * n := by omega
    simp [n1, n2, n3]

theorem div_merge (n r k s : Nat) (hr : r < 2 ^ k) : (n * 2 ^ k + r) / 2 ^ (s + k) = n / 2 ^ s := by
  rw [Nat.add_comm s k, Nat.pow_add, ← Nat.div_div_eq_div_mul]
  congr 1
  rw [Nat.mul_comm, Nat.mul_add_div (pow_pos k), Nat.div_eq_of_lt hr]; rfl

theorem mod_merge (n r k s : Nat) (hr : r < 2 ^ k) : (n * 2 ^ k + r) % 2 ^ (s + k) = n % 2 ^ s * 2 ^ k + r := by
  have h := Nat.div_add_mod (n * 2 ^ k + r) (2 ^ (s + k))
  rw [div_merge n r k s hr] at h
  have h2 := Nat.div_add_mod n (2 ^ s)
  have e : 2 ^ (s + k) * (n / 2 ^ s) = 2 ^ s * (n / 2 ^ s) * 2 ^ k := by
    rw [Nat.pow_add, Nat.mul_assoc, Nat.mul_comm (2 ^ k), ← Nat.mul_assoc]
  have e2 : n * 2 ^ k = 2 ^ s * (n / 2 ^ s) * 2 ^ k + n % 2 ^ s * 2 ^ k := by
    rw [← Nat.add_mul, h2]
  omega

theorem rne_merge (n r k s : Nat) (h : Bool) (hs : 1 ≤ s) (hr : r < 2 ^ k) :
    rne (n * 2 ^ k + r) h (s + k) = rne n (h || decide (r ≠ 0)) s := by
  unfold rne
  rw [div_merge n r k s hr, mod_merge n r k s hr]
  obtain ⟨t, rfl⟩ : ∃ t, s = t + 1 := ⟨s - 1, by omega⟩
  have e1 : 2 ^ (t + 1) = 2 * 2 ^ t := by rw [Nat.pow_succ, Nat.mul_comm]
  have e2 : 2 ^ (t + 1 + k) = 2 * (2 ^ t * 2 ^ k) := by rw [Nat.pow_add, e1, Nat.mul_assoc]
  rw [e2, e1]
  generalize n / (2 * 2 ^ t) = q
  generalize n % (2 * 2 ^ t) = M
  generalize 2 ^ t = T
  have hK := pow_pos k
  generalize 2 ^ k = K at *
  congr 1
  rcases Nat.lt_trichotomy T M with hl | hl | hl
  · have : T * K + K ≤ M * K := by
      have := Nat.mul_le_mul_right K hl
      rw [Nat.succ_mul] at this; exact this
    rw [if_pos (by left; omega), if_pos (by left; omega)]
  · subst hl
    by_cases hr0 : r = 0
    · subst hr0; simp
    · rw [if_pos (by left; omega), if_pos (by right; simp [hr0])]
  · have : M * K + K ≤ T * K := by
      have := Nat.mul_le_mul_right K hl
      rw [Nat.succ_mul] at this; exact this
    rw [if_neg (by omega), if_neg (by omega)]

/-- exact shift: no remainder. -/
theorem rne_exact (n k s : Nat) : rne (n * 2 ^ k) false (s + k) = rne n false s := by
  cases s with
  | zero =>
    rw [rne_zero]; unfold rne
    have a : n * 2 ^ k / 2 ^ (0 + k) = n := by rw [Nat.zero_add]; exact Nat.mul_div_cancel _ (pow_pos k)
    have b : n * 2 ^ k % 2 ^ (0 + k) = 0 := by rw [Nat.zero_add]; exact Nat.mul_mod_left _ _
    have := pow_pos (0 + k)
    rw [a, b, if_neg (by omega)]; rfl
  | succ s =>
    have := rne_merge n 0 k (s + 1) false (by omega) (pow_pos k)
    simpa using this

/-- the rounding of n * 2^p (with something more below if h) to a binary64. -/
def near2 (neg : Bool) (n : Nat) (h : Bool) (p : Int) : Nat :=
  double.word neg (min ((max (p + n.log2 - 52) (-1074) + 1074).toNat * 2 ^ 52 + rne (n * 2 ^ (p - max (p + n.log2 - 52) (-1074)).toNat) h (max (p + n.log2 - 52) (-1074) - p).toNat) double.infRung)

theorem leastPlace_double : double.leastPlace = -1074 := by decide
theorem fraction_double : double.fractionBits = 52 := rfl
theorem binade_double : double.binade = 2 ^ 52 := rfl

theorem nearest_eq (neg : Bool) (n : Nat) (p : Int) (hn : n ≠ 0) : double.nearest neg n p = near2 neg n false p := by
  unfold Format.nearest near2
  rw [if_neg hn]
  simp only [leastPlace_double, fraction_double, binade_double, Nat.shiftLeft_eq]
  rw [cut_even _ _ _ (Nat.mul_ne_zero hn (Nat.ne_of_gt (pow_pos _)))]
  rfl

theorem log2_merge (n r k : Nat) (hn : n ≠ 0) (hr : r < 2 ^ k) : (n * 2 ^ k + r).log2 = n.log2 + k := by
  have a := log2_lo hn
  have b := log2_hi hn
  refine log2_eq ?_ ?_
  · rw [Nat.pow_add]; have := Nat.mul_le_mul_right (2 ^ k) a; omega
  · have e : 2 ^ (n.log2 + k + 1) = 2 ^ (n.log2 + 1) * 2 ^ k := by rw [← Nat.pow_add]; congr 1; omega
    rw [e]
    have := Nat.mul_le_mul_right (2 ^ k) b
    rw [Nat.succ_mul] at this
    omega

theorem near2_merge (neg : Bool) (n r k : Nat) (h : Bool) (p : Int) (hn : 2 ^ 53 ≤ n) (hr : r < 2 ^ k) :
    near2 neg (n * 2 ^ k + r) h p = near2 neg n (h || decide (r ≠ 0)) (p + k) := by
  have hn0 : n ≠ 0 := by omega
  have hl := (le_log2' hn0).2 hn
  unfold near2
  rw [log2_merge n r k hn0 hr]
  have e : p + ((n.log2 + k : Nat) : Int) - 52 = p + k + n.log2 - 52 := by omega
  rw [e]
  generalize hL : max (p + (k : Int) + (n.log2 : Int) - 52) (-1074) = L
  have hL1 : p + k + 1 ≤ L := by omega
  have e1 : (p - L).toNat = 0 := by omega
  have e2 : (p + k - L).toNat = 0 := by omega
  have e3 : (L - p).toNat = (L - (p + k)).toNat + k := by omega
  rw [e1, e2, e3, Nat.pow_zero, Nat.mul_one, Nat.mul_one, rne_merge n r k _ h (by omega) hr]

theorem near2_scale (neg : Bool) (n k : Nat) (p : Int) (hn : n ≠ 0) :
    near2 neg (n * 2 ^ k) false p = near2 neg n false (p + k) := by
  unfold near2
  have hl : (n * 2 ^ k).log2 = n.log2 + k := by simpa using log2_merge n 0 k hn (pow_pos k)
  rw [hl]
  have e : p + ((n.log2 + k : Nat) : Int) - 52 = p + k + n.log2 - 52 := by omega
  rw [e]
  generalize hL : max (p + (k : Int) + (n.log2 : Int) - 52) (-1074) = L
  by_cases h1 : p + k ≤ L
  · have e1 : (p - L).toNat = 0 := by omega
    have e2 : (p + k - L).toNat = 0 := by omega
    have e3 : (L - p).toNat = (L - (p + k)).toNat + k := by omega
    rw [e1, e2, e3, Nat.pow_zero, Nat.mul_one, Nat.mul_one, rne_exact]
  · have e0 : (L - (p + k)).toNat = 0 := by omega
    rw [e0, rne_zero]
    by_cases h2 : L ≤ p
    · have e1 : (L - p).toNat = 0 := by omega
      have e2 : (p + k - L).toNat = k + (p - L).toNat := by omega
      rw [e1, e2, rne_zero, Nat.pow_add, Nat.mul_assoc]
    · have e1 : (p - L).toNat = 0 := by omega
      have e2 : k = (p + k - L).toNat + (L - p).toNat := by omega
      rw [e1, Nat.pow_zero, Nat.mul_one]
      have e4 : n * 2 ^ k = n * 2 ^ (p + k - L).toNat * 2 ^ (L - p).toNat := by rw [Nat.mul_assoc, ← Nat.pow_add, ← e2]
      rw [e4]
      have := rne_exact (n * 2 ^ (p + k - L).toNat) (L - p).toNat 0
      rw [Nat.zero_add, rne_zero] at this
      rw [this]

theorem nearest_scale (neg : Bool) (n k : Nat) (p : Int) : double.nearest neg (n * 2 ^ k) p = double.nearest neg n (p + k) := by
  by_cases hn : n = 0
  · subst hn; simp [Format.nearest]
  · rw [nearest_eq _ _ _ hn, nearest_eq _ _ _ (Nat.mul_ne_zero hn (Nat.ne_of_gt (pow_pos _))), near2_scale _ _ _ _ hn]
end Fp
