/- Plain facts: rounding does not fall where the number rises. -/
import Derived.Test.YtkiakflmoplmeaaFu
namespace Fp
open Go Go.RowKit Ieee
set_option linter.unusedVariables false
set_option linter.unusedSimpArgs false

theorem rne_mono {n m d : Nat} (h : n ≤ m) : rne n false d ≤ rne m false d := by
  rw [rne_if, rne_if]
  have hq := Nat.div_le_div_right (c := 2 ^ d) h
  have e1 := Nat.div_add_mod n (2 ^ d)
  have e2 := Nat.div_add_mod m (2 ^ d)
  rcases Nat.lt_or_ge (n / 2 ^ d) (m / 2 ^ d) with g | g
  · split <;> split <;> omega
  · have e : n / 2 ^ d = m / 2 ^ d := Nat.le_antisymm hq g
    rw [e] at e1 ⊢
    generalize 2 ^ d * (m / 2 ^ d) = z at *
    generalize n % 2 ^ d = r at *
    generalize m % 2 ^ d = t at *
    generalize m / 2 ^ d = q at *
    generalize 2 ^ d = D at *
    have hr : r ≤ t := by omega
    by_cases c1 : D < 2 * r ∨ D = 2 * r ∧ (false = true ∨ q % 2 = 1)
    · rw [if_pos c1, if_pos]
      · exact Nat.le_refl _
      · rcases c1 with c | ⟨c, c2⟩
        · left; omega
        · rcases Nat.lt_or_ge r t with k | k
          · left; omega
          · right; exact ⟨by omega, c2⟩
    · rw [if_neg c1]; split <;> omega

def lastP (n : Nat) (p : Int) : Int := max (p + n.log2 - 52) (-1074)
def rungN (n : Nat) (p : Int) : Nat := if n = 0 then 0 else min ((lastP n p + 1074).toNat * 2 ^ 52 + rne (n * 2 ^ (p - lastP n p).toNat) false (lastP n p - p).toNat) double.infRung
theorem nearest_rung (s : Bool) (n : Nat) (p : Int) : double.nearest s n p = double.word s (rungN n p) := by
  by_cases h : n = 0
  · subst h; rw [Format.nearest, if_pos rfl, rungN, if_pos rfl]
  · rw [nearest_eq _ _ _ h]; unfold near2 rungN lastP; rw [if_neg h]
theorem rungN_le (n : Nat) (p : Int) : rungN n p ≤ 9218868437227405312 := by
  rw [← infRung_d]; unfold rungN; split
  · exact Nat.zero_le _
  · exact Nat.min_le_right _ _
theorem kept_hi (n : Nat) (p : Int) (hn : n ≠ 0) : rne (n * 2 ^ (p - lastP n p).toNat) false (lastP n p - p).toNat ≤ 2 ^ 53 := by
  have h1 := log2_hi hn
  have hL : p + n.log2 - 52 ≤ lastP n p := Int.le_max_left _ _
  generalize lastP n p = L at *
  have hb : n * 2 ^ (p - L).toNat / 2 ^ (L - p).toNat < 2 ^ 53 := by
    apply Nat.div_lt_of_lt_mul
    rw [← Nat.pow_add]
    have h2 : n * 2 ^ (p - L).toNat < 2 ^ (n.log2 + 1) * 2 ^ (p - L).toNat := Nat.mul_lt_mul_of_pos_right h1 (Nat.two_pow_pos _)
    rw [← Nat.pow_add] at h2
    exact Nat.lt_of_lt_of_le h2 (Nat.pow_le_pow_right (by omega) (by omega))
  have := rne_le (n * 2 ^ (p - L).toNat) false (L - p).toNat
  omega
theorem kept_lo (n : Nat) (p : Int) (hn : n ≠ 0) (h : -1074 < lastP n p) : 2 ^ 52 ≤ rne (n * 2 ^ (p - lastP n p).toNat) false (lastP n p - p).toNat := by
  have h1 := log2_lo hn
  have hL : lastP n p = p + n.log2 - 52 := by unfold lastP at *; omega
  generalize lastP n p = L at *
  have hb : 2 ^ 52 ≤ n * 2 ^ (p - L).toNat / 2 ^ (L - p).toNat := by
    rw [Nat.le_div_iff_mul_le (Nat.two_pow_pos _), ← Nat.pow_add]
    have h2 : 2 ^ n.log2 * 2 ^ (p - L).toNat ≤ n * 2 ^ (p - L).toNat := Nat.mul_le_mul_right _ h1
    rw [← Nat.pow_add] at h2
    exact Nat.le_trans (Nat.pow_le_pow_right (by omega) (by omega)) h2
  exact Nat.le_trans hb (le_rne _ _ _)
theorem min_mono {a b : Nat} (h : a ≤ b) (c : Nat) : min a c ≤ min b c := by omega
theorem kept_step (A B : Nat) (L M : Int) (k1 : A ≤ 9007199254740992) (k2 : 4503599627370496 ≤ B) (g : L < M) (h : -1074 ≤ L) : (L + 1074).toNat * 4503599627370496 + A ≤ (M + 1074).toNat * 4503599627370496 + B := by omega
theorem rung_mono {n m : Nat} (p : Int) (h : n ≤ m) : rungN n p ≤ rungN m p := by
  by_cases hn : n = 0
  · rw [rungN, if_pos hn]; exact Nat.zero_le _
  · have hm : m ≠ 0 := by omega
    have hl : n.log2 ≤ m.log2 := (le_log2' hm).2 (Nat.le_trans (log2_lo hn) h)
    have hL : lastP n p ≤ lastP m p := by unfold lastP; omega
    unfold rungN
    rw [if_neg hn, if_neg hm]
    have key : (lastP n p + 1074).toNat * 2 ^ 52 + rne (n * 2 ^ (p - lastP n p).toNat) false (lastP n p - p).toNat ≤ (lastP m p + 1074).toNat * 2 ^ 52 + rne (m * 2 ^ (p - lastP m p).toNat) false (lastP m p - p).toNat := by
      rcases Int.lt_or_le (lastP n p) (lastP m p) with g | g
      · have k1 := kept_hi n p hn
        have k2 := kept_lo m p hm (by have : -1074 ≤ lastP n p := Int.le_max_right _ _; omega)
        have : -1074 ≤ lastP n p := Int.le_max_right _ _
        have e53 : (2 : Nat) ^ 53 = 9007199254740992 := by decide
        have e52 : (2 : Nat) ^ 52 = 4503599627370496 := by decide
        rw [e53] at k1
        rw [e52] at k2 ⊢
        exact kept_step _ _ _ _ k1 k2 g this
      · have e : lastP n p = lastP m p := Int.le_antisymm hL g
        rw [e]
        exact Nat.add_le_add_left (rne_mono (Nat.mul_le_mul_right _ h)) _
    exact min_mono key _
/-- what stands behind a rounded whole number, with its sign. -/
def NT (s : Bool) (T p : Int) : Int := ((double.nearest (if T = 0 then s else decide (T < 0)) T.natAbs p : Nat) : Int)
theorem NT_facts (s : Bool) (T p : Int) : U64 (NT s T p) ∧ isNaN (NT s T p) = false ∧ SR (NT s T p) = if T < 0 then -(rungN T.natAbs p : Int) else (rungN T.natAbs p : Int) := by
  unfold NT
  have hr := rungN_le T.natAbs p
  rw [nearest_rung]
  have hw := word_int (if T = 0 then s else decide (T < 0)) (rungN T.natAbs p) (by omega)
  obtain ⟨h1, h2, h3⟩ := hw
  refine ⟨h1, word_num _ _ (by rw [infRung_d]; exact hr), ?_⟩
  unfold SR
  rw [h2, h3]
  by_cases h0 : T = 0
  · subst h0
    have : rungN (0 : Int).natAbs p = 0 := by rw [rungN, Int.natAbs_zero, if_pos rfl]
    rw [this, if_pos rfl]
    cases s <;> rfl
  · rw [if_neg h0]
    by_cases hn : T < 0
    · rw [if_pos hn, decide_eq_true hn, if_pos rfl]
    · rw [if_neg hn, decide_eq_false hn, if_neg (by decide)]
theorem NT_mono (s t : Bool) {T U p : Int} (h : T ≤ U) : SR (NT s T p) ≤ SR (NT t U p) := by
  rw [(NT_facts s T p).2.2, (NT_facts t U p).2.2]
  by_cases h1 : T < 0
  · rw [if_pos h1]
    by_cases h2 : U < 0
    · rw [if_pos h2]
      have := rung_mono (n := U.natAbs) (m := T.natAbs) p (by omega)
      omega
    · rw [if_neg h2]; omega
  · rw [if_neg h1, if_neg (by omega)]
    have := rung_mono (n := T.natAbs) (m := U.natAbs) p (by omega)
    omega
/-- Less is the order of the bits with their signs. -/
theorem LessG_SR {a b : Int} (ha : U64 a) (hb : U64 b) (na : isNaN a = false) (nb : isNaN b = false) : LessG a b = decide (SR a < SR b) := by
  rw [← Less_ok ha hb, order_SR ha hb na nb]
  rcases cmp_cases (SR a) (SR b) with ⟨h, e⟩ | ⟨h, e⟩ | ⟨h, e⟩
  · rw [e, decide_eq_true h]; rfl
  · rw [e, decide_eq_false (by omega)]; rfl
  · rw [e, decide_eq_false (by omega)]; rfl
end Fp
