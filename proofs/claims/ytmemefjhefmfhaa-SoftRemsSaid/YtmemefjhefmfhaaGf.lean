/- Plain facts: the document's Near, way by way. -/
import Derived.Test.YtmemefjhefmfhaaGe
namespace Fp
open Go Go.RowKit Ieee
set_option linter.unusedVariables false
set_option linter.unusedSimpArgs false
/-- man, a half more, times a power of two, to the nearest. -/
def nearD (M X : Int) (H : Bool) : Int := if M = 0 then 0 else ((near2 false M.toNat H X : Nat) : Int)
/-- what Ldexp makes of a small whole number. -/
def ldv (z L : Int) : Nat := if z = 0 then 0 else near2 false z.toNat false L
theorem near_doc0 (man exp : Int) (hu : U64 man) : NearG man exp false = nearD man (cl exp) false := by
  obtain ⟨m, rfl⟩ := Int.eq_ofNat_of_zero_le hu.lo
  have h1 := hu.hi
  have hc := cl_bd exp
  unfold NearG nearD
  by_cases hz : (m : Int) = 0
  · rw [if_pos hz, if_pos hz, if_neg (by decide)]
  · rw [if_neg hz, if_neg hz, nearN_false m _ (by omega) (by omega) (by omega) (by omega), Int.toNat_natCast]
theorem near_doc1 (man exp : Int) (hu : U64 man) (hm : man < 9223372036854775808) : NearG man exp true = nearD (2 * man + 1) (cl exp - 1) false := by
  obtain ⟨m, rfl⟩ := Int.eq_ofNat_of_zero_le hu.lo
  have h1 := hu.hi
  have hc := cl_bd exp
  have e1 : (2 * (m : Int) + 1).toNat = 2 * m + 1 := by omega
  unfold NearG nearD
  rw [if_neg (show ¬ 2 * (m : Int) + 1 = 0 by omega), e1]
  by_cases hz : (m : Int) = 0
  · have : m = 0 := by omega
    subst this
    rw [if_pos hz, if_pos rfl]
    have e : (9223372036854775808 : Int) = ((9223372036854775808 : Nat) : Int) := rfl
    have e2 : (9223372036854775808 : Nat) = 1 * 2 ^ 63 := by decide
    rw [e, nearG_eq false 9223372036854775808 _ false (by omega) (by omega) (by omega) (by omega), e2, near2_scale _ _ _ _ (by omega)]
    congr 2; omega
  · rw [if_neg hz, nearN_true m _ (by omega) (by omega) (by omega) (by omega), if_pos (by omega)]
theorem near_doc2 (man exp : Int) (hu : U64 man) (hm : 9223372036854775808 ≤ man) : NearG man exp true = nearD man (cl exp) true := by
  obtain ⟨m, rfl⟩ := Int.eq_ofNat_of_zero_le hu.lo
  have h1 := hu.hi
  have hc := cl_bd exp
  unfold NearG nearD
  rw [if_neg (show ¬ (m : Int) = 0 by omega), if_neg (show ¬ (m : Int) = 0 by omega), nearN_true m _ (by omega) (by omega) (by omega) (by omega), if_neg (by omega), Int.toNat_natCast]
/-- the facts that hold behind the first test. -/
structure Doc (M X L C : Int) (H : Bool) : Prop where
  u : U64 M
  nz : M ≠ 0
  half : H = true → 9223372036854775808 ≤ M
  last : L = lastP M.toNat X
  cut : C = L - X
theorem doc_gone {M X L C : Int} {H : Bool} (D : Doc M X L C H) (h : 64 < C) : nearD M X H = 0 := by
  have h0 := D.u.lo
  have h1 := D.u.hi
  have hz := D.nz
  unfold nearD
  rw [if_neg hz, near2_gone _ _ _ (by omega) (by omega) (by rw [← D.last, ← D.cut]; exact h)]
  rfl
theorem doc_small {M X L C : Int} {H : Bool} (D : Doc M X L C H) (h : C ≤ 0) : nearD M X H = ((ldv M X : Nat) : Int) ∧ M ≤ 9007199254740992 := by
  have h0 := D.u.lo
  have h1 := D.u.hi
  have hz := D.nz
  have e53n : (2 : Nat) ^ 53 = 9007199254740992 := by decide
  have hl : lastP M.toNat X ≤ X := by have := D.last; have := D.cut; omega
  have h2 : X + (M.toNat.log2 : Int) - 52 ≤ lastP M.toNat X := Int.le_max_left _ _
  have h3 : M.toNat < 2 ^ (52 + 1) := by
    refine Nat.lt_of_lt_of_le (log2_hi (by omega)) (Nat.pow_le_pow_right (by omega) (by omega))
  rw [e53n] at h3
  have hH : H = false := by
    cases hh : H
    · rfl
    · have := D.half hh; omega
  subst hH
  refine ⟨?_, by omega⟩
  unfold nearD ldv
  rw [if_neg hz, if_neg hz]
theorem doc_cut {M X L C : Int} {H : Bool} (D : Doc M X L C H) (h : 1 ≤ C) : nearD M X H = ((ldv (((M.toNat / 2 ^ C.toNat : Nat) : Int) + (if upR ((M.toNat % 2 ^ C.toNat : Nat) : Int) ((2 ^ (C.toNat - 1) : Nat) : Int) ((M.toNat / 2 ^ C.toNat : Nat) : Int) H then 1 else 0)) L : Nat) : Int) ∧ ((M.toNat / 2 ^ C.toNat : Nat) : Int) + 1 ≤ 9007199254740992 := by
  have h0 := D.u.lo
  have h1 := D.u.hi
  have hz := D.nz
  have hc := D.cut
  have hl := D.last
  have e53n : (2 : Nat) ^ 53 = 9007199254740992 := by decide
  have hz2 : M.toNat ≠ 0 := by omega
  have e0 : (X - lastP M.toNat X).toNat = 0 := by omega
  have e1 : (lastP M.toNat X - X).toNat = C.toNat := by omega
  have hq : M.toNat / 2 ^ C.toNat < 2 ^ 53 := by
    apply Nat.div_lt_of_lt_mul
    rw [← Nat.pow_add]
    have h2 : X + (M.toNat.log2 : Int) - 52 ≤ lastP M.toNat X := Int.le_max_left _ _
    exact Nat.lt_of_lt_of_le (log2_hi hz2) (Nat.pow_le_pow_right (by omega) (by omega))
  rw [e53n] at hq
  refine ⟨?_, by omega⟩
  have k := near_again false M.toNat H X hz2 _ rfl
  rw [e0, e1, Nat.pow_zero, Nat.mul_one, ← hl, rne_up _ _ _ (by omega)] at k
  unfold nearD ldv
  rw [if_neg hz, k]
  clear k h1 hc hl e0 e1
  generalize upR ((M.toNat % 2 ^ C.toNat : Nat) : Int) ((2 ^ (C.toNat - 1) : Nat) : Int) ((M.toNat / 2 ^ C.toNat : Nat) : Int) H = b
  generalize M.toNat / 2 ^ C.toNat = q at *
  cases b
  · simp only [Bool.false_eq_true, if_false, Nat.add_zero, Int.add_zero, Int.toNat_natCast]
    by_cases g : q = 0
    · subst g; rfl
    · rw [if_neg g, if_neg (show ¬ (q : Int) = 0 by omega)]
  · simp only [if_true]
    rw [if_neg (show ¬ q + 1 = 0 by omega), if_neg (show ¬ (q : Int) + 1 = 0 by omega), show ((q : Int) + 1).toNat = q + 1 by omega]
/-- the same, in the code's own words. -/
theorem doc_vals {M X L C : Int} {H : Bool} (D : Doc M X L C H) (h : 1 ≤ C) (h' : C ≤ 64) : ∃ Q R T E : Int, nearD M X H = ((ldv (Q + (if upR R E Q H then 1 else 0)) L : Nat) : Int) ∧ 0 ≤ Q ∧ Q + 1 ≤ 9007199254740992 ∧
    M / 2 ^ C.toNat = Q ∧ IntKind.u64.wrap (Q * 2 ^ C.toNat) = T ∧ 0 ≤ T ∧ T ≤ M ∧ M - T = R ∧ 0 ≤ R ∧ IntKind.u64.wrap (2 ^ (C.toNat - 1)) = E ∧ 0 ≤ E ∧ (C = 64 → Q = 0 ∧ T = 0 ∧ R = M ∧ E = 9223372036854775808) := by
  obtain ⟨e1, e2⟩ := doc_cut D h
  have h0 := D.u.lo
  have h1 := D.u.hi
  have e63n : (2 : Nat) ^ 63 = 9223372036854775808 := by decide
  have e64n : (2 : Nat) ^ 64 = 18446744073709551616 := by decide
  obtain ⟨m, hm⟩ := Int.eq_ofNat_of_zero_le h0
  obtain ⟨c, hc⟩ : ∃ c, C.toNat = c := ⟨_, rfl⟩
  have em : M.toNat = m := by omega
  rw [em, hc] at e1 e2
  rw [hc]
  clear D em
  have d1 := Nat.div_add_mod m (2 ^ c)
  have d2 : 2 ^ (c - 1) ≤ 2 ^ 63 := Nat.pow_le_pow_right (by omega) (by omega)
  rw [e63n] at d2
  have cp (k : Nat) : (2 : Int) ^ k = ((2 ^ k : Nat) : Int) := by rw [Int.natCast_pow]; rfl
  refine ⟨((m / 2 ^ c : Nat) : Int), ((m % 2 ^ c : Nat) : Int), ((2 ^ c * (m / 2 ^ c) : Nat) : Int), ((2 ^ (c - 1) : Nat) : Int), e1, Int.natCast_nonneg _, e2, ?_, ?_, Int.natCast_nonneg _, by omega, by omega, Int.natCast_nonneg _, ?_, Int.natCast_nonneg _, fun g => ?_⟩
  · rw [cp, hm]; rfl
  · rw [cp, ← Int.natCast_mul, Nat.mul_comm, u64_id ⟨by omega, by omega⟩]
  · rw [cp, u64_id ⟨Int.natCast_nonneg _, by generalize 2 ^ (c - 1) = g at *; omega⟩]
  · have : c = 64 := by omega
    subst this
    rw [e64n, show (64 - 1 : Nat) = 63 from rfl, e63n, Nat.div_eq_of_lt (by omega), Nat.mod_eq_of_lt (by omega)]
    exact ⟨rfl, rfl, hm.symm, rfl⟩
end Fp
