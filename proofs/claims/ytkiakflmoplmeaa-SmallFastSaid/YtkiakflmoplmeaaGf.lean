/- Plain facts: the document's Near, way by way. -/
import Derived.Test.YtkiakflmoplmeaaGa
import Derived.Test.YtkiakflmoplmeaaFv
namespace Fp
open Go Go.RowKit Ieee
set_option linter.unusedVariables false
set_option linter.unusedSimpArgs false
/-- man, a half more, times a power of two, to the nearest. -/
def nearD (M X : Int) (H : Bool) : Int := if M = 0 then 0 else ((near2 false M.toNat H X : Nat) : Int)
/-- what Ldexp makes of a small whole number. -/
def ldv (z L : Int) : Nat := if z = 0 then 0 else near2 false z.toNat false L
theorem near_doc0 (man exp : Int) (hu : U64 man) : NearG man exp false = nearD man (cl exp) false := by
  obtain ⟨m, rfl⟩ := Int.eq_ofNat_of_zero_le hu.lo
  have h1 := hu.hi
  have hc := cl_bd exp
  unfold NearG nearD
  by_cases hz : (m : Int) = 0
  · rw [if_pos hz, if_pos hz, if_neg (by decide)]
  · rw [if_neg hz, if_neg hz, nearN_false m _ (by omega) (by omega) (by omega) (by omega), Int.toNat_natCast]
theorem near_doc1 (man exp : Int) (hu : U64 man) (hm : man < 9223372036854775808) : NearG man exp true = nearD (2 * man + 1) (cl exp - 1) false := by
  obtain ⟨m, rfl⟩ := Int.eq_ofNat_of_zero_le hu.lo
  have h1 := hu.hi
  have hc := cl_bd exp
  have e1 : (2 * (m : Int) + 1).toNat = 2 * m + 1 := by omega
  unfold NearG nearD
  rw [if_neg (show ¬ 2 * (m : Int) + 1 = 0 by omega), e1]
  by_cases hz : (m : Int) = 0
  · have : m = 0 := by omega
    subst this
    rw [if_pos hz, if_pos rfl]
    have e : (9223372036854775808 : Int) = ((9223372036854775808 : Nat) : Int) := rfl
    have e2 : (9223372036854775808 : Nat) = 1 * 2 ^ 63 := by decide
    rw [e, nearG_eq false 9223372036854775808 _ false (by omega) (by omega) (by omega) (by omega), e2, near2_scale _ _ _ _ (by omega)]
    congr 2; omega
  · rw [if_neg hz, nearN_true m _ (by omega) (by omega) (by omega) (by omega), if_pos (by omega)]
theorem near_doc2 (man exp : Int) (hu : U64 man) (hm : 9223372036854775808 ≤ man) : NearG man exp true = nearD man (cl exp) true := by
  obtain ⟨m, rfl⟩ := Int.eq_ofNat_of_zero_le hu.lo
  have h1 := hu.hi
  have hc := cl_bd exp
  unfold NearG nearD
  rw [if_neg (show ¬ (m : Int) = 0 by omega), if_neg (show ¬ (m : Int) = 0 by omega), nearN_true m _ (by omega) (by omega) (by omega) (by omega), if_neg (by omega), Int.toNat_natCast]
/-- the facts that hold behind the first test. -/
structure Doc (M X L C : Int) (H : Bool) : Prop where
  u : U64 M
  nz : M ≠ 0
  half : H = true → 9223372036854775808 ≤ M
  last : L = lastP M.toNat X
  cut : C = L - X
theorem doc_gone {M X L C : Int} {H : Bool} (D : Doc M X L C H) (h : 64 < C) : nearD M X H = 0 := by
  have h0 := D.u.lo
  have h1 := D.u.hi
  have hz := D.nz
  unfold nearD
  rw [if_neg hz, near2_gone _ _ _ (by omega) (by omega) (by rw [← D.last, ← D.cut]; exact h)]
  rfl
theorem doc_small {M X L C : Int} {H : Bool} (D : Doc M X L C H) (h : C ≤ 0) : nearD M X H = ((ldv M X : Nat) : Int) ∧ M ≤ 9007199254740992 := by
  have h0 := D.u.lo
  have h1 := D.u.hi
  have hz := D.nz
  have e53n : (2 : Nat) ^ 53 = 9007199254740992 := by decide
  have hl : lastP M.toNat X ≤ X := by have := D.last; have := D.cut; omega
  have h2 : X + (M.toNat.log2 : Int) - 52 ≤ lastP M.toNat X := Int.le_max_left _ _
  have h3 : M.toNat < 2 ^ (52 + 1) := by
    refine Nat.lt_of_lt_of_le (log2_hi (by omega)) (Nat.pow_le_pow_right (by omega) (by omega))
  rw [e53n] at h3
  have hH : H = false := by
    cases hh : H
    · rfl
    · have := D.half hh; omega
  subst hH
  refine ⟨?_, by omega⟩
  unfold nearD ldv
  rw [if_neg hz, if_neg hz]
theorem doc_cut {M X L C : Int} {H : Bool} (D : Doc M X L C H) (h : 1 ≤ C) : nearD M X H = ((ldv (((M.toNat / 2 ^ C.toNat : Nat) : Int) + (if upR ((M.toNat % 2 ^ C.toNat : Nat) : Int) ((2 ^ (C.toNat - 1) : Nat) : Int) ((M.toNat / 2 ^ C.toNat : Nat) : Int) H then 1 else 0)) L : Nat) : Int) ∧ ((M.toNat / 2 ^ C.toNat : Nat) : Int) + 1 ≤ 9007199254740992 := by
  have h0 := D.u.lo
  have h1 := D.u.hi
  have hz := D.nz
  have hc := D.cut
  have hl := D.last
  have e53n : (2 : Nat) ^ 53 = 9007199254740992 := by decide
  have hz2 : M.toNat ≠ 0 := by omega
  have e0 : (X - lastP M.toNat X).toNat = 0 := by omega
  have e1 : (lastP M.toNat X - X).toNat = C.toNat := by omega
  have hq : M.toNat / 2 ^ C.toNat < 2 ^ 53 := by
    apply Nat.div_lt_of_lt_mul
    rw [← Nat.pow_add]
    have h2 : X + (M.toNat.log2 : Int) - 52 ≤ lastP M.toNat X := Int.le_max_left _ _
    exact Nat.lt_of_lt_of_le (log2_hi hz2) (Nat.pow_le_pow_right (by omega) (by omega))
  rw [e53n] at hq
  refine ⟨?_, by omega⟩
  have k := near_again false M.toNat H X hz2 _ rfl
  rw [e0, e1, Nat.pow_zero, Nat.mul_one, ← hl, rne_up _ _ _ (by omega)] at k
  unfold nearD ldv
  rw [if_neg hz, k]
  clear k h1 hc hl e0 e1
  generalize upR ((M.toNat % 2 ^ C.toNat : Nat) : Int) ((2 ^ (C.toNat - 1) : Nat) : Int) ((M.toNat / 2 ^ C.toNat : Nat) : Int) H = b
  generalize M.toNat / 2 ^ C.toNat = q at *
  cases b
  · simp only [Bool.false_eq_true, if_false, Nat.add_zero, Int.add_zero, Int.toNat_natCast]
    by_cases g : q = 0
    · subst g; rfl
    · rw [if_neg g, if_neg (show ¬ (q : Int) = 0 by omega)]
  · simp only [if_true]
    rw [if_neg (show ¬ q + 1 = 0 by omega), if_neg (show ¬ (q : Int) + 1 = 0 by omega), show ((q : Int) + 1).toNat = q + 1 by omega]
/-- the same, in the code's own words. -/
theorem doc_vals {M X L C : Int} {H : Bool} (D : Doc M X L C H) (h : 1 ≤ C) (h' : C ≤ 64) : ∃ Q R T E : Int, nearD M X H = ((ldv (Q + (if upR R E Q H then 1 else 0)) L : Nat) : Int) ∧ 0 ≤ Q ∧ Q + 1 ≤ 9007199254740992 ∧
    M / 2 ^ C.toNat = Q ∧ IntKind.u64.wrap (Q * 2 ^ C.toNat) = T ∧ 0 ≤ T ∧ T ≤ M ∧ M - T = R ∧ 0 ≤ R ∧ IntKind.u64.wrap (2 ^ (C.toNat - 1)) = E ∧ 0 ≤ E ∧ (C = 64 → Q = 0 ∧ T = 0 ∧ R = M ∧ E = 9223372036854775808) := by
  obtain ⟨e1, e2⟩ := doc_cut D h
  have h0 := D.u.lo
  have h1 := D.u.hi
  have e63n : (2 : Nat) ^ 63 = 9223372036854775808 := by decide
  have e64n : (2 : Nat) ^ 64 = 18446744073709551616 := by decide
  obtain ⟨m, hm⟩ := Int.eq_ofNat_of_zero_le h0
  obtain ⟨c, hc⟩ : ∃ c, C.toNat = c := ⟨_, rfl⟩
  have em : M.toNat = m := by omega
  rw [em, hc] at e1 e2
  rw [hc]
  clear D em
  have d1 := Nat.div_add_mod m (2 ^ c)
  have d2 : 2 ^ (c - 1) ≤ 2 ^ 63 := Nat.pow_le_pow_right (by omega) (by omega)
  rw [e63n] at d2
  have cp (k : Nat) : (2 : Int) ^ k = ((2 ^ k : Nat) : Int) := by rw [Int.natCast_pow]; rfl
  refine ⟨((m / 2 ^ c : Nat) : Int), ((m % 2 ^ c : Nat) : Int), ((2 ^ c * (m / 2 ^ c) : Nat) : Int), ((2 ^ (c - 1) : Nat) : Int), e1, Int.natCast_nonneg _, e2, ?_, ?_, Int.natCast_nonneg _, by omega, by omega, Int.natCast_nonneg _, ?_, Int.natCast_nonneg _, fun g => ?_⟩
  · rw [cp, hm]; rfl
  · rw [cp, ← Int.natCast_mul, Nat.mul_comm, u64_id ⟨by omega, by omega⟩]
  · rw [cp, u64_id ⟨Int.natCast_nonneg _, by generalize 2 ^ (c - 1) = g at *; omega⟩]
  · have : c = 64 := by omega
    subst this
    rw [e64n, show (64 - 1 : Nat) = 63 from rfl, e63n, Nat.div_eq_of_lt (by omega), Nat.mod_eq_of_lt (by omega)]
    exact ⟨rfl, rfl, hm.symm, rfl⟩
end Fp
namespace Fp
open Go Go.RowKit Ieee
set_option linter.unusedVariables false
set_option linter.unusedSimpArgs false
def E46 : Nat := 2046
theorem hE46 : E46 = 2046 := rfl
theorem vr_inf : vr 9218868437227405312 = 4503599627370496 * 2 ^ E46 := by
  have h1 : 9218868437227405312 % 4503599627370496 = 0 := by omega
  have h2 : 9218868437227405312 / 4503599627370496 - 1 = E46 := by rw [hE46]
  unfold vr
  rw [if_neg (by omega), h1, h2]
theorem rung_parts (c z : Nat) (hc : c ≤ 2045) (z0 : 4503599627370496 ≤ z) (z1 : z < 9007199254740992) : c * 4503599627370496 + z < 9218868437227405312 ∧ ¬ c * 4503599627370496 + z < 4503599627370496 ∧ (c * 4503599627370496 + z) / 4503599627370496 - 1 = c ∧ 4503599627370496 + (c * 4503599627370496 + z) % 4503599627370496 = z := by
  have h : (c * 4503599627370496 + z) / 4503599627370496 = c + 1 := by
    rw [Nat.mul_comm, Nat.mul_add_div (by omega)]; congr 1; omega
  have h2 : (c * 4503599627370496 + z) % 4503599627370496 = z - 4503599627370496 := by
    rw [Nat.mul_comm, Nat.mul_add_mod]; omega
  exact ⟨by omega, by omega, by omega, by omega⟩
theorem min_left' (n m : Nat) (h : n < 9007199254740992) (hm : m = 9218868437227405312) : min (0 * 4503599627370496 + n) m = n := by subst hm; rw [Nat.zero_mul, Nat.zero_add]; exact Nat.min_eq_left (by omega)
/-- a number of 53 bits times a power of two has a word. -/
theorem rep (n m k : Nat) (h : n = m * 2 ^ k) (hm : m < 9007199254740992) (hn : n < vr 9218868437227405312) : ∃ u : Nat, rungN n (-1074) = u ∧ u < 9218868437227405312 ∧ vr u = n := by
  have e52n : (2 : Nat) ^ 52 = 4503599627370496 := by decide
  have e53n : (2 : Nat) ^ 53 = 9007199254740992 := by decide
  by_cases h0 : n = 0
  · exact ⟨0, by rw [rungN, if_pos h0], by omega, by rw [h0]; decide⟩
  have lo := log2_lo h0
  have hi := log2_hi h0
  have hlt : n.log2 < 2098 := by
    rw [vr_inf, ← e52n, ← Nat.pow_add] at hn
    exact (log2_lt' h0).2 (by rw [show 52 + E46 = 2098 from rfl] at hn; exact hn)
  obtain ⟨l, hl⟩ : ∃ l, n.log2 = l := ⟨_, rfl⟩
  rw [hl] at lo hi hlt
  by_cases hs : l ≤ 52
  · have hn2 : n < 9007199254740992 := by
      rw [← e53n]; exact Nat.lt_of_lt_of_le hi (Nat.pow_le_pow_right (by omega) (by omega))
    have eL : lastP n (-1074) = -1074 := by unfold lastP; rw [hl]; omega
    refine ⟨n, ?_, by omega, ?_⟩
    · unfold rungN
      rw [if_neg h0, eL, e52n, show ((-1074 : Int) - -1074).toNat = 0 by decide, show ((-1074 : Int) + 1074).toNat = 0 by decide, Nat.pow_zero, Nat.mul_one, rne_zero]
      exact min_left' n _ hn2 infRung_d
    · unfold vr
      by_cases c : n < 4503599627370496
      · rw [if_pos c]
      · rw [if_neg c, show n / 4503599627370496 - 1 = 0 by omega, Nat.pow_zero]; omega
  · obtain ⟨c, hc⟩ : ∃ c, l = c + 52 := ⟨l - 52, by omega⟩
    have hk : c ≤ k := by
      have h1 : n < 2 ^ (53 + k) := by
        rw [h, Nat.pow_add, e53n]; exact Nat.mul_lt_mul_of_pos_right hm (Nat.two_pow_pos k)
      have := (log2_lt' h0).2 h1
      omega
    obtain ⟨z, hz⟩ : ∃ z, m * 2 ^ (k - c) = z := ⟨_, rfl⟩
    have en : n = z * 2 ^ c := by rw [h, ← hz, Nat.mul_assoc, ← Nat.pow_add, show k - c + c = k by omega]
    have z0 : 4503599627370496 ≤ z := by
      rw [en, hc, Nat.pow_add, Nat.mul_comm (2 ^ c), e52n] at lo
      exact Nat.le_of_mul_le_mul_right lo (Nat.two_pow_pos c)
    have z1 : z < 9007199254740992 := by
      rw [en, hc, show c + 52 + 1 = 53 + c by omega, Nat.pow_add, e53n] at hi
      exact Nat.lt_of_mul_lt_mul_right hi
    have eL : lastP n (-1074) = (c : Int) - 1074 := by unfold lastP; rw [hl]; omega
    have er : rne n false c = z := by
      have := rne_exact z c 0
      rw [Nat.zero_add, rne_zero] at this
      rw [en]; exact this
    have hcb : c ≤ 2045 := by omega
    obtain ⟨b1, b2, b3, b4⟩ := rung_parts c z hcb z0 z1
    have eu : rungN n (-1074) = c * 4503599627370496 + z := by
      unfold rungN
      rw [if_neg h0, eL, e52n, show ((-1074 : Int) - ((c : Int) - 1074)).toNat = 0 by omega, show ((c : Int) - 1074 + 1074).toNat = c by omega, show ((c : Int) - 1074 - -1074).toNat = c by omega, Nat.pow_zero, Nat.mul_one, er, infRung_d]
      exact Nat.min_eq_left (Nat.le_of_lt b1)
    refine ⟨c * 4503599627370496 + z, eu, b1, ?_⟩
    unfold vr
    rw [if_neg b2, b3, b4, en]
/-- a finite number that is not less than 0, by its word. -/
structure Pos (r : Int) : Prop where
  lo : 0 ≤ r
  hi : r < 9218868437227405312
theorem Pos.u {r : Int} (h : Pos r) : U64 r := ⟨h.lo, by have := h.hi; omega⟩
theorem Pos.sz {r : Int} (h : Pos r) : Fp.sz r = r := by
  have := sz_eq h.u; have := h.lo; have := h.hi; omega
theorem Pos.ng {r : Int} (h : Pos r) : ngb r = false := decide_eq_false (by have := h.hi; omega)
theorem Pos.fin {r : Int} (h : Pos r) : Fp.sz r < 9218868437227405312 := by rw [h.sz]; exact h.hi
theorem Pos.SV {r : Int} (h : Pos r) : Fp.SV r = (V r : Int) := by unfold Fp.SV; rw [h.ng]; rfl
theorem Pos.SR {r : Int} (h : Pos r) : Fp.SR r = r := by unfold Fp.SR; rw [h.ng, h.sz]; rfl
theorem Pos.V {r : Int} (h : Pos r) : Fp.V r = vr r.toNat := by rw [V_vr h.u, h.sz]
theorem Pos.lt {r t : Int} (h : Pos r) (k : Pos t) : Fp.V r < Fp.V t ↔ r < t := by
  rw [h.V, k.V, vr_lt_iff]; have := h.lo; have := k.lo; omega
theorem Pos.below {r : Int} (h : Pos r) : Fp.V r < vr 9218868437227405312 := by
  rw [h.V, vr_lt_iff]; have := h.lo; have := h.hi; omega
theorem Pos.of {n u : Nat} (h1 : u < 9218868437227405312) (h2 : vr u = n) : Pos (u : Int) ∧ Fp.V (u : Int) = n := by
  have p : Pos (u : Int) := ⟨by omega, by omega⟩
  exact ⟨p, by rw [p.V, Int.toNat_natCast, h2]⟩
theorem word_false (r : Nat) : double.word false r = r := by unfold Format.word; simp
/-- the size, in words of the opened number. -/
theorem V_open {a : Int} (hu : U64 a) (hz : ¬ sz a = 0) : V a * 2 ^ 64 = (oman a).toNat * 2 ^ (oexp a + 1138).toNat := by
  obtain ⟨l, h1, h2, h3, h4, h5, h6⟩ := parts hu hz
  have hp := pl_bd hu
  unfold V
  rw [h1, h2, Int.toNat_natCast, Nat.mul_assoc, Nat.mul_assoc, ← Nat.pow_add, ← Nat.pow_add]
  congr 2; omega
theorem mant_lt {a : Int} (hu : U64 a) : (mant a).toNat < 9007199254740992 := by
  have h := mant_eq hu
  have h0 := hu.lo
  split at h <;> omega
/-- the difference of two is exact, where it may be. -/
theorem sub_exact {r t : Int} (hr : Pos r) (ht : Pos t) (h : t ≤ r) (h2 : V r < 2 * V t) : ∃ u : Int, SubG r t = u ∧ Pos u ∧ V u = V r - V t := by
  have hle : V t ≤ V r := by
    have := mt (hr.lt ht).1 (by omega); omega
  obtain ⟨A, hA⟩ : ∃ A, (pl t + 1074).toNat = A := ⟨_, rfl⟩
  obtain ⟨B, hB⟩ : ∃ B, (pl r + 1074).toNat = B := ⟨_, rfl⟩
  have et : V t = (mant t).toNat * 2 ^ A := by unfold V; rw [hA]
  have er : V r = (mant r).toNat * 2 ^ B := by unfold V; rw [hB]
  have mt := mant_lt ht.u
  have mr := mant_lt hr.u
  obtain ⟨X, hX⟩ : ∃ X, (mant t).toNat = X := ⟨_, rfl⟩
  obtain ⟨Y, hY⟩ : ∃ Y, (mant r).toNat = Y := ⟨_, rfl⟩
  rw [hX] at et mt
  rw [hY] at er mr
  have hrep : ∃ m k, V r - V t = m * 2 ^ k ∧ m < 9007199254740992 := by
    by_cases c : A ≤ B
    · refine ⟨Y * 2 ^ (B - A) - X, A, ?_, ?_⟩
      · rw [Nat.sub_mul, Nat.mul_assoc, ← Nat.pow_add, show B - A + A = B by omega, er, et]
      · have h3 : (Y * 2 ^ (B - A)) * 2 ^ A < (2 * X) * 2 ^ A := by
          rw [Nat.mul_assoc, ← Nat.pow_add, show B - A + A = B by omega, ← er, Nat.mul_assoc, ← et]; exact h2
        have := Nat.lt_of_mul_lt_mul_right h3
        omega
    · refine ⟨Y - X * 2 ^ (A - B), B, ?_, by omega⟩
      rw [Nat.sub_mul, Nat.mul_assoc, ← Nat.pow_add, show A - B + B = A by omega, er, et]
  obtain ⟨m, k, e1, e2⟩ := hrep
  obtain ⟨u, u1, u2, u3⟩ := rep (V r - V t) m k e1 e2 (Nat.lt_of_le_of_lt (Nat.sub_le _ _) hr.below)
  obtain ⟨p1, p2⟩ := Pos.of u2 u3
  refine ⟨u, ?_, p1, p2⟩
  obtain ⟨f1, f2, f3, f4⟩ := neg_num ht.u ((fin_num ht.fin).1)
  have fn : Fin' (negG t) := by unfold Fin'; rw [f2]; exact ht.fin
  have sn : SV (negG t) = -(V t : Int) := by
    unfold SV
    rw [f3, ht.ng, V_sz f4 ht.u f2]; rfl
  unfold SubG
  rw [add_total hr.u f4 hr.fin fn, hr.ng, hr.SV, sn]
  unfold NT
  have e3 : ((V r : Int) + -(V t : Int)).natAbs = V r - V t := by omega
  have e4 : (if (V r : Int) + -(V t : Int) = 0 then (false && ngb (negG t)) else decide ((V r : Int) + -(V t : Int) < 0)) = false := by
    split
    · rfl
    · exact decide_eq_false (by omega)
  rw [e4, e3, nearest_rung, u1, word_false]
end Fp
namespace Fp
open Go Go.RowKit Ieee
set_option linter.unusedVariables false
set_option linter.unusedSimpArgs false
/-- the divisor, made as great as it may be. -/
def modE (r y : Int) : Int := (if oman r < oman y then oexp r - 1 else oexp r) - oexp y
theorem near2_rung (n : Nat) (h0 : n ≠ 0) : near2 false n false (-1074) = rungN n (-1074) := by
  rw [← nearest_eq _ _ _ h0, nearest_rung, word_false]
theorem near2_V {y : Int} (hu : U64 y) (hz : ¬ sz y = 0) (d : Nat) : near2 false (oman y).toNat false (oexp y + d) = rungN (V y * 2 ^ d) (-1074) := by
  have ho := opened hu hz
  have he := oexp_bd hu
  have hm : (oman y).toNat ≠ 0 := by have := ho.lo; omega
  have hv := V_open hu hz
  have v0 : V y ≠ 0 := fun c => hz ((V_zero_iff hu).1 c)
  have h1 : oexp y + (d : Int) = ((d : Int) - 1138) + ((oexp y + 1138).toNat : Nat) := by omega
  have h2 : (d : Int) - 1138 + ((64 : Nat) : Int) = -1074 + (d : Nat) := by omega
  have h3 : V y * 2 ^ d ≠ 0 := Nat.mul_ne_zero v0 (Nat.ne_of_gt (Nat.two_pow_pos _))
  rw [h1, ← near2_scale false _ _ _ hm, ← hv, near2_scale false _ _ _ v0, h2, ← near2_scale false _ _ _ v0, near2_rung _ h3]
theorem mod_step {r y : Int} (hr : Pos r) (hy : Pos y) (y0 : y ≠ 0) (h : y ≤ r) : 0 ≤ modE r y ∧ modE r y ≤ 2200 ∧ ∃ T u : Int,
    ((near2 false (oman y).toNat false (oexp y + modE r y) : Nat) : Int) = T ∧ Pos T ∧ SubG r T = u ∧ Pos u ∧ u < r ∧ V u % V y = V r % V y := by
  have zy : ¬ sz y = 0 := by rw [hy.sz]; exact y0
  have zr : ¬ sz r = 0 := by rw [hr.sz]; have := hy.lo; omega
  have oy := opened hy.u zy
  have or := opened hr.u zr
  have ey := oexp_bd hy.u
  have er := oexp_bd hr.u
  have mono : oexp y ≤ oexp r := oexp_mono hy.u hr.u zy (by rw [hy.sz, hr.sz]; exact h)
  have vy := V_open hy.u zy
  have vr' := V_open hr.u zr
  have hle : V y ≤ V r := by have := mt (hr.lt hy).1 (by omega); omega
  have v0 : V y ≠ 0 := fun c => zy ((V_zero_iff hy.u).1 c)
  have y63 := oy.lo
  have y64 := oy.hi
  have r63 := or.lo
  have r64 := or.hi
  obtain ⟨Y, hY⟩ : ∃ Y, (oman y).toNat = Y := ⟨_, rfl⟩
  obtain ⟨R, hR⟩ : ∃ Y, (oman r).toNat = Y := ⟨_, rfl⟩
  obtain ⟨A, hA⟩ : ∃ Y, (oexp y + 1138).toNat = Y := ⟨_, rfl⟩
  obtain ⟨B, hB⟩ : ∃ Y, (oexp r + 1138).toNat = Y := ⟨_, rfl⟩
  rw [hY, hA] at vy
  rw [hR, hB] at vr'
  -- how far
  have key : ∃ d : Nat, modE r y = d ∧ V y * 2 ^ d ≤ V r ∧ V r < 2 * (V y * 2 ^ d) := by
    unfold modE
    by_cases c : oman r < oman y
    · have hlt : oexp y < oexp r := by
        rcases Int.lt_or_eq_of_le mono with g | g
        · exact g
        · exfalso
          have hAB : A = B := by omega
          subst hAB
          have h1 : Y * 2 ^ A ≤ R * 2 ^ A := by rw [← vy, ← vr']; exact Nat.mul_le_mul_right _ hle
          have := Nat.le_of_mul_le_mul_right h1 (Nat.two_pow_pos A)
          omega
      rw [if_pos c]
      refine ⟨(oexp r - 1 - oexp y).toNat, by omega, ?_⟩
      obtain ⟨d, hd⟩ : ∃ d, (oexp r - 1 - oexp y).toNat = d := ⟨_, rfl⟩
      rw [hd]
      have hB2 : B = A + d + 1 := by omega
      have p := Nat.two_pow_pos 64
      have e1 : V y * 2 ^ d * 2 ^ 64 = Y * 2 ^ (A + d) := by
        rw [Nat.mul_right_comm, vy, Nat.mul_assoc, ← Nat.pow_add]
      have e2 : V r * 2 ^ 64 = (2 * R) * 2 ^ (A + d) := by
        rw [vr', hB2, Nat.pow_succ, Nat.mul_comm (2 ^ (A + d)) 2, ← Nat.mul_assoc, Nat.mul_comm R 2]
      constructor
      · apply Nat.le_of_mul_le_mul_right _ p
        rw [e1, e2]; exact Nat.mul_le_mul_right _ (by omega)
      · apply Nat.lt_of_mul_lt_mul_right (a := 2 ^ 64)
        rw [Nat.mul_assoc, e1, e2, Nat.mul_assoc]
        apply Nat.mul_lt_mul_of_pos_left _ (by omega)
        exact Nat.mul_lt_mul_of_pos_right (by omega) (Nat.two_pow_pos _)
    · rw [if_neg c]
      refine ⟨(oexp r - oexp y).toNat, by omega, ?_⟩
      obtain ⟨d, hd⟩ : ∃ d, (oexp r - oexp y).toNat = d := ⟨_, rfl⟩
      rw [hd]
      have hB2 : B = A + d := by omega
      have p := Nat.two_pow_pos 64
      have e1 : V y * 2 ^ d * 2 ^ 64 = Y * 2 ^ (A + d) := by
        rw [Nat.mul_right_comm, vy, Nat.mul_assoc, ← Nat.pow_add]
      have e2 : V r * 2 ^ 64 = R * 2 ^ (A + d) := by rw [vr', hB2]
      constructor
      · apply Nat.le_of_mul_le_mul_right _ p
        rw [e1, e2]; exact Nat.mul_le_mul_right _ (by omega)
      · apply Nat.lt_of_mul_lt_mul_right (a := 2 ^ 64)
        rw [Nat.mul_assoc, e1, e2, ← Nat.mul_assoc]
        exact Nat.mul_lt_mul_of_pos_right (by omega) (Nat.two_pow_pos _)
  have hup : modE r y ≤ 2200 := by unfold modE; split <;> omega
  obtain ⟨d, hd, k1, k2⟩ := key
  have hm := mant_lt hy.u
  obtain ⟨u, u1, u2, u3⟩ := rep (V y * 2 ^ d) (mant y).toNat ((pl y + 1074).toNat + d) (by unfold V; rw [Nat.mul_assoc, ← Nat.pow_add]) hm (Nat.lt_of_le_of_lt k1 hr.below)
  obtain ⟨p1, p2⟩ := Pos.of u2 u3
  rw [← p2] at k1 k2
  have hur : (u : Int) ≤ r := by
    have := mt (hr.lt p1).2 (by omega); omega
  obtain ⟨v, w1, w2, w3⟩ := sub_exact hr p1 hur k2
  have u0 : 0 < V (u : Int) := by rw [p2]; exact Nat.mul_pos (by omega) (Nat.two_pow_pos _)
  refine ⟨by omega, hup, u, v, ?_, p1, w1, w2, ?_, ?_⟩
  · rw [hd, near2_V hy.u zy, u1]
  · exact (w2.lt hr).1 (by omega)
  · rw [w3, p2]
    have : V y * 2 ^ d ≤ V r := by rw [← p2]; exact k1
    exact (Nat.sub_mul_mod this)
/-- soft's rest, as a word. -/
theorem rem_word {a b : Int} (ha : U64 a) (hb : U64 b) (fa : sz a < 9218868437227405312) (fb : sz b < 9218868437227405312) (zb : ¬ sz b = 0) (h : sz b ≤ sz a) :
    RemG a b = sgnG (ngb a) ((rungN (V a % V b) (-1074) : Nat) : Int) := by
  have zs := sz_nonneg hb
  have za : ¬ sz a = 0 := by omega
  have oa := opened ha za
  have ob := opened hb zb
  have ea := oexp_bd ha
  have eb := oexp_bd hb
  have mono : oexp b ≤ oexp a := oexp_mono hb ha zb h
  have va := V_open ha za
  have vb := V_open hb zb
  have e11n : (2 : Nat) ^ 11 = 2048 := by decide
  have a63 := oa.lo
  have a64 := oa.hi
  have b63 := ob.lo
  have b64 := ob.hi
  have e : RemG a b = sgnG (ngb a) (NearG (oman a / 2048 * 2 ^ (oexp a - oexp b).toNat % (oman b / 2048)) (oexp b + 11) false) := by
    unfold RemG
    rw [if_neg ?_, if_neg (by omega)]
    rw [(fin_num fa).1, (fin_num fb).1, (fin_num fa).2]
    have : isZ b = false := by rw [Bool.eq_false_iff]; intro c; rw [isZ_iff] at c; exact zb c
    rw [this]; decide
  rw [e]
  congr 1
  have sa := oa.lower
  have sb := ob.lower
  obtain ⟨X, hX⟩ : ∃ X, (oman a / 2048).toNat = X := ⟨_, rfl⟩
  obtain ⟨Y, hY⟩ : ∃ X, (oman b / 2048).toNat = X := ⟨_, rfl⟩
  have eX : (oman a).toNat = X * 2 ^ 11 := by omega
  have eY : (oman b).toNat = Y * 2 ^ 11 := by omega
  obtain ⟨A, hA⟩ : ∃ Y, (oexp b + 1138).toNat = Y := ⟨_, rfl⟩
  obtain ⟨f, hf⟩ : ∃ f, (oexp a - oexp b).toNat = f := ⟨_, rfl⟩
  have hB : (oexp a + 1138).toNat = f + A := by omega
  rw [eX, hB] at va
  rw [eY, hA] at vb
  have cp (k : Nat) : (2 : Int) ^ k = ((2 ^ k : Nat) : Int) := by rw [Int.natCast_pow]; rfl
  have iX : oman a / 2048 = (X : Int) := by omega
  have iY : oman b / 2048 = (Y : Int) := by omega
  rw [hf, iX, iY, cp, ← Int.natCast_mul, ← Int.natCast_emod]
  obtain ⟨q, hq⟩ : ∃ q, X * 2 ^ f % Y = q := ⟨_, rfl⟩
  rw [hq]
  have main : V a % V b * 2 ^ 64 = q * 2 ^ (11 + A) := by
    rw [← Nat.mul_mod_mul_right, va, vb, Nat.mul_assoc X, ← Nat.pow_add, Nat.mul_assoc Y, ← Nat.pow_add, show 11 + (f + A) = f + (11 + A) by omega, Nat.pow_add, ← Nat.mul_assoc, Nat.mul_mod_mul_right, hq]
  have yb : 0 < Y := by omega
  have qb : q < Y := by rw [← hq]; exact Nat.mod_lt _ yb
  by_cases c : q = 0
  · have : V a % V b = 0 := by
      rw [c, Nat.zero_mul] at main
      rcases Nat.mul_eq_zero.1 main with g | g
      · exact g
      · exact absurd g (Nat.ne_of_gt (Nat.two_pow_pos _))
    rw [this, c, rungN, if_pos rfl]
    unfold NearG
    rw [if_pos (show ((0 : Nat) : Int) = 0 from rfl), if_neg (by decide)]; rfl
  · have n0 : V a % V b ≠ 0 := fun g => by
      rw [g, Nat.zero_mul] at main
      rcases Nat.mul_eq_zero.1 main.symm with k | k
      · exact c k
      · exact absurd k (Nat.ne_of_gt (Nat.two_pow_pos _))
    rw [near_doc0 _ _ ⟨by omega, by omega⟩]
    unfold nearD
    have ecl : cl (oexp b + 11) = oexp b + 11 := by unfold cl; omega
    rw [if_neg (by omega), ecl, Int.toNat_natCast, ← near2_rung _ n0]
    have h1 : oexp b + 11 = (-1074 - ((64 : Nat) : Int)) + ((11 + A : Nat) : Int) := by omega
    rw [h1, ← near2_scale false _ _ _ c, ← main, near2_scale false _ _ _ n0]
    congr 2
end Fp
