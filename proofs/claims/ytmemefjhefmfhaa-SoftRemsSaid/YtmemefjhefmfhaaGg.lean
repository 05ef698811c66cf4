/- Plain facts: differences and rests that are exact. -/
import Derived.Test.YtmemefjhefmfhaaGf
import Derived.Test.YtmemefjhefmfhaaFv
namespace Fp
open Go Go.RowKit Ieee
set_option linter.unusedVariables false
set_option linter.unusedSimpArgs false
def E46 : Nat := 2046
theorem hE46 : E46 = 2046 := rfl
theorem vr_inf : vr 9218868437227405312 = 4503599627370496 * 2 ^ E46 := by
  have h1 : 9218868437227405312 % 4503599627370496 = 0 := by omega
  have h2 : 9218868437227405312 / 4503599627370496 - 1 = E46 := by rw [hE46]
  unfold vr
  rw [if_neg (by omega), h1, h2]
theorem rung_parts (c z : Nat) (hc : c ≤ 2045) (z0 : 4503599627370496 ≤ z) (z1 : z < 9007199254740992) : c * 4503599627370496 + z < 9218868437227405312 ∧ ¬ c * 4503599627370496 + z < 4503599627370496 ∧ (c * 4503599627370496 + z) / 4503599627370496 - 1 = c ∧ 4503599627370496 + (c * 4503599627370496 + z) % 4503599627370496 = z := by
  have h : (c * 4503599627370496 + z) / 4503599627370496 = c + 1 := by
    rw [Nat.mul_comm, Nat.mul_add_div (by omega)]; congr 1; omega
  have h2 : (c * 4503599627370496 + z) % 4503599627370496 = z - 4503599627370496 := by
    rw [Nat.mul_comm, Nat.mul_add_mod]; omega
  exact ⟨by omega, by omega, by omega, by omega⟩
theorem min_left' (n m : Nat) (h : n < 9007199254740992) (hm : m = 9218868437227405312) : min (0 * 4503599627370496 + n) m = n := by subst hm; rw [Nat.zero_mul, Nat.zero_add]; exact Nat.min_eq_left (by omega)
/-- a number of 53 bits times a power of two has a word. -/
theorem rep (n m k : Nat) (h : n = m * 2 ^ k) (hm : m < 9007199254740992) (hn : n < vr 9218868437227405312) : ∃ u : Nat, rungN n (-1074) = u ∧ u < 9218868437227405312 ∧ vr u = n := by
  have e52n : (2 : Nat) ^ 52 = 4503599627370496 := by decide
  have e53n : (2 : Nat) ^ 53 = 9007199254740992 := by decide
  by_cases h0 : n = 0
  · exact ⟨0, by rw [rungN, if_pos h0], by omega, by rw [h0]; decide⟩
  have lo := log2_lo h0
  have hi := log2_hi h0
  have hlt : n.log2 < 2098 := by
    rw [vr_inf, ← e52n, ← Nat.pow_add] at hn
    exact (log2_lt' h0).2 (by rw [show 52 + E46 = 2098 from rfl] at hn; exact hn)
  obtain ⟨l, hl⟩ : ∃ l, n.log2 = l := ⟨_, rfl⟩
  rw [hl] at lo hi hlt
  by_cases hs : l ≤ 52
  · have hn2 : n < 9007199254740992 := by
      rw [← e53n]; exact Nat.lt_of_lt_of_le hi (Nat.pow_le_pow_right (by omega) (by omega))
    have eL : lastP n (-1074) = -1074 := by unfold lastP; rw [hl]; omega
    refine ⟨n, ?_, by omega, ?_⟩
    · unfold rungN
      rw [if_neg h0, eL, e52n, show ((-1074 : Int) - -1074).toNat = 0 by decide, show ((-1074 : Int) + 1074).toNat = 0 by decide, Nat.pow_zero, Nat.mul_one, rne_zero]
      exact min_left' n _ hn2 infRung_d
    · unfold vr
      by_cases c : n < 4503599627370496
      · rw [if_pos c]
      · rw [if_neg c, show n / 4503599627370496 - 1 = 0 by omega, Nat.pow_zero]; omega
  · obtain ⟨c, hc⟩ : ∃ c, l = c + 52 := ⟨l - 52, by omega⟩
    have hk : c ≤ k := by
      have h1 : n < 2 ^ (53 + k) := by
        rw [h, Nat.pow_add, e53n]; exact Nat.mul_lt_mul_of_pos_right hm (Nat.two_pow_pos k)
      have := (log2_lt' h0).2 h1
      omega
    obtain ⟨z, hz⟩ : ∃ z, m * 2 ^ (k - c) = z := ⟨_, rfl⟩
    have en : n = z * 2 ^ c := by rw [h, ← hz, Nat.mul_assoc, ← Nat.pow_add, show k - c + c = k by omega]
    have z0 : 4503599627370496 ≤ z := by
      rw [en, hc, Nat.pow_add, Nat.mul_comm (2 ^ c), e52n] at lo
      exact Nat.le_of_mul_le_mul_right lo (Nat.two_pow_pos c)
    have z1 : z < 9007199254740992 := by
      rw [en, hc, show c + 52 + 1 = 53 + c by omega, Nat.pow_add, e53n] at hi
      exact Nat.lt_of_mul_lt_mul_right hi
    have eL : lastP n (-1074) = (c : Int) - 1074 := by unfold lastP; rw [hl]; omega
    have er : rne n false c = z := by
      have := rne_exact z c 0
      rw [Nat.zero_add, rne_zero] at this
      rw [en]; exact this
    have hcb : c ≤ 2045 := by omega
    obtain ⟨b1, b2, b3, b4⟩ := rung_parts c z hcb z0 z1
    have eu : rungN n (-1074) = c * 4503599627370496 + z := by
      unfold rungN
      rw [if_neg h0, eL, e52n, show ((-1074 : Int) - ((c : Int) - 1074)).toNat = 0 by omega, show ((c : Int) - 1074 + 1074).toNat = c by omega, show ((c : Int) - 1074 - -1074).toNat = c by omega, Nat.pow_zero, Nat.mul_one, er, infRung_d]
      exact Nat.min_eq_left (Nat.le_of_lt b1)
    refine ⟨c * 4503599627370496 + z, eu, b1, ?_⟩
    unfold vr
    rw [if_neg b2, b3, b4, en]
/-- a finite number that is not less than 0, by its word. -/
structure Pos (r : Int) : Prop where
  lo : 0 ≤ r
  hi : r < 9218868437227405312
theorem Pos.u {r : Int} (h : Pos r) : U64 r := ⟨h.lo, by have := h.hi; omega⟩
theorem Pos.sz {r : Int} (h : Pos r) : Fp.sz r = r := by
  have := sz_eq h.u; have := h.lo; have := h.hi; omega
theorem Pos.ng {r : Int} (h : Pos r) : ngb r = false := decide_eq_false (by have := h.hi; omega)
theorem Pos.fin {r : Int} (h : Pos r) : Fp.sz r < 9218868437227405312 := by rw [h.sz]; exact h.hi
theorem Pos.SV {r : Int} (h : Pos r) : Fp.SV r = (V r : Int) := by unfold Fp.SV; rw [h.ng]; rfl
theorem Pos.SR {r : Int} (h : Pos r) : Fp.SR r = r := by unfold Fp.SR; rw [h.ng, h.sz]; rfl
theorem Pos.V {r : Int} (h : Pos r) : Fp.V r = vr r.toNat := by rw [V_vr h.u, h.sz]
theorem Pos.lt {r t : Int} (h : Pos r) (k : Pos t) : Fp.V r < Fp.V t ↔ r < t := by
  rw [h.V, k.V, vr_lt_iff]; have := h.lo; have := k.lo; omega
theorem Pos.below {r : Int} (h : Pos r) : Fp.V r < vr 9218868437227405312 := by
  rw [h.V, vr_lt_iff]; have := h.lo; have := h.hi; omega
theorem Pos.of {n u : Nat} (h1 : u < 9218868437227405312) (h2 : vr u = n) : Pos (u : Int) ∧ Fp.V (u : Int) = n := by
  have p : Pos (u : Int) := ⟨by omega, by omega⟩
  exact ⟨p, by rw [p.V, Int.toNat_natCast, h2]⟩
theorem word_false (r : Nat) : double.word false r = r := by unfold Format.word; simp
/-- the size, in words of the opened number. -/
theorem V_open {a : Int} (hu : U64 a) (hz : ¬ sz a = 0) : V a * 2 ^ 64 = (oman a).toNat * 2 ^ (oexp a + 1138).toNat := by
  obtain ⟨l, h1, h2, h3, h4, h5, h6⟩ := parts hu hz
  have hp := pl_bd hu
  unfold V
  rw [h1, h2, Int.toNat_natCast, Nat.mul_assoc, Nat.mul_assoc, ← Nat.pow_add, ← Nat.pow_add]
  congr 2; omega
theorem mant_lt {a : Int} (hu : U64 a) : (mant a).toNat < 9007199254740992 := by
  have h := mant_eq hu
  have h0 := hu.lo
  split at h <;> omega
/-- the difference of two is exact, where it may be. -/
theorem sub_exact {r t : Int} (hr : Pos r) (ht : Pos t) (h : t ≤ r) (h2 : V r < 2 * V t) : ∃ u : Int, SubG r t = u ∧ Pos u ∧ V u = V r - V t := by
  have hle : V t ≤ V r := by
    have := mt (hr.lt ht).1 (by omega); omega
  obtain ⟨A, hA⟩ : ∃ A, (pl t + 1074).toNat = A := ⟨_, rfl⟩
  obtain ⟨B, hB⟩ : ∃ B, (pl r + 1074).toNat = B := ⟨_, rfl⟩
  have et : V t = (mant t).toNat * 2 ^ A := by unfold V; rw [hA]
  have er : V r = (mant r).toNat * 2 ^ B := by unfold V; rw [hB]
  have mt := mant_lt ht.u
  have mr := mant_lt hr.u
  obtain ⟨X, hX⟩ : ∃ X, (mant t).toNat = X := ⟨_, rfl⟩
  obtain ⟨Y, hY⟩ : ∃ Y, (mant r).toNat = Y := ⟨_, rfl⟩
  rw [hX] at et mt
  rw [hY] at er mr
  have hrep : ∃ m k, V r - V t = m * 2 ^ k ∧ m < 9007199254740992 := by
    by_cases c : A ≤ B
    · refine ⟨Y * 2 ^ (B - A) - X, A, ?_, ?_⟩
      · rw [Nat.sub_mul, Nat.mul_assoc, ← Nat.pow_add, show B - A + A = B by omega, er, et]
      · have h3 : (Y * 2 ^ (B - A)) * 2 ^ A < (2 * X) * 2 ^ A := by
          rw [Nat.mul_assoc, ← Nat.pow_add, show B - A + A = B by omega, ← er, Nat.mul_assoc, ← et]; exact h2
        have := Nat.lt_of_mul_lt_mul_right h3
        omega
    · refine ⟨Y - X * 2 ^ (A - B), B, ?_, by omega⟩
      rw [Nat.sub_mul, Nat.mul_assoc, ← Nat.pow_add, show A - B + B = A by omega, er, et]
  obtain ⟨m, k, e1, e2⟩ := hrep
  obtain ⟨u, u1, u2, u3⟩ := rep (V r - V t) m k e1 e2 (Nat.lt_of_le_of_lt (Nat.sub_le _ _) hr.below)
  obtain ⟨p1, p2⟩ := Pos.of u2 u3
  refine ⟨u, ?_, p1, p2⟩
  obtain ⟨f1, f2, f3, f4⟩ := neg_num ht.u ((fin_num ht.fin).1)
  have fn : Fin' (negG t) := by unfold Fin'; rw [f2]; exact ht.fin
  have sn : SV (negG t) = -(V t : Int) := by
    unfold SV
    rw [f3, ht.ng, V_sz f4 ht.u f2]; rfl
  unfold SubG
  rw [add_total hr.u f4 hr.fin fn, hr.ng, hr.SV, sn]
  unfold NT
  have e3 : ((V r : Int) + -(V t : Int)).natAbs = V r - V t := by omega
  have e4 : (if (V r : Int) + -(V t : Int) = 0 then (false && ngb (negG t)) else decide ((V r : Int) + -(V t : Int) < 0)) = false := by
    split
    · rfl
    · exact decide_eq_false (by omega)
  rw [e4, e3, nearest_rung, u1, word_false]
end Fp
