/- Plain facts: order, the other sign, the one NaN, against the model's floats. -/
import Derived.Test.YtkiakflmoplmeaaFp
namespace Fp
open Go Go.RowKit Ieee
set_option linter.unusedVariables false
set_option linter.unusedSimpArgs false

/-- what Of makes of a float's bits -/
def OfG (x : Nat) : Int := if isNaN (x : Int) then 9221120237041090560 else (x : Int)

theorem Less_ok {a b : Int} (ha : U64 a) (hb : U64 b) : (double.order a.toNat b.toNat == some .lt) = LessG a b := by
  cases na : isNaN a
  · cases nb : isNaN b
    · rw [order_SR ha hb na nb]
      have ea := sz_eq ha
      have eb := sz_eq hb
      have a0 := ha.lo
      have a1 := ha.hi
      have b0 := hb.lo
      have b1 := hb.hi
      have key : LessG a b = decide (SR a < SR b) := by
        unfold LessG
        rw [na, nb]
        simp only [Bool.not_false, Bool.true_and]
        have za : isZ a = decide (sz a = 0) := by rw [Bool.eq_iff_iff, isZ_iff]; simp
        have zb : isZ b = decide (sz b = 0) := by rw [Bool.eq_iff_iff, isZ_iff]; simp
        rw [za, zb]
        unfold SR ngb
        by_cases c1 : 9223372036854775808 ≤ a <;> by_cases c2 : 9223372036854775808 ≤ b <;> simp only [c1, c2, decide_true, decide_false, if_true, if_false] <;> rw [Bool.eq_iff_iff] <;> simp <;> omega
      rw [key]
      rcases cmp_cases (SR a) (SR b) with ⟨h, e⟩ | ⟨h, e⟩ | ⟨h, e⟩
      · rw [e, decide_eq_true h]; rfl
      · rw [e, decide_eq_false (by omega)]; rfl
      · rw [e, decide_eq_false (by omega)]; rfl
    · rw [order_nan ha hb (.inr nb)]; simp [LessG, nb]
  · rw [order_nan ha hb (.inl na)]; simp [LessG, na]
theorem Equal_ok {a b : Int} (ha : U64 a) (hb : U64 b) : (double.order a.toNat b.toNat == some .eq) = EqualG a b := by
  cases na : isNaN a
  · cases nb : isNaN b
    · rw [order_SR ha hb na nb]
      have ea := sz_eq ha
      have eb := sz_eq hb
      have a0 := ha.lo
      have a1 := ha.hi
      have b0 := hb.lo
      have b1 := hb.hi
      have key : EqualG a b = decide (SR a = SR b) := by
        unfold EqualG
        rw [na, nb]
        simp only [Bool.not_false, Bool.true_and]
        have za : isZ a = decide (sz a = 0) := by rw [Bool.eq_iff_iff, isZ_iff]; simp
        have zb : isZ b = decide (sz b = 0) := by rw [Bool.eq_iff_iff, isZ_iff]; simp
        rw [za, zb]
        unfold SR ngb
        by_cases c1 : 9223372036854775808 ≤ a <;> by_cases c2 : 9223372036854775808 ≤ b <;> simp only [c1, c2, decide_true, decide_false, if_true, if_false] <;> rw [Bool.eq_iff_iff] <;> simp <;> omega
      rw [key]
      rcases cmp_cases (SR a) (SR b) with ⟨h, e⟩ | ⟨h, e⟩ | ⟨h, e⟩
      · rw [e, decide_eq_false (by omega)]; rfl
      · rw [e, decide_eq_true h]; rfl
      · rw [e, decide_eq_false (by omega)]; rfl
    · rw [order_nan ha hb (.inr nb)]; simp [EqualG, nb]
  · rw [order_nan ha hb (.inl na)]; simp [EqualG, na]
theorem self_ok {a : Int} (ha : U64 a) : (double.order a.toNat a.toNat != some .eq) = isNaN a := by
  rw [bne, Equal_ok ha ha]
  cases na : isNaN a <;> simp [EqualG, na]
theorem neg_bits {a : Int} (ha : U64 a) : OfG (Op.negFloat .f64 a.toNat) = negG a := by
  have h0 := ha.lo
  have h1 := ha.hi
  have e : ((Op.negFloat .f64 a.toNat : Nat) : Int) = Go.bits .xor .u64 a 9223372036854775808 := by
    have h := bits_xor64 a.toNat (2 ^ 63) (by omega) (by decide)
    rw [← e63, show ((a.toNat : Nat) : Int) = a by omega] at h
    rw [h]; rfl
  have f := (flip_facts ha).2.1
  unfold OfG negG
  rw [e]
  have : isNaN (Go.bits .xor .u64 a 9223372036854775808) = isNaN a := by
    rw [Bool.eq_iff_iff, nan_iff', nan_iff', f]
  rw [this]
theorem xor_lt (n : Nat) (h : n < 18446744073709551616) : n ^^^ 2 ^ 63 < 18446744073709551616 := by
  have e64 : (2 : Nat) ^ 64 = 18446744073709551616 := by decide
  rw [← e64] at h ⊢
  exact Nat.xor_lt_two_pow h (by decide)
theorem neg_wf {a : Int} (ha : U64 a) : Op.negFloat .f64 a.toNat < 18446744073709551616 := by
  have h0 := ha.lo
  have h1 := ha.hi
  have h : a.toNat < 18446744073709551616 := by omega
  have g := xor_lt a.toNat h
  unfold Op.negFloat
  rw [show FloatKind.f64.format.exponentBits + FloatKind.f64.format.fractionBits = 63 from rfl]
  exact g
theorem maxfin : U64 9218868437227405311 ∧ isNaN 9218868437227405311 = false ∧ SR 9218868437227405311 = 9218868437227405311 := by
  have hm : U64 9218868437227405311 := ⟨by omega, by omega⟩
  have sm : sz 9218868437227405311 = 9218868437227405311 := by rw [sz_eq hm]; omega
  have gm : ngb 9218868437227405311 = false := by unfold ngb; exact decide_eq_false (by omega)
  refine ⟨hm, ?_, ?_⟩
  · rw [Bool.eq_false_iff]; intro h; rw [nan_iff', sm] at h; omega
  · unfold SR; rw [gm, if_neg (by decide), sm]
theorem isInf_ok' {a : Int} (ha : U64 a) (m : Int) (hm : U64 m) (nm : isNaN m = false) (e2 : SR m = m) (em : m = 9218868437227405311) : (double.order (sz a).toNat m.toNat == some .gt) = isInf a := by
  have h0 := ha.lo
  have h1 := ha.hi
  have es := sz_eq ha
  have hs : U64 (sz a) := ⟨by omega, by omega⟩
  have ss : sz (sz a) = sz a := by rw [sz_eq hs]; omega
  have ng : ngb (sz a) = false := by unfold ngb; exact decide_eq_false (by omega)
  have nn : isNaN (sz a) = isNaN a := by rw [Bool.eq_iff_iff, nan_iff', nan_iff', ss]
  have eI : isInf a = decide (sz a = 9218868437227405312) := by rw [Bool.eq_iff_iff, inf_iff]; simp
  rw [eI]
  cases na : isNaN a
  · rw [order_SR hs hm (nn.trans na) nm]
    have hn : ¬ 9218868437227405312 < sz a := by rw [← nan_iff']; simp [na]
    have e1 : SR (sz a) = sz a := by unfold SR; rw [ng, ss, if_neg (by decide)]
    rw [e1, e2]
    rcases cmp_cases (sz a) m with ⟨h, e⟩ | ⟨h, e⟩ | ⟨h, e⟩
    · rw [e, decide_eq_false (by omega)]; rfl
    · rw [e, decide_eq_false (by omega)]; rfl
    · rw [e, decide_eq_true (by omega)]; rfl
  · rw [order_nan hs hm (.inl (nn.trans na))]
    have hn := nan_iff'.1 na
    rw [decide_eq_false (by omega)]; rfl
theorem isInf_ok {a : Int} (ha : U64 a) : (double.order (sz a).toNat 9218868437227405311 == some .gt) = isInf a := by
  obtain ⟨h1, h2, h3⟩ := maxfin
  have h := isInf_ok' ha 9218868437227405311 h1 h2 h3 rfl
  rw [show (9218868437227405311 : Int).toNat = 9218868437227405311 by omega] at h
  exact h
end Fp
