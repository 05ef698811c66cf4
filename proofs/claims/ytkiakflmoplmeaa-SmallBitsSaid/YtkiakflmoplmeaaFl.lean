/- Plain facts: the order of two words, by what they stand for and by their bits. -/
import Derived.Test.YtkiakflmoplmeaaFi
namespace Fp
open Go Go.RowKit Ieee
set_option linter.unusedVariables false
set_option linter.unusedSimpArgs false

theorem cmp_lt {x y : Int} (h : x < y) : compare x y = .lt := by simp [compare, compareOfLessAndEq, h]
theorem cmp_eq {x y : Int} (h : x = y) : compare x y = .eq := by simp [compare, compareOfLessAndEq, h]
theorem cmp_gt {x y : Int} (h : y < x) : compare x y = .gt := by
  have h1 : ¬ x < y := by omega
  have h2 : ¬ x = y := by omega
  simp [compare, compareOfLessAndEq, h1, h2]
theorem cmp_cases (x y : Int) : (x < y ∧ compare x y = .lt) ∨ (x = y ∧ compare x y = .eq) ∨ (y < x ∧ compare x y = .gt) := by
  rcases Int.lt_trichotomy x y with h | h | h
  · exact .inl ⟨h, cmp_lt h⟩
  · exact .inr (.inl ⟨h, cmp_eq h⟩)
  · exact .inr (.inr ⟨h, cmp_gt h⟩)
theorem cmp_mono {x y x' y' : Int} (h1 : x < y ↔ x' < y') (h2 : y < x ↔ y' < x') : compare x y = compare x' y' := by
  rcases Int.lt_trichotomy x y with h | h | h
  · rw [cmp_lt h, cmp_lt (h1.1 h)]
  · have a : ¬ x' < y' := fun g => by have := h1.2 g; omega
    have b : ¬ y' < x' := fun g => by have := h2.2 g; omega
    rw [cmp_eq h, cmp_eq (by omega)]
  · rw [cmp_gt h, cmp_gt (h2.1 h)]
theorem cmp_mul {x y c : Int} (hc : 0 < c) : compare (x * c) (y * c) = compare x y :=
  cmp_mono (Int.mul_lt_mul_right hc) (Int.mul_lt_mul_right hc)

/-- what a word stands for, in units of 2^-1074; with its sign -/
def V (a : Int) : Nat := (mant a).toNat * 2 ^ (pl a + 1074).toNat
def SV (a : Int) : Int := if ngb a then -(V a : Int) else (V a : Int)
/-- the bits without the sign, with it -/
def SR (a : Int) : Int := if ngb a then -(sz a) else sz a
def vr (r : Nat) : Nat := if r < 4503599627370496 then r else (4503599627370496 + r % 4503599627370496) * 2 ^ (r / 4503599627370496 - 1)

theorem V_vr {a : Int} (hu : U64 a) : V a = vr (sz a).toNat := by
  have es := sz_eq hu
  have em := mant_eq hu
  have ee := eb_eq hu
  unfold V vr pl
  by_cases hk : 0 < eb a
  · have h1 : ¬ (sz a).toNat < 4503599627370496 := by omega
    have h2 : (mant a).toNat = 4503599627370496 + (sz a).toNat % 4503599627370496 := by rw [em, if_pos hk]; omega
    have h3 : (eb a - 1075 + 1074).toNat = (sz a).toNat / 4503599627370496 - 1 := by omega
    rw [if_pos hk, if_neg h1, h2, h3]
  · have h1 : (sz a).toNat < 4503599627370496 := by omega
    have h2 : (mant a).toNat = (sz a).toNat := by rw [em, if_neg hk]; omega
    have h3 : ((-1074 : Int) + 1074).toNat = 0 := by decide
    rw [if_neg hk, if_pos h1, h2, h3, Nat.pow_zero, Nat.mul_one]

theorem vr_lt {r t : Nat} (h : r < t) : vr r < vr t := by
  unfold vr
  have hf : ∀ q : Nat, q % 4503599627370496 < 4503599627370496 := fun q => Nat.mod_lt _ (by decide)
  have p52 : (2 : Nat) ^ 52 = 4503599627370496 := by decide
  by_cases h1 : r < 4503599627370496
  · rw [if_pos h1]
    by_cases h2 : t < 4503599627370496
    · rw [if_pos h2]; exact h
    · rw [if_neg h2]
      have := Nat.two_pow_pos (t / 4503599627370496 - 1)
      have := Nat.mul_le_mul (show 4503599627370496 ≤ 4503599627370496 + t % 4503599627370496 by omega) this
      omega
  · have h2 : ¬ t < 4503599627370496 := by omega
    rw [if_neg h1, if_neg h2]
    obtain ⟨q, hq⟩ : ∃ q, r / 4503599627370496 - 1 = q := ⟨_, rfl⟩
    obtain ⟨u, hu⟩ : ∃ u, t / 4503599627370496 - 1 = u := ⟨_, rfl⟩
    rw [hq, hu]
    have hK := Nat.two_pow_pos q
    rcases Nat.lt_or_ge q u with hlt | hge
    · have e : 2 ^ (q + 1) ≤ 2 ^ u := Nat.pow_le_pow_right (by omega) hlt
      rw [Nat.pow_succ] at e
      have a1 : (4503599627370496 + r % 4503599627370496) * 2 ^ q < 9007199254740992 * 2 ^ q := Nat.mul_lt_mul_of_pos_right (by have := hf r; omega) hK
      have a2 : 4503599627370496 * 2 ^ u ≤ (4503599627370496 + t % 4503599627370496) * 2 ^ u := Nat.mul_le_mul_right _ (by omega)
      omega
    · have he : q = u := by
        have : r / 4503599627370496 ≤ t / 4503599627370496 := Nat.div_le_div_right (Nat.le_of_lt h)
        omega
      subst he
      have hm : r % 4503599627370496 < t % 4503599627370496 := by
        have a1 := Nat.div_add_mod r 4503599627370496
        have a2 := Nat.div_add_mod t 4503599627370496
        have : r / 4503599627370496 = t / 4503599627370496 := by omega
        rw [this] at a1; omega
      exact Nat.mul_lt_mul_of_pos_right (by omega) hK
theorem vr_lt_iff {r t : Nat} : vr r < vr t ↔ r < t := by
  refine ⟨fun h => ?_, vr_lt⟩
  rcases Nat.lt_trichotomy r t with g | g | g
  · exact g
  · subst g; omega
  · have := vr_lt g; omega
theorem vr_zero : vr 0 = 0 := by decide
theorem sz_nonneg {a : Int} (hu : U64 a) : 0 ≤ sz a := by rw [sz_eq hu]; omega
theorem V_zero_iff {a : Int} (hu : U64 a) : V a = 0 ↔ sz a = 0 := by
  rw [V_vr hu]
  have h0 := sz_nonneg hu
  have := vr_lt_iff (r := 0) (t := (sz a).toNat)
  rw [vr_zero] at this
  omega

/-- the two orders are one. -/
theorem SV_SR {a b : Int} (ha : U64 a) (hb : U64 b) : SV a < SV b ↔ SR a < SR b := by
  have a0 := sz_nonneg ha
  have b0 := sz_nonneg hb
  have za := V_zero_iff ha
  have zb := V_zero_iff hb
  have m1 := vr_lt_iff (r := (sz a).toNat) (t := (sz b).toNat)
  have m2 := vr_lt_iff (r := (sz b).toNat) (t := (sz a).toNat)
  rw [← V_vr ha, ← V_vr hb] at m1
  rw [← V_vr ha, ← V_vr hb] at m2
  unfold SV SR
  generalize V a = x at *
  generalize V b = y at *
  generalize sz a = s at *
  generalize sz b = t at *
  cases ngb a <;> cases ngb b <;> simp only [Bool.false_eq_true, if_false, if_true] <;> omega

theorem signed_SV (s : Bool) (m : Nat) (i base : Int) (h1 : base ≤ i) (h2 : -1074 ≤ base) :
    signed s m (i - base).toNat * ((2 ^ (base + 1074).toNat : Nat) : Int) = if s then -((m * 2 ^ (i + 1074).toNat : Nat) : Int) else ((m * 2 ^ (i + 1074).toNat : Nat) : Int) := by
  have e : m * 2 ^ (i - base).toNat * 2 ^ (base + 1074).toNat = m * 2 ^ (i + 1074).toNat := by
    rw [Nat.mul_assoc, ← Nat.pow_add]; congr 2; omega
  unfold signed
  rw [Nat.shiftLeft_eq]
  cases s
  · simp only [Bool.false_eq_true, if_false]; rw [← Int.natCast_mul, e]
  · simp only [if_true]; rw [Int.neg_mul, ← Int.natCast_mul, e]

theorem pl_bd {a : Int} (hu : U64 a) : -1074 ≤ pl a := by
  have := eb_bd hu; unfold pl; split <;> omega

theorem order_fin {a b : Int} (ha : U64 a) (hb : U64 b) (fa : sz a < 9218868437227405312) (fb : sz b < 9218868437227405312) :
    double.order a.toNat b.toNat = some (compare (SV a) (SV b)) := by
  unfold Format.order
  rw [read_eq ha, read_eq hb, if_pos fa, if_pos fb]
  have p1 := pl_bd ha
  have p2 := pl_bd hb
  simp only [Datum.order, Option.some.injEq]
  have hc : (0 : Int) < ((2 ^ (min (pl a) (pl b) + 1074).toNat : Nat) : Int) := by
    have := Nat.two_pow_pos (min (pl a) (pl b) + 1074).toNat; omega
  rw [← cmp_mul hc, signed_SV _ _ _ _ (Int.min_le_left _ _) (by omega), signed_SV _ _ _ _ (Int.min_le_right _ _) (by omega)]
  rfl

theorem nan_iff' {a : Int} : isNaN a = true ↔ 9218868437227405312 < sz a := by
  unfold isNaN
  rcases kind_cases a with ⟨h, g⟩ | ⟨h, g1, g2⟩ | ⟨h, g⟩ | ⟨h, g1, g2⟩ <;> rw [h] <;> simp <;> omega
theorem inf_iff {a : Int} : isInf a = true ↔ sz a = 9218868437227405312 := by
  unfold isInf
  rcases kind_cases a with ⟨h, g⟩ | ⟨h, g1, g2⟩ | ⟨h, g⟩ | ⟨h, g1, g2⟩ <;> rw [h] <;> simp <;> omega
theorem isZ_iff {a : Int} : isZ a = true ↔ sz a = 0 := by
  unfold isZ
  rcases kind_cases a with ⟨h, g⟩ | ⟨h, g1, g2⟩ | ⟨h, g⟩ | ⟨h, g1, g2⟩ <;> rw [h] <;> simp <;> omega

theorem order_nan {a b : Int} (ha : U64 a) (hb : U64 b) (h : isNaN a = true ∨ isNaN b = true) : double.order a.toNat b.toNat = none := by
  unfold Format.order
  rw [read_eq ha, read_eq hb]
  rcases h with h | h <;> rw [nan_iff'] at h
  · rw [if_neg (show ¬ sz a < 9218868437227405312 by omega), if_neg (show ¬ sz a = 9218868437227405312 by omega)]
    simp [Datum.order]
  · rw [if_neg (show ¬ sz b < 9218868437227405312 by omega), if_neg (show ¬ sz b = 9218868437227405312 by omega)]
    split
    · simp [Datum.order]
    · split <;> simp [Datum.order]

/-- the order of two that are no NaN, by their bits. -/
theorem order_SR {a b : Int} (ha : U64 a) (hb : U64 b) (na : isNaN a = false) (nb : isNaN b = false) :
    double.order a.toNat b.toNat = some (compare (SR a) (SR b)) := by
  have na' : ¬ 9218868437227405312 < sz a := by rw [← nan_iff']; simp [na]
  have nb' : ¬ 9218868437227405312 < sz b := by rw [← nan_iff']; simp [nb]
  have a0 := sz_nonneg ha
  have b0 := sz_nonneg hb
  by_cases fa : sz a < 9218868437227405312
  · by_cases fb : sz b < 9218868437227405312
    · rw [order_fin ha hb fa fb, cmp_mono (SV_SR ha hb) (SV_SR hb ha)]
    · have ib : sz b = 9218868437227405312 := by omega
      unfold Format.order
      rw [read_eq ha, read_eq hb, if_pos fa, if_neg fb, if_pos ib]
      simp only [Datum.order, Option.some.injEq]
      unfold SR
      rw [ib]
      cases ngb b
      · simp only [Bool.false_eq_true, if_false]; rw [cmp_lt]; split <;> omega
      · simp only [if_true]; rw [cmp_gt]; split <;> omega
  · have ia : sz a = 9218868437227405312 := by omega
    by_cases fb : sz b < 9218868437227405312
    · unfold Format.order
      rw [read_eq ha, read_eq hb, if_neg fa, if_pos fb, if_pos ia]
      simp only [Datum.order, Option.some.injEq]
      unfold SR
      rw [ia]
      cases ngb a
      · simp only [Bool.false_eq_true, if_false]; rw [cmp_gt]; split <;> omega
      · simp only [if_true]; rw [cmp_lt]; split <;> omega
    · have ib : sz b = 9218868437227405312 := by omega
      unfold Format.order
      rw [read_eq ha, read_eq hb, if_neg fa, if_neg fb, if_pos ia, if_pos ib]
      simp only [Datum.order, Option.some.injEq]
      unfold SR
      rw [ia, ib]
      cases ngb a <;> cases ngb b <;> decide

theorem SR_inj {a b : Int} (ha : U64 a) (hb : U64 b) (h : SR a = SR b) (hz : SR a ≠ 0) : a = b := by
  have e1 := sz_eq ha
  have e2 := sz_eq hb
  have := ha.lo; have := ha.hi; have := hb.lo; have := hb.hi
  unfold SR ngb at h hz
  by_cases c1 : 9223372036854775808 ≤ a <;> by_cases c2 : 9223372036854775808 ≤ b <;> simp only [c1, c2, decide_true, decide_false, Bool.false_eq_true, if_false, if_true] at h hz <;> omega
end Fp
