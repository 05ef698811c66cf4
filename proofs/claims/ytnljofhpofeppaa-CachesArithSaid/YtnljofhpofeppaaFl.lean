/- Plain facts: the order of two words, by what they stand for and by their bits. -/
import Derived.Test.YtnljofhpofeppaaFc
import Derived.Test.YtnljofhpofeppaaFw
import Derived.Laws.FloatArith
namespace Fp
open Go Go.RowKit Ieee
set_option linter.unusedVariables false
set_option linter.unusedSimpArgs false

theorem cmp_lt {x y : Int} (h : x < y) : compare x y = .lt := by simp [compare, compareOfLessAndEq, h]
theorem cmp_eq {x y : Int} (h : x = y) : compare x y = .eq := by simp [compare, compareOfLessAndEq, h]
theorem cmp_gt {x y : Int} (h : y < x) : compare x y = .gt := by
  have h1 : ¬ x < y := by omega
  have h2 : ¬ x = y := by omega
  simp [compare, compareOfLessAndEq, h1, h2]
theorem cmp_cases (x y : Int) : (x < y ∧ compare x y = .lt) ∨ (x = y ∧ compare x y = .eq) ∨ (y < x ∧ compare x y = .gt) := by
  rcases Int.lt_trichotomy x y with h | h | h
  · exact .inl ⟨h, cmp_lt h⟩
  · exact .inr (.inl ⟨h, cmp_eq h⟩)
  · exact .inr (.inr ⟨h, cmp_gt h⟩)
theorem cmp_mono {x y x' y' : Int} (h1 : x < y ↔ x' < y') (h2 : y < x ↔ y' < x') : compare x y = compare x' y' := by
  rcases Int.lt_trichotomy x y with h | h | h
  · rw [cmp_lt h, cmp_lt (h1.1 h)]
  · have a : ¬ x' < y' := fun g => by have := h1.2 g; omega
    have b : ¬ y' < x' := fun g => by have := h2.2 g; omega
    rw [cmp_eq h, cmp_eq (by omega)]
  · rw [cmp_gt h, cmp_gt (h2.1 h)]
theorem cmp_mul {x y c : Int} (hc : 0 < c) : compare (x * c) (y * c) = compare x y :=
  cmp_mono (Int.mul_lt_mul_right hc) (Int.mul_lt_mul_right hc)

/-- what a word stands for, in units of 2^-1074; with its sign -/
def V (a : Int) : Nat := (mant a).toNat * 2 ^ (pl a + 1074).toNat
def SV (a : Int) : Int := if ngb a then -(V a : Int) else (V a : Int)
/-- the bits without the sign, with it -/
def SR (a : Int) : Int := if ngb a then -(sz a) else sz a
def vr (r : Nat) : Nat := if r < 4503599627370496 then r else (4503599627370496 + r % 4503599627370496) * 2 ^ (r / 4503599627370496 - 1)

theorem V_vr {a : Int} (hu : U64 a) : V a = vr (sz a).toNat := by
  have es := sz_eq hu
  have em := mant_eq hu
  have ee := eb_eq hu
  unfold V vr pl
  by_cases hk : 0 < eb a
  · have h1 : ¬ (sz a).toNat < 4503599627370496 := by omega
    have h2 : (mant a).toNat = 4503599627370496 + (sz a).toNat % 4503599627370496 := by rw [em, if_pos hk]; omega
    have h3 : (eb a - 1075 + 1074).toNat = (sz a).toNat / 4503599627370496 - 1 := by omega
    rw [if_pos hk, if_neg h1, h2, h3]
  · have h1 : (sz a).toNat < 4503599627370496 := by omega
    have h2 : (mant a).toNat = (sz a).toNat := by rw [em, if_neg hk]; omega
    have h3 : ((-1074 : Int) + 1074).toNat = 0 := by decide
    rw [if_neg hk, if_pos h1, h2, h3, Nat.pow_zero, Nat.mul_one]

theorem vr_lt {r t : Nat} (h : r < t) : vr r < vr t := by
  unfold vr
  have hf : ∀ q : Nat, q % 4503599627370496 < 4503599627370496 := fun q => Nat.mod_lt _ (by decide)
  have p52 : (2 : Nat) ^ 52 = 4503599627370496 := by decide
  by_cases h1 : r < 4503599627370496
  · rw [if_pos h1]
    by_cases h2 : t < 4503599627370496
    · rw [if_pos h2]; exact h
    · rw [if_neg h2]
      have := Nat.two_pow_pos (t / 4503599627370496 - 1)
      have := Nat.mul_le_mul (show 4503599627370496 ≤ 4503599627370496 + t % 4503599627370496 by omega) this
      omega
  · have h2 : ¬ t < 4503599627370496 := by omega
    rw [if_neg h1, if_neg h2]
    obtain ⟨q, hq⟩ : ∃ q, r / 4503599627370496 - 1 = q := ⟨_, rfl⟩
    obtain ⟨u, hu⟩ : ∃ u, t / 4503599627370496 - 1 = u := ⟨_, rfl⟩
    rw [hq, hu]
    have hK := Nat.two_pow_pos q
    rcases Nat.lt_or_ge q u with hlt | hge
    · have e : 2 ^ (q + 1) ≤ 2 ^ u := Nat.pow_le_pow_right (by omega) hlt
      rw [Nat.pow_succ] at e
      have a1 : (4503599627370496 + r % 4503599627370496) * 2 ^ q < 9007199254740992 * 2 ^ q := Nat.mul_lt_mul_of_pos_right (by have := hf r; omega) hK
      have a2 : 4503599627370496 * 2 ^ u ≤ (4503599627370496 + t % 4503599627370496) * 2 ^ u := Nat.mul_le_mul_right _ (by omega)
      omega
    · have he : q = u := by
        have : r / 4503599627370496 ≤ t / 4503599627370496 := Nat.div_le_div_right (Nat.le_of_lt h)
        omega
      subst he
      have hm : r % 4503599627370496 < t % 4503599627370496 := by
        have a1 := Nat.div_add_mod r 4503599627370496
        have a2 := Nat.div_add_mod t 4503599627370496
        have : r / 4503599627370496 = t / 4503599627370496 := by omega
        rw [this] at a1; omega
      exact Nat.mul_lt_mul_of_pos_right (by omega) hK
theorem vr_lt_iff {r t : Nat} : vr r < vr t ↔ r < t := by
  refine ⟨fun h => ?_, vr_lt⟩
  rcases Nat.lt_trichotomy r t with g | g | g
  · exact g
  · subst g; omega
  · have := vr_lt g; omega
theorem vr_zero : vr 0 = 0 := by decide
theorem sz_nonneg {a : Int} (hu : U64 a) : 0 ≤ sz a := by rw [sz_eq hu]; omega
theorem V_zero_iff {a : Int} (hu : U64 a) : V a = 0 ↔ sz a = 0 := by
  rw [V_vr hu]
  have h0 := sz_nonneg hu
  have := vr_lt_iff (r := 0) (t := (sz a).toNat)
  rw [vr_zero] at this
  omega

/-- the two orders are one. -/
theorem SV_SR {a b : Int} (ha : U64 a) (hb : U64 b) : SV a < SV b ↔ SR a < SR b := by
  have a0 := sz_nonneg ha
  have b0 := sz_nonneg hb
  have za := V_zero_iff ha
  have zb := V_zero_iff hb
  have m1 := vr_lt_iff (r := (sz a).toNat) (t := (sz b).toNat)
  have m2 := vr_lt_iff (r := (sz b).toNat) (t := (sz a).toNat)
  rw [← V_vr ha, ← V_vr hb] at m1
  rw [← V_vr ha, ← V_vr hb] at m2
  unfold SV SR
  generalize V a = x at *
  generalize V b = y at *
  generalize sz a = s at *
  generalize sz b = t at *
  cases ngb a <;> cases ngb b <;> simp only [Bool.false_eq_true, if_false, if_true] <;> omega

theorem signed_SV (s : Bool) (m : Nat) (i base : Int) (h1 : base ≤ i) (h2 : -1074 ≤ base) :
    signed s m (i - base).toNat * ((2 ^ (base + 1074).toNat : Nat) : Int) = if s then -((m * 2 ^ (i + 1074).toNat : Nat) : Int) else ((m * 2 ^ (i + 1074).toNat : Nat) : Int) := by
  have e : m * 2 ^ (i - base).toNat * 2 ^ (base + 1074).toNat = m * 2 ^ (i + 1074).toNat := by
    rw [Nat.mul_assoc, ← Nat.pow_add]; congr 2; omega
  unfold signed
  rw [Nat.shiftLeft_eq]
  cases s
  · simp only [Bool.false_eq_true, if_false]; rw [← Int.natCast_mul, e]
  · simp only [if_true]; rw [Int.neg_mul, ← Int.natCast_mul, e]

theorem pl_bd {a : Int} (hu : U64 a) : -1074 ≤ pl a := by
  have := eb_bd hu; unfold pl; split <;> omega

theorem order_fin {a b : Int} (ha : U64 a) (hb : U64 b) (fa : sz a < 9218868437227405312) (fb : sz b < 9218868437227405312) :
    double.order a.toNat b.toNat = some (compare (SV a) (SV b)) := by
  unfold Format.order
  rw [read_eq ha, read_eq hb, if_pos fa, if_pos fb]
  have p1 := pl_bd ha
  have p2 := pl_bd hb
  simp only [Datum.order, Option.some.injEq]
  have hc : (0 : Int) < ((2 ^ (min (pl a) (pl b) + 1074).toNat : Nat) : Int) := by
    have := Nat.two_pow_pos (min (pl a) (pl b) + 1074).toNat; omega
  rw [← cmp_mul hc, signed_SV _ _ _ _ (Int.min_le_left _ _) (by omega), signed_SV _ _ _ _ (Int.min_le_right _ _) (by omega)]
  rfl

theorem nan_iff' {a : Int} : isNaN a = true ↔ 9218868437227405312 < sz a := by
  unfold isNaN
  rcases kind_cases a with ⟨h, g⟩ | ⟨h, g1, g2⟩ | ⟨h, g⟩ | ⟨h, g1, g2⟩ <;> rw [h] <;> simp <;> omega
theorem inf_iff {a : Int} : isInf a = true ↔ sz a = 9218868437227405312 := by
  unfold isInf
  rcases kind_cases a with ⟨h, g⟩ | ⟨h, g1, g2⟩ | ⟨h, g⟩ | ⟨h, g1, g2⟩ <;> rw [h] <;> simp <;> omega
theorem isZ_iff {a : Int} : isZ a = true ↔ sz a = 0 := by
  unfold isZ
  rcases kind_cases a with ⟨h, g⟩ | ⟨h, g1, g2⟩ | ⟨h, g⟩ | ⟨h, g1, g2⟩ <;> rw [h] <;> simp <;> omega

theorem order_nan {a b : Int} (ha : U64 a) (hb : U64 b) (h : isNaN a = true ∨ isNaN b = true) : double.order a.toNat b.toNat = none := by
  unfold Format.order
  rw [read_eq ha, read_eq hb]
  rcases h with h | h <;> rw [nan_iff'] at h
  · rw [if_neg (show ¬ sz a < 9218868437227405312 by omega), if_neg (show ¬ sz a = 9218868437227405312 by omega)]
    simp [Datum.order]
  · rw [if_neg (show ¬ sz b < 9218868437227405312 by omega), if_neg (show ¬ sz b = 9218868437227405312 by omega)]
    split
    · simp [Datum.order]
    · split <;> simp [Datum.order]

/-- the order of two that are no NaN, by their bits. -/
theorem order_SR {a b : Int} (ha : U64 a) (hb : U64 b) (na : isNaN a = false) (nb : isNaN b = false) :
    double.order a.toNat b.toNat = some (compare (SR a) (SR b)) := by
  have na' : ¬ 9218868437227405312 < sz a := by rw [← nan_iff']; simp [na]
  have nb' : ¬ 9218868437227405312 < sz b := by rw [← nan_iff']; simp [nb]
  have a0 := sz_nonneg ha
  have b0 := sz_nonneg hb
  by_cases fa : sz a < 9218868437227405312
  · by_cases fb : sz b < 9218868437227405312
    · rw [order_fin ha hb fa fb, cmp_mono (SV_SR ha hb) (SV_SR hb ha)]
    · have ib : sz b = 9218868437227405312 := by omega
      unfold Format.order
      rw [read_eq ha, read_eq hb, if_pos fa, if_neg fb, if_pos ib]
      simp only [Datum.order, Option.some.injEq]
      unfold SR
      rw [ib]
      cases ngb b
      · simp only [Bool.false_eq_true, if_false]; rw [cmp_lt]; split <;> omega
      · simp only [if_true]; rw [cmp_gt]; split <;> omega
  · have ia : sz a = 9218868437227405312 := by omega
    by_cases fb : sz b < 9218868437227405312
    · unfold Format.order
      rw [read_eq ha, read_eq hb, if_neg fa, if_pos fb, if_pos ia]
      simp only [Datum.order, Option.some.injEq]
      unfold SR
      rw [ia]
      cases ngb a
      · simp only [Bool.false_eq_true, if_false]; rw [cmp_gt]; split <;> omega
      · simp only [if_true]; rw [cmp_lt]; split <;> omega
    · have ib : sz b = 9218868437227405312 := by omega
      unfold Format.order
      rw [read_eq ha, read_eq hb, if_neg fa, if_neg fb, if_pos ia, if_pos ib]
      simp only [Datum.order, Option.some.injEq]
      unfold SR
      rw [ia, ib]
      cases ngb a <;> cases ngb b <;> decide

theorem SR_inj {a b : Int} (ha : U64 a) (hb : U64 b) (h : SR a = SR b) (hz : SR a ≠ 0) : a = b := by
  have e1 := sz_eq ha
  have e2 := sz_eq hb
  have := ha.lo; have := ha.hi; have := hb.lo; have := hb.hi
  unfold SR ngb at h hz
  by_cases c1 : 9223372036854775808 ≤ a <;> by_cases c2 : 9223372036854775808 ≤ b <;> simp only [c1, c2, decide_true, decide_false, Bool.false_eq_true, if_false, if_true] at h hz <;> omega
end Fp
namespace Fp
open Go Go.RowKit Ieee
set_option linter.unusedVariables false
set_option linter.unusedSimpArgs false

theorem V_opened {a : Int} (hu : U64 a) (hz : ¬ sz a = 0) (h : 0 ≤ oexp a + 1074) : V a = (oman a).toNat * 2 ^ (oexp a + 1074).toNat := by
  have op := opened hu hz
  have h1 := op.eq
  have h2 := op.ex
  have h3 := op.l0
  have h4 := op.pos
  unfold V
  generalize lz (mant a) = l at *
  generalize mant a = m at *
  obtain ⟨n, rfl⟩ := Int.eq_ofNat_of_zero_le (Int.le_of_lt h4)
  have e1 : (oman a).toNat = n * 2 ^ l.toNat := by
    rw [h1, cpow, ← Int.natCast_mul, Int.toNat_natCast]
  rw [e1, Int.toNat_natCast, Nat.mul_assoc, ← Nat.pow_add]
  congr 2; omega

/-- 2^1074 -/
def P1074 : Nat := 1074
theorem hP : P1074 = 1074 := rfl
def U : Nat := 2 ^ P1074
theorem U_pos : 0 < U := Nat.two_pow_pos _

/-- a whole number's word: what it stands for. -/
theorem SV_FromInt {k : Int} (h0 : -9007199254740992 < k) (h1 : k < 9007199254740992) : SV (FromIntG k) = k * (U : Int) := by
  by_cases hz : k = 0
  · subst hz; rw [FromInt_zero, Int.zero_mul]; decide
  · have e := FromInt_eq k (by omega) (by omega) hz
    have hm : k.natAbs ≠ 0 := by omega
    have hl : k.natAbs.log2 < 53 := (Nat.log2_lt hm).2 (by omega)
    obtain ⟨hu, hn, hs, hf, ho, he⟩ := small_read (decide (k < 0)) k.natAbs 0 hm (by omega) (by omega) (by omega)
    rw [← e] at hu hn hs hf ho he
    have v := V_opened hu hs (by omega)
    have ee : (oexp (FromIntG k) + 1074).toNat = 1074 - (63 - k.natAbs.log2) := by omega
    have v2 : V (FromIntG k) = k.natAbs * U := by
      have := hP
      rw [v, ho, Int.toNat_natCast, ee, Nat.mul_assoc, ← Nat.pow_add]
      unfold U; congr 2; omega
    unfold SV
    rw [hn, v2]
    by_cases hc : k < 0
    · rw [decide_eq_true hc, if_pos rfl, Int.natCast_mul, ← Int.neg_mul]; congr 1; omega
    · rw [decide_eq_false hc, if_neg (by decide), Int.natCast_mul]; congr 1; omega

theorem FromInt_fin {k : Int} (h0 : -9007199254740992 < k) (h1 : k < 9007199254740992) : sz (FromIntG k) < 9218868437227405312 := by
  by_cases hz : k = 0
  · subst hz; rw [FromInt_zero, sz_eq ⟨by decide, by decide⟩]; decide
  · rw [FromInt_eq k (by omega) (by omega) hz]
    have hm : k.natAbs ≠ 0 := by omega
    have hl : k.natAbs.log2 < 53 := (Nat.log2_lt hm).2 (by omega)
    exact (small_read (decide (k < 0)) k.natAbs 0 hm (by omega) (by omega) (by omega)).2.2.2.1
theorem not_nan_of_fin {a : Int} (h : sz a < 9218868437227405312) : isNaN a = false := by
  rw [Bool.eq_false_iff]; intro g; rw [nan_iff'] at g; omega

/-- a number without parts below 1, made whole, whichever way. -/
theorem cut_exact (way : Toward) (hw : way ≠ .even) (s : Bool) (k d : Nat) (hk : k ≠ 0) : way.cut s (k * 2 ^ d) d = k := by
  have hl : (k * 2 ^ d).log2 = k.log2 + d := by simpa using log2_merge k 0 d hk (Nat.two_pow_pos _)
  unfold Toward.cut
  rw [hl, Nat.min_eq_left (by omega), Nat.shiftLeft_eq, Nat.one_mul]
  simp only [Nat.mul_mod_left, Nat.mul_div_cancel _ (Nat.two_pow_pos d)]
  cases way <;> simp_all
theorem cut_zero (way : Toward) (hw : way ≠ .even) (s : Bool) (n : Nat) : way.cut s n 0 = n := by
  unfold Toward.cut
  simp only [Nat.zero_min, Nat.shiftLeft_eq, Nat.pow_zero, Nat.mul_one, Nat.div_one, Nat.mod_one]
  cases way <;> simp_all

/-- the word of a whole number, made whole, is itself. -/
theorem integral_whole (way : Toward) (hw : way ≠ .even) {k : Int} (h0 : -9007199254740992 < k) (h1 : k < 9007199254740992) (hz : k ≠ 0) :
    (double.read (FromIntG k).toNat).integral way = .number (decide (k < 0)) k.natAbs 0 := by
  have hu := FromInt_u64 h0 h1
  have hf := FromInt_fin h0 h1
  have hv := SV_FromInt h0 h1
  have e := FromInt_eq k (by omega) (by omega) hz
  have hm : k.natAbs ≠ 0 := by omega
  have hl : k.natAbs.log2 < 53 := (Nat.log2_lt hm).2 (by omega)
  obtain ⟨_, hn, hs, _, _, _⟩ := small_read (decide (k < 0)) k.natAbs 0 hm (by omega) (by omega) (by omega)
  rw [← e] at hn hs
  generalize FromIntG k = a at *
  rw [read_eq hu, if_pos hf, hn]
  have hVk : V a = k.natAbs * U := by
    unfold SV at hv; rw [hn] at hv
    have hU := U_pos
    by_cases hc : k < 0
    · rw [decide_eq_true hc, if_pos rfl] at hv
      have e1 : (k.natAbs : Int) = -k := by omega
      have e2 : ((k.natAbs * U : Nat) : Int) = -(k * (U : Int)) := by rw [Int.natCast_mul, e1, Int.neg_mul]
      omega
    · rw [decide_eq_false hc, if_neg (by decide)] at hv
      have e1 : (k.natAbs : Int) = k := by omega
      have e2 : ((k.natAbs * U : Nat) : Int) = k * (U : Int) := by rw [Int.natCast_mul, e1]
      omega
  unfold V U at hVk
  have hp := pl_bd hu
  have hP := hP
  simp only [Datum.integral]
  congr 1
  rw [Nat.shiftLeft_eq]
  by_cases hc : 0 ≤ pl a
  · have e1 : (-pl a).toNat = 0 := by omega
    rw [e1, cut_zero way hw]
    have e2 : (pl a + 1074).toNat = (pl a).toNat + P1074 := by omega
    rw [e2, Nat.pow_add, ← Nat.mul_assoc] at hVk
    exact Nat.eq_of_mul_eq_mul_right (Nat.two_pow_pos P1074) hVk
  · have e1 : (pl a).toNat = 0 := by omega
    rw [e1, Nat.pow_zero, Nat.mul_one]
    obtain ⟨d, hd⟩ : ∃ d : Nat, -pl a = (d : Int) := ⟨(-pl a).toNat, by omega⟩
    have e2 : (-pl a).toNat = d := by omega
    have e3 : (pl a + 1074).toNat = P1074 - d := by omega
    have hd2 : d ≤ 1074 := by omega
    have e4 : (mant a).toNat = k.natAbs * 2 ^ d := by
      have e5 : 2 ^ P1074 = 2 ^ d * 2 ^ (P1074 - d) := by rw [← Nat.pow_add]; congr 1; omega
      rw [e3, e5, ← Nat.mul_assoc] at hVk
      exact Nat.eq_of_mul_eq_mul_right (Nat.two_pow_pos (P1074 - d)) hVk
    rw [e2, e4, cut_exact way hw _ _ _ hm]

theorem nearest_FromInt {k : Int} (h0 : -9007199254740992 < k) (h1 : k < 9007199254740992) (hz : k ≠ 0) :
    double.nearest (decide (k < 0)) k.natAbs 0 = (FromIntG k).toNat := by
  rw [nearest_eq _ _ _ (by omega), FromInt_eq k (by omega) (by omega) hz, Int.toNat_natCast]

theorem toInt_FromInt {k : Int} (h0 : -2147483648 ≤ k) (h1 : k < 2147483648) : floatToIntVal .f64 (FromIntG k).toNat .i32 = some k := by
  by_cases hz : k = 0
  · subst hz; rw [FromInt_zero]; decide
  · unfold floatToIntVal
    have e : FloatKind.f64.decode (FromIntG k).toNat = double.read (FromIntG k).toNat := rfl
    have e2 : (double.read (FromIntG k).toNat).toInt .zero = some k := by
      unfold Datum.toInt
      rw [integral_whole .zero (by decide) (by omega) (by omega) hz]
      simp only [signed, Nat.shiftLeft_eq, Nat.pow_zero, Nat.mul_one]
      by_cases hc : k < 0
      · rw [decide_eq_true hc, if_pos rfl]; congr 1; omega
      · rw [decide_eq_false hc, if_neg (by decide)]; congr 1; omega
    rw [e, e2]
    have b0 : IntKind.i32.min = -2147483648 := by decide
    have b1 : IntKind.i32.max = 2147483647 := by decide
    simp only [b0, b1]
    rw [if_pos ⟨by omega, by omega⟩]
end Fp
namespace Fp
open Go Go.RowKit Ieee
set_option linter.unusedVariables false
set_option linter.unusedSimpArgs false

def floorN (x : Nat) : Nat := double.write ((double.read x).integral .down)

theorem cmp_one {x y : Int} (h : compare x y = .eq) : x = y := by
  rcases cmp_cases x y with ⟨_, g⟩ | ⟨g, _⟩ | ⟨_, g⟩
  · rw [g] at h; cases h
  · exact g
  · rw [g] at h; cases h

theorem cut_le (way : Toward) (s : Bool) (n d : Nat) : way.cut s n d ≤ n / 2 ^ min d (n.log2 + 2) + 1 := by
  unfold Toward.cut
  rw [Nat.shiftLeft_eq, Nat.one_mul]
  cases way <;> simp only <;> (generalize h : Bool.toNat _ = t; have : t ≤ 1 := by rw [← h]; exact Bool.toNat_le _) <;> omega

theorem FromInt_ngb {k : Int} (h0 : -9007199254740992 < k) (h1 : k < 9007199254740992) (hz : k ≠ 0) : ngb (FromIntG k) = decide (k < 0) := by
  rw [FromInt_eq k (by omega) (by omega) hz]
  have hm : k.natAbs ≠ 0 := by omega
  have hl : k.natAbs.log2 < 53 := (Nat.log2_lt hm).2 (by omega)
  exact (small_read (decide (k < 0)) k.natAbs 0 hm (by omega) (by omega) (by omega)).2.1

/-- a floor that is a number: below 2^53 in size, if the word's own size is. -/
theorem floor_small {a : Int} (hu : U64 a) (hf : sz a < 9218868437227405312) (hV : V a < 9007199254740991 * U) :
    ∃ K : Nat, K < 9007199254740992 ∧ (double.read a.toNat).integral .down = .number (ngb a) K 0 := by
  rw [read_eq hu, if_pos hf]
  simp only [Datum.integral]
  have hp := pl_bd hu
  have hm := mant_u64 hu
  have hm2 : (mant a).toNat < 9007199254740992 := by
    have := mant_eq hu; rw [this]; split <;> omega
  have hP := hP
  refine ⟨_, ?_, rfl⟩
  rw [Nat.shiftLeft_eq]
  by_cases hc : 0 ≤ pl a
  · have e1 : (-pl a).toNat = 0 := by omega
    rw [e1, cut_zero .down (by decide)]
    unfold V U at hV
    have e2 : (pl a + 1074).toNat = (pl a).toNat + P1074 := by omega
    rw [e2, Nat.pow_add, ← Nat.mul_assoc] at hV
    have := Nat.lt_of_mul_lt_mul_right hV
    omega
  · have e1 : (pl a).toNat = 0 := by omega
    rw [e1, Nat.pow_zero, Nat.mul_one]
    have h := cut_le .down (ngb a) (mant a).toNat (-pl a).toNat
    have h2 : 2 ^ 1 ≤ 2 ^ min (-pl a).toNat ((mant a).toNat.log2 + 2) := Nat.pow_le_pow_right (by omega) (by omega)
    have h3 := Nat.div_le_div_left h2 (by decide) (a := (mant a).toNat)
    omega

/-- the word of ±K. -/
theorem floor_word (s : Bool) (K : Nat) (hK : K < 9007199254740992) : ∃ f : Int, U64 f ∧ (double.write (.number s K 0) : Nat) = f.toNat ∧ sz f < 9218868437227405312 ∧ SV f = (if s then -(K : Int) else (K : Int)) * (U : Int) ∧ (K ≠ 0 → f = FromIntG (if s then -(K : Int) else (K : Int))) := by
  by_cases hz : K = 0
  · subst hz
    refine ⟨((double.word s 0 : Nat) : Int), (word_int s 0 (by decide)).1, ?_, ?_, ?_, fun h => absurd rfl h⟩
    · show double.nearest s 0 0 = _
      unfold Format.nearest; rw [if_pos rfl, Int.toNat_natCast]
    · rw [(word_int s 0 (by decide)).2.1]; decide
    · have h1 := (word_int s 0 (by decide)).2.1
      have hu := (word_int s 0 (by decide)).1
      have hv := (V_zero_iff hu).2 (by rw [h1]; rfl)
      unfold SV; rw [hv]; split <;> simp <;> (cases s <;> simp)
  · obtain ⟨k, hk⟩ : ∃ k : Int, (if s then -(K : Int) else (K : Int)) = k := ⟨_, rfl⟩
    rw [hk]
    have hk1 : k.natAbs = K ∧ decide (k < 0) = s ∧ k ≠ 0 ∧ -9007199254740992 < k ∧ k < 9007199254740992 := by
      cases s
      · rw [if_neg (by decide)] at hk; refine ⟨by omega, decide_eq_false (by omega), by omega, by omega, by omega⟩
      · rw [if_pos rfl] at hk; refine ⟨by omega, decide_eq_true (by omega), by omega, by omega, by omega⟩
    obtain ⟨h1, h2, h3, h4, h5⟩ := hk1
    refine ⟨FromIntG k, FromInt_u64 h4 h5, ?_, FromInt_fin h4 h5, SV_FromInt h4 h5, fun _ => rfl⟩
    show double.nearest s K 0 = _
    rw [← h1, ← h2]; exact nearest_FromInt h4 h5 h3

theorem LO_eq : FromIntG (-2147483648) = 13970166044103278592 := by decide +kernel
theorem HI_eq : FromIntG 2147483647 = 4746794007244308480 := by decide +kernel

theorem order_whole {a : Int} (hu : U64 a) (hf : sz a < 9218868437227405312) {k : Int} (h0 : -9007199254740992 < k) (h1 : k < 9007199254740992) :
    double.order a.toNat (FromIntG k).toNat = some (compare (SV a) (k * (U : Int))) := by
  rw [order_fin hu (FromInt_u64 h0 h1) hf (FromInt_fin h0 h1), SV_FromInt h0 h1]

/-- the document's test: a word that passes it is a whole number's. -/
theorem whole_of_floor {a : Int} (hu : U64 a) (nn : isNaN a = false)
    (hlo : double.order a.toNat 13970166044103278592 ≠ some .lt) (hhi : double.order a.toNat 4746794007244308480 ≠ some .gt)
    (hfl : double.order a.toNat (floorN a.toNat) = some .eq) (hz : ¬ (double.order a.toNat 0 = some .eq ∧ ngb a = true)) :
    ∃ k : Int, -2147483648 ≤ k ∧ k < 2147483648 ∧ a = FromIntG k := by
  have eLO : (13970166044103278592 : Nat) = (FromIntG (-2147483648)).toNat := by rw [LO_eq]; rfl
  have eHI : (4746794007244308480 : Nat) = (FromIntG 2147483647).toNat := by rw [HI_eq]; rfl
  rw [eLO] at hlo
  rw [eHI] at hhi
  have hUp : (0 : Int) < (U : Int) := by have := U_pos; omega
  have hf : sz a < 9218868437227405312 := by
    have hn : ¬ 9218868437227405312 < sz a := by rw [← nan_iff']; simp [nn]
    rcases Int.lt_or_le (sz a) 9218868437227405312 with h | h
    · exact h
    · exfalso
      have hi : sz a = 9218868437227405312 := by omega
      have oL := order_SR hu (FromInt_u64 (n := -2147483648) (by decide) (by decide)) nn (not_nan_of_fin (FromInt_fin (by decide) (by decide)))
      have oH := order_SR hu (FromInt_u64 (n := 2147483647) (by decide) (by decide)) nn (not_nan_of_fin (FromInt_fin (by decide) (by decide)))
      have f1 := FromInt_fin (k := -2147483648) (by decide) (by decide)
      have f2 := FromInt_fin (k := 2147483647) (by decide) (by decide)
      have n1 := sz_nonneg (FromInt_u64 (n := -2147483648) (by decide) (by decide))
      have n2 := sz_nonneg (FromInt_u64 (n := 2147483647) (by decide) (by decide))
      cases hs : ngb a
      · apply hhi; rw [oH, cmp_gt]
        unfold SR; rw [hs, hi]; simp only [Bool.false_eq_true, if_false]; split <;> omega
      · apply hlo; rw [oL, cmp_lt]
        unfold SR; rw [hs, hi]; simp only [if_true]; split <;> omega
  rw [order_whole hu hf (by decide) (by decide)] at hlo hhi
  have b1 : -2147483648 * (U : Int) ≤ SV a := by
    rcases Int.lt_or_le (SV a) (-2147483648 * (U : Int)) with h | h
    · exact absurd (by rw [cmp_lt h]) hlo
    · exact h
  have b2 : SV a ≤ 2147483647 * (U : Int) := by
    rcases Int.lt_or_le (2147483647 * (U : Int)) (SV a) with h | h
    · exact absurd (by rw [cmp_gt h]) hhi
    · exact h
  have hV : V a < 9007199254740991 * U := by
    unfold SV at b1 b2
    cases hs : ngb a <;> rw [hs] at b1 b2 <;> simp only [Bool.false_eq_true, if_false, if_true] at b1 b2 <;> omega
  obtain ⟨K, hK, hI⟩ := floor_small hu hf hV
  obtain ⟨f, hfu, hfw, hff, hfv, hfk⟩ := floor_word (ngb a) K hK
  have efl : floorN a.toNat = f.toNat := by unfold floorN; rw [hI]; exact hfw
  rw [efl, order_fin hu hfu hf hff] at hfl
  have hSV := cmp_one (Option.some.inj hfl)
  by_cases hK0 : K = 0
  · subst hK0
    have s0 : SV a = 0 := by rw [hSV, hfv]; split <;> simp
    have v0 : V a = 0 := by unfold SV at s0; split at s0 <;> omega
    have z := (V_zero_iff hu).1 v0
    have e0 : double.order a.toNat 0 = some .eq := by
      have u0 : U64 0 := ⟨by decide, by decide⟩
      have f0 : sz 0 < 9218868437227405312 := by rw [sz_eq u0]; decide
      have := order_fin hu u0 hf f0
      have sv0 : SV 0 = 0 := by decide
      rw [sv0, s0, cmp_eq rfl] at this
      exact this
    refine ⟨0, by decide, by decide, ?_⟩
    rw [FromInt_zero]
    have hs : ngb a = false := by
      cases h : ngb a
      · rfl
      · exact absurd ⟨e0, h⟩ hz
    have := sz_eq hu
    have := hu.lo; have := hu.hi
    unfold ngb at hs
    have := of_decide_eq_false hs
    omega
  · have efk := hfk hK0
    have hSR : SR a = SR f := by
      have m1 := SV_SR hu hfu
      have m2 := SV_SR hfu hu
      rw [hSV] at m1 m2
      omega
    have hnz : SR a ≠ 0 := by
      intro h
      have z : sz a = 0 := by unfold SR at h; split at h <;> omega
      have v := (V_zero_iff hu).2 z
      have s0 : SV a = 0 := by unfold SV; rw [v]; split <;> simp
      rw [s0] at hSV
      rw [hfv] at hSV
      rcases Int.mul_eq_zero.1 hSV.symm with h | h
      · split at h <;> omega
      · omega
    have e := SR_inj hu hfu hSR hnz
    refine ⟨_, ?_, ?_, e.trans efk⟩
    · rw [hSV, hfv] at b1
      have := Int.le_of_mul_le_mul_right b1 hUp
      omega
    · rw [hSV, hfv] at b2
      have := Int.le_of_mul_le_mul_right b2 hUp
      omega

/-- ... and a whole number of 32 bits passes it. -/
theorem floor_of_whole {k : Int} (h0 : -2147483648 ≤ k) (h1 : k < 2147483648) :
    (double.order (FromIntG k).toNat 13970166044103278592 = some .gt ∨ double.order (FromIntG k).toNat 13970166044103278592 = some .eq) ∧
    (double.order (FromIntG k).toNat 4746794007244308480 = some .lt ∨ double.order (FromIntG k).toNat 4746794007244308480 = some .eq) ∧
    double.order (FromIntG k).toNat (floorN (FromIntG k).toNat) = some .eq ∧
    ((double.order (FromIntG k).toNat 0 != some .eq) = true ∨ ((double.order (FromIntG k).toNat 0 != some .eq) = false ∧ ngb (FromIntG k) = false)) := by
  have hu := FromInt_u64 (n := k) (by omega) (by omega)
  have hf := FromInt_fin (k := k) (by omega) (by omega)
  have hv := SV_FromInt (k := k) (by omega) (by omega)
  have hUp : (0 : Int) < (U : Int) := by have := U_pos; omega
  have eLO : (13970166044103278592 : Nat) = (FromIntG (-2147483648)).toNat := by rw [LO_eq]; rfl
  have eHI : (4746794007244308480 : Nat) = (FromIntG 2147483647).toNat := by rw [HI_eq]; rfl
  rw [eLO, eHI, order_whole hu hf (by decide) (by decide), order_whole hu hf (by decide) (by decide), hv, cmp_mul hUp, cmp_mul hUp]
  refine ⟨?_, ?_, ?_, ?_⟩
  · rcases Int.lt_or_le (-2147483648) k with h | h
    · rw [cmp_gt h]; exact .inl rfl
    · rw [cmp_eq (by omega)]; exact .inr rfl
  · rcases Int.lt_or_le k 2147483647 with h | h
    · rw [cmp_lt h]; exact .inl rfl
    · rw [cmp_eq (by omega)]; exact .inr rfl
  · have e : floorN (FromIntG k).toNat = (FromIntG k).toNat := by
      unfold floorN
      by_cases hz : k = 0
      · subst hz; rw [FromInt_zero]; decide
      · rw [integral_whole .down (by decide) (by omega) (by omega) hz]
        exact nearest_FromInt (by omega) (by omega) hz
    rw [e, order_fin hu hu hf hf, cmp_eq rfl]
  · by_cases hz : k = 0
    · subst hz; rw [FromInt_zero]; exact .inr ⟨by decide, by decide⟩
    · left
      have u0 : U64 0 := ⟨by decide, by decide⟩
      have f0 : sz 0 < 9218868437227405312 := by rw [sz_eq u0]; decide
      have o := order_fin hu u0 hf f0
      have sv0 : SV 0 = 0 * (U : Int) := by rw [Int.zero_mul]; decide
      rw [sv0, hv, cmp_mul hUp] at o
      have o2 : double.order (FromIntG k).toNat 0 = some (compare k 0) := o
      rw [o2]
      rcases Int.lt_trichotomy k 0 with h | h | h
      · rw [cmp_lt h]; rfl
      · exact absurd h hz
      · rw [cmp_gt h]; rfl
end Fp
namespace Fp
open Go Go.RowKit Ieee
set_option linter.unusedVariables false
set_option linter.unusedSimpArgs false

/-- what Of makes of an operation: its bits, or the one NaN. -/
def ofO (o : Option Nat) : Int := match o with | none => 9221120237041090560 | some r => (r : Int)

theorem W_eq {a : Int} (hu : U64 a) (hz : ¬ sz a = 0) : (oman a).toNat * 2 ^ (oexp a + 1138).toNat = V a * 2 ^ 64 := by
  have op := opened hu hz
  have h1 := op.eq
  have h2 := op.ex
  have h3 := op.l0
  have h5 := op.l1
  have h4 := op.pos
  have hp := pl_bd hu
  unfold V
  generalize lz (mant a) = l at *
  generalize mant a = m at *
  obtain ⟨n, rfl⟩ := Int.eq_ofNat_of_zero_le (Int.le_of_lt h4)
  have e1 : (oman a).toNat = n * 2 ^ l.toNat := by
    rw [h1, cpow, ← Int.natCast_mul, Int.toNat_natCast]
  rw [e1, Int.toNat_natCast, Nat.mul_assoc, ← Nat.pow_add, Nat.mul_assoc, ← Nat.pow_add]
  congr 2; omega

theorem V_mono {a b : Int} (ha : U64 a) (hb : U64 b) (h : sz a ≤ sz b) : V a ≤ V b := by
  rw [V_vr ha, V_vr hb]
  have a0 := sz_nonneg ha
  have b0 := sz_nonneg hb
  rcases Nat.lt_or_ge (sz a).toNat (sz b).toNat with g | g
  · exact Nat.le_of_lt (vr_lt g)
  · have : (sz a).toNat = (sz b).toNat := by omega
    rw [this]; exact Nat.le_refl _

theorem oexp_mono {a b : Int} (ha : U64 a) (hb : U64 b) (hz : ¬ sz a = 0) (h : sz a ≤ sz b) : oexp a ≤ oexp b := by
  have a0 := sz_nonneg ha
  have hzb : ¬ sz b = 0 := by omega
  have oa := opened ha hz
  have ob := opened hb hzb
  have w := Nat.mul_le_mul_right (2 ^ 64) (V_mono ha hb h)
  rw [← W_eq ha hz, ← W_eq hb hzb] at w
  have x1 := oexp_bd ha
  have x2 := oexp_bd hb
  have l1 := oa.lo
  have l2 := ob.hi
  obtain ⟨p, hp⟩ : ∃ p, oexp a + 1138 = p := ⟨_, rfl⟩
  rw [hp] at w
  rcases Int.lt_or_le (oexp b) (oexp a) with g | g
  · exfalso
    have e : 2 ^ ((oexp b + 1138).toNat + 1) ≤ 2 ^ p.toNat := Nat.pow_le_pow_right (by omega) (by omega)
    rw [Nat.pow_succ] at e
    have hK := Nat.two_pow_pos (oexp b + 1138).toNat
    have a1 : 9223372036854775808 * 2 ^ p.toNat ≤ (oman a).toNat * 2 ^ p.toNat := Nat.mul_le_mul_right _ (by omega)
    have a2 : (oman b).toNat * 2 ^ (oexp b + 1138).toNat < 18446744073709551616 * 2 ^ (oexp b + 1138).toNat := Nat.mul_lt_mul_of_pos_right (by omega) hK
    omega
  · exact g

/-- the opened one in units of the other's place. -/
theorem open_le {a b : Int} (ha : U64 a) (hb : U64 b) (hz : ¬ sz b = 0) (h : sz b ≤ sz a) : (oman b).toNat ≤ (oman a).toNat * 2 ^ (oexp a - oexp b).toNat := by
  have b0 := sz_nonneg hb
  have hza : ¬ sz a = 0 := by omega
  have m := oexp_mono hb ha hz h
  have w := Nat.mul_le_mul_right (2 ^ 64) (V_mono hb ha h)
  rw [← W_eq ha hza, ← W_eq hb hz] at w
  have x1 := oexp_bd ha
  have x2 := oexp_bd hb
  have e : (oexp a + 1138).toNat = (oexp a - oexp b).toNat + (oexp b + 1138).toNat := by omega
  rw [e, Nat.pow_add, ← Nat.mul_assoc] at w
  exact Nat.le_of_mul_le_mul_right w (Nat.two_pow_pos _)

/-- a finite word's number, moved down to a lower place y. -/
theorem signed_open {a : Int} (hu : U64 a) (hz : ¬ sz a = 0) (s : Bool) (base y : Int) (h1 : base ≤ pl a) (h2 : y ≤ base) (h3 : y ≤ oexp a) :
    signed s (mant a).toNat (pl a - base).toNat * ((2 ^ (base - y).toNat : Nat) : Int) = if s then -(((oman a).toNat * 2 ^ (oexp a - y).toNat : Nat) : Int) else (((oman a).toNat * 2 ^ (oexp a - y).toNat : Nat) : Int) := by
  have op := opened hu hz
  have g1 := op.eq
  have g2 := op.ex
  have g3 := op.l0
  have g4 := op.pos
  generalize lz (mant a) = l at *
  generalize mant a = m at *
  obtain ⟨n, rfl⟩ := Int.eq_ofNat_of_zero_le (Int.le_of_lt g4)
  have e1 : (oman a).toNat = n * 2 ^ l.toNat := by
    rw [g1, cpow, ← Int.natCast_mul, Int.toNat_natCast]
  rw [e1, Int.toNat_natCast]
  have e2 : n * 2 ^ l.toNat * 2 ^ (oexp a - y).toNat = n * 2 ^ (pl a - base).toNat * 2 ^ (base - y).toNat := by
    rw [Nat.mul_assoc, ← Nat.pow_add, Nat.mul_assoc, ← Nat.pow_add]; congr 2; omega
  rw [e2]
  unfold signed
  rw [Nat.shiftLeft_eq]
  cases s
  · simp only [Bool.false_eq_true, if_false]; rw [← Int.natCast_mul]
  · simp only [if_true]; rw [Int.neg_mul, ← Int.natCast_mul]

theorem near_total (sg : Bool) (total : Int) (base y : Int) (h : y ≤ base) : double.nearest sg total.natAbs base = double.nearest sg (total * ((2 ^ (base - y).toNat : Nat) : Int)).natAbs y := by
  rw [Int.natAbs_mul, Int.natAbs_natCast, nearest_scale]
  congr 1; omega

/-- the sum of two finite ones that are not 0, the second one no greater. -/
theorem sum_big {a b : Int} (ha : U64 a) (hb : U64 b) (fa : sz a < 9218868437227405312) (fb : sz b < 9218868437227405312) (za : ¬ sz a = 0) (zb : ¬ sz b = 0) (h : sz b ≤ sz a) (total base : Int)
    (hb1 : base ≤ pl a) (hb2 : base ≤ pl b) (hb3 : oexp b ≤ base) (ht : total = signed (ngb a) (mant a).toNat (pl a - base).toNat + signed (ngb b) (mant b).toNat (pl b - base).toNat) :
    ((double.nearest (if total = 0 then (ngb a && ngb b) else decide (total < 0)) total.natAbs base : Nat) : Int) = addG (ngb a) (oman a) (oexp a) (ngb b) (oman b) (oexp b) := by
  have m := oexp_mono hb ha zb h
  have oa := opened ha za
  have ob := opened hb zb
  have le := open_le ha hb zb h
  have x1 := oexp_bd ha
  have x2 := oexp_bd hb
  have hc : (0 : Int) < ((2 ^ (base - oexp b).toNat : Nat) : Int) := by have := Nat.two_pow_pos (base - oexp b).toNat; omega
  have T : total * ((2 ^ (base - oexp b).toNat : Nat) : Int) = (if ngb a then -(((oman a).toNat * 2 ^ (oexp a - oexp b).toNat : Nat) : Int) else (((oman a).toNat * 2 ^ (oexp a - oexp b).toNat : Nat) : Int)) + (if ngb b then -((oman b).toNat : Int) else ((oman b).toNat : Int)) := by
    rw [ht, Int.add_mul, signed_open ha za _ _ _ hb1 hb3 m, signed_open hb zb _ _ _ hb2 hb3 (Int.le_refl _)]
    have : (oexp b - oexp b).toNat = 0 := by omega
    rw [this, Nat.pow_zero, Nat.mul_one]
  have s0 : total = 0 ↔ total * ((2 ^ (base - oexp b).toNat : Nat) : Int) = 0 := by
    rw [Int.mul_eq_zero]; constructor
    · exact fun h => .inl h
    · rintro (h | h)
      · exact h
      · omega
  have s1 : total < 0 ↔ total * ((2 ^ (base - oexp b).toNat : Nat) : Int) < 0 := by
    have : total * ((2 ^ (base - oexp b).toNat : Nat) : Int) < 0 * ((2 ^ (base - oexp b).toNat : Nat) : Int) ↔ total < 0 := Int.mul_lt_mul_right hc
    rw [Int.zero_mul] at this; exact this.symm
  rw [near_total _ _ _ (oexp b) hb3]
  have hdec : decide (total < 0) = decide (total * ((2 ^ (base - oexp b).toNat : Nat) : Int) < 0) := by
    by_cases c : total < 0
    · rw [decide_eq_true c, decide_eq_true (s1.1 c)]
    · rw [decide_eq_false c, decide_eq_false (fun g => c (s1.2 g))]
  have hite : (if total = 0 then (ngb a && ngb b) else decide (total < 0)) = if total * ((2 ^ (base - oexp b).toNat : Nat) : Int) = 0 then (ngb a && ngb b) else decide (total * ((2 ^ (base - oexp b).toNat : Nat) : Int) < 0) := by
    by_cases c : total = 0
    · rw [if_pos c, if_pos (s0.1 c)]
    · rw [if_neg c, if_neg (fun g => c (s0.2 g)), hdec]
  rw [hite]
  generalize total * ((2 ^ (base - oexp b).toNat : Nat) : Int) = t at *
  have a1 := oa.lo
  have a2 := oa.hi
  have b1 := ob.lo
  have b2 := ob.hi
  have b3 := ob.lower
  obtain ⟨X, hX⟩ := Int.eq_ofNat_of_zero_le (show 0 ≤ oman a by omega)
  obtain ⟨Y, hY⟩ := Int.eq_ofNat_of_zero_le (show 0 ≤ oman b by omega)
  rw [hX, hY] at T
  rw [hX, hY, Int.toNat_natCast, Int.toNat_natCast] at le
  rw [Int.toNat_natCast, Int.toNat_natCast] at T
  rw [hX, hY]
  have pos : 0 < X * 2 ^ (oexp a - oexp b).toNat := Nat.mul_pos (by omega) (Nat.two_pow_pos _)
  have same := addG_same (ngb a) X Y (oexp a) (oexp b) (by omega) (by omega) (by omega) (by omega) m (by omega) (by omega)
  have diff := addG_diff (ngb a) X Y (oexp a) (oexp b) (by omega) (by omega) (by omega) (by omega) (by omega) m (by omega) (by omega) le
  generalize X * 2 ^ (oexp a - oexp b).toNat = Z at *
  cases hna : ngb a <;> cases hnb : ngb b <;> rw [hna, hnb] at T <;> rw [hna] at same diff <;> simp only [Bool.false_eq_true, if_false, if_true, Bool.not_false, Bool.not_true] at T same diff
  · rw [same, if_neg (by omega), decide_eq_false (by omega), nearest_eq _ _ _ (by omega)]
    congr 2; omega
  · rw [diff]
    by_cases c : Z - Y = 0
    · rw [if_pos (by omega), if_pos c]
      have : t.natAbs = 0 := by omega
      rw [this]; unfold Format.nearest; rw [if_pos rfl]; rfl
    · rw [if_neg (by omega), if_neg c, decide_eq_false (by omega), nearest_eq _ _ _ (by omega)]
      congr 2; omega
  · rw [diff]
    by_cases c : Z - Y = 0
    · rw [if_pos (by omega), if_pos c]
      have : t.natAbs = 0 := by omega
      rw [this]; unfold Format.nearest; rw [if_pos rfl]; rfl
    · rw [if_neg (by omega), if_neg c, decide_eq_true (by omega), nearest_eq _ _ _ (by omega)]
      congr 2; omega
  · rw [same, if_neg (by omega), decide_eq_true (by omega), nearest_eq _ _ _ (by omega)]
    congr 2; omega
end Fp
namespace Fp
open Go Go.RowKit Ieee
set_option linter.unusedVariables false
set_option linter.unusedSimpArgs false

theorem xorS {a : Int} (hu : U64 a) : Go.bits .xor .u64 a 9223372036854775808 = if 9223372036854775808 ≤ a then a - 9223372036854775808 else a + 9223372036854775808 := by
  have h0 := hu.lo
  have h1 := hu.hi
  obtain ⟨n, rfl⟩ := Int.eq_ofNat_of_zero_le h0
  have e := bits_xor64 n (2 ^ 63) (by omega) (by decide)
  rw [← e63] at e
  rw [e]
  by_cases hc : 9223372036854775808 ≤ (n : Int)
  · rw [if_pos hc]
    have h2 : n = 2 ^ 63 * 1 + (n - 2 ^ 63) := by omega
    have h3 : n ^^^ 2 ^ 63 = n - 2 ^ 63 := by
      have g1 := Nat.two_pow_add_eq_or_of_lt (i := 63) (b := n - 2 ^ 63) (by omega) 1
      rw [Nat.mul_one] at g1
      have g2 : n = 2 ^ 63 ||| (n - 2 ^ 63) := by rw [← g1]; omega
      apply Nat.eq_of_testBit_eq
      intro j
      rw [Nat.testBit_xor, Nat.testBit_two_pow]
      conv => lhs; arg 1; rw [g2]
      rw [Nat.testBit_or, Nat.testBit_two_pow]
      by_cases hj : 63 = j
      · subst hj
        have : (n - 2 ^ 63).testBit 63 = false := Nat.testBit_lt_two_pow (by omega)
        rw [this]; rfl
      · simp [hj]
    rw [h3]; omega
  · rw [if_neg hc]
    have h3 : n ^^^ 2 ^ 63 = n + 2 ^ 63 := by
      have g1 := Nat.two_pow_add_eq_or_of_lt (i := 63) (b := n) (by omega) 1
      rw [Nat.mul_one] at g1
      rw [Nat.add_comm, g1]
      apply Nat.eq_of_testBit_eq
      intro j
      rw [Nat.testBit_xor, Nat.testBit_or, Nat.testBit_two_pow]
      by_cases hj : 63 = j
      · subst hj
        have : n.testBit 63 = false := Nat.testBit_lt_two_pow (by omega)
        rw [this]; rfl
      · simp [hj]
    rw [h3]; omega

theorem flip_facts {a : Int} (hu : U64 a) : U64 (Go.bits .xor .u64 a 9223372036854775808) ∧ sz (Go.bits .xor .u64 a 9223372036854775808) = sz a ∧ ngb (Go.bits .xor .u64 a 9223372036854775808) = !ngb a := by
  have h0 := hu.lo
  have h1 := hu.hi
  rw [xorS hu]
  by_cases hc : 9223372036854775808 ≤ a
  · rw [if_pos hc]
    have hv : U64 (a - 9223372036854775808) := ⟨by omega, by omega⟩
    refine ⟨hv, ?_, ?_⟩
    · rw [sz_eq hv, sz_eq hu]; omega
    · unfold ngb; rw [decide_eq_true hc, decide_eq_false (by omega)]; rfl
  · rw [if_neg hc]
    have hv : U64 (a + 9223372036854775808) := ⟨by omega, by omega⟩
    refine ⟨hv, ?_, ?_⟩
    · rw [sz_eq hv, sz_eq hu]; omega
    · unfold ngb; rw [decide_eq_false hc, decide_eq_true (by omega)]; rfl

theorem read_fin {a : Int} (hu : U64 a) (h : sz a < 9218868437227405312) : double.read a.toNat = .number (ngb a) (mant a).toNat (pl a) := by
  rw [read_eq hu, if_pos h]
theorem read_inf {a : Int} (hu : U64 a) (h : sz a = 9218868437227405312) : double.read a.toNat = .infinity (ngb a) := by
  rw [read_eq hu, if_neg (by omega), if_pos h]
theorem read_nan {a : Int} (hu : U64 a) (h : ¬ sz a < 9218868437227405312) (h2 : ¬ sz a = 9218868437227405312) : ∃ t, double.read a.toNat = .nan (ngb a) t :=
  ⟨_, by rw [read_eq hu, if_neg h, if_neg h2]⟩
theorem zero_mant {a : Int} (hu : U64 a) (h : sz a = 0) : (mant a).toNat = 0 ∧ pl a = -1074 := by
  have es := sz_eq hu
  have ee := eb_eq hu
  have hk : ¬ 0 < eb a := by omega
  have em := mant_eq hu
  rw [if_neg hk] at em
  unfold pl
  rw [if_neg hk]
  omega
theorem write_inf {a : Int} (hu : U64 a) (h : sz a = 9218868437227405312) : ((double.write (.infinity (ngb a)) : Nat) : Int) = a := by
  show ((double.word (ngb a) double.infRung : Nat) : Int) = a
  rw [infRung_d, ← sgn_word _ _ (by decide)]
  have := sgn_sz hu
  rw [h] at this; exact this
theorem self_mant {a : Int} (hu : U64 a) (hz : ¬ sz a = 0) (hf : sz a < 9218868437227405312) : ((double.nearest (ngb a) (mant a).toNat (pl a) : Nat) : Int) = a := by
  have op := opened hu hz
  have h := self_near hu hz hf
  have h1 := op.eq
  have h2 := op.ex
  have h3 := op.l0
  have h4 := op.pos
  generalize lz (mant a) = l at *
  generalize hm : mant a = m at *
  obtain ⟨n, rfl⟩ := Int.eq_ofNat_of_zero_le (Int.le_of_lt h4)
  have e1 : (oman a).toNat = n * 2 ^ l.toNat := by
    rw [h1, cpow, ← Int.natCast_mul, Int.toNat_natCast]
  rw [e1, near2_scale _ _ _ _ (by omega)] at h
  rw [Int.toNat_natCast, nearest_eq _ _ _ (by omega)]
  have : oexp a + (l.toNat : Int) = pl a := by omega
  rw [this] at h; exact h

theorem sum_zero {a : Int} (hu : U64 a) (hz : ¬ sz a = 0) (hf : sz a < 9218868437227405312) (sg : Bool) (total : Int) (h : total = signed (ngb a) (mant a).toNat (pl a - (-1074)).toNat) :
    ((double.nearest (if total = 0 then sg else decide (total < 0)) total.natAbs (-1074) : Nat) : Int) = a := by
  have op := opened hu hz
  have hp := pl_bd hu
  have hm : (mant a).toNat ≠ 0 := by have := op.pos; omega
  have hpos : 0 < (mant a).toNat * 2 ^ (pl a - (-1074)).toNat := Nat.mul_pos (by omega) (Nat.two_pow_pos _)
  have hn : total.natAbs = (mant a).toNat * 2 ^ (pl a - (-1074)).toNat ∧ total ≠ 0 ∧ decide (total < 0) = ngb a := by
    unfold signed at h
    rw [Nat.shiftLeft_eq] at h
    cases hs : ngb a <;> rw [hs] at h
    · simp only [Bool.false_eq_true, if_false] at h; exact ⟨by omega, by omega, decide_eq_false (by omega)⟩
    · simp only [if_true] at h; exact ⟨by omega, by omega, decide_eq_true (by omega)⟩
  rw [if_neg hn.2.1, hn.1, hn.2.2, nearest_scale]
  have : -1074 + (((pl a - (-1074)).toNat : Nat) : Int) = pl a := by omega
  rw [this]; exact self_mant hu hz hf

theorem signed_zero (s : Bool) (k : Nat) : signed s 0 k = 0 := by unfold signed; cases s <;> simp

theorem and_zeros {a b : Int} (ha : U64 a) (hb : U64 b) (za : sz a = 0) (zb : sz b = 0) : Go.bits .and .u64 a b = ((double.word (ngb a && ngb b) 0 : Nat) : Int) := by
  have ea := sz_eq ha
  have eb := sz_eq hb
  have a0 := ha.lo
  have a1 := ha.hi
  have b0 := hb.lo
  have b1 := hb.hi
  have ca : a = 0 ∨ a = 9223372036854775808 := by omega
  have cb : b = 0 ∨ b = 9223372036854775808 := by omega
  rcases ca with rfl | rfl <;> rcases cb with rfl | rfl <;> decide +kernel

theorem add_ok {a b : Int} (ha : U64 a) (hb : U64 b) : AddG a b = ofO (double.add a.toNat b.toNat) := by
  unfold Format.add
  rcases kind_cases a with ⟨ka, za⟩ | ⟨ka, za, fa⟩ | ⟨ka, ia⟩ | ⟨ka, na, na2⟩
  · have ra := read_fin ha (by omega)
    obtain ⟨ma, pa⟩ := zero_mant ha za
    rcases kind_cases b with ⟨kb, zb⟩ | ⟨kb, zb, fb⟩ | ⟨kb, ib⟩ | ⟨kb, nb, nb2⟩
    · have rb := read_fin hb (by omega)
      obtain ⟨mb, pb⟩ := zero_mant hb zb
      have E : AddG a b = Go.bits .and .u64 a b := by simp [AddG, isNaN, isInf, isZ, ka, kb]
      rw [E, and_zeros ha hb za zb, ra, rb, ma, mb, pa, pb]
      simp only [Datum.sum, signed_zero, Int.add_zero, if_true, Option.map_some]
      show _ = ((double.nearest (ngb a && ngb b) 0 _ : Nat) : Int)
      unfold Format.nearest; rw [if_pos rfl]
    · have rb := read_fin hb fb
      have E : AddG a b = b := by simp [AddG, isNaN, isInf, isZ, ka, kb]
      have hpb := pl_bd hb
      rw [E, ra, rb, ma, pa]
      have mn : min (-1074) (pl b) = -1074 := by omega
      simp only [Datum.sum, signed_zero, Int.zero_add, Option.map_some, mn]
      exact (sum_zero hb zb fb _ _ rfl).symm
    · have rb := read_inf hb ib
      have E : AddG a b = b := by simp [AddG, isNaN, isInf, isZ, ka, kb]
      rw [E, ra, rb]
      exact (write_inf hb ib).symm
    · obtain ⟨t, rb⟩ := read_nan hb nb nb2
      have E : AddG a b = 9221120237041090560 := by simp [AddG, isNaN, isInf, isZ, ka, kb]
      rw [E, ra, rb]; rfl
  · have ra := read_fin ha fa
    rcases kind_cases b with ⟨kb, zb⟩ | ⟨kb, zb, fb⟩ | ⟨kb, ib⟩ | ⟨kb, nb, nb2⟩
    · have rb := read_fin hb (by omega)
      obtain ⟨mb, pb⟩ := zero_mant hb zb
      have E : AddG a b = a := by simp [AddG, isNaN, isInf, isZ, ka, kb]
      have hpa := pl_bd ha
      rw [E, ra, rb, mb, pb]
      have mn : min (pl a) (-1074) = -1074 := by omega
      simp only [Datum.sum, signed_zero, Int.add_zero, Option.map_some, mn]
      exact (sum_zero ha za fa _ _ rfl).symm
    · have rb := read_fin hb fb
      have E : AddG a b = if sz a < sz b then addG (ngb b) (oman b) (oexp b) (ngb a) (oman a) (oexp a) else addG (ngb a) (oman a) (oexp a) (ngb b) (oman b) (oexp b) := by simp [AddG, isNaN, isInf, isZ, ka, kb]
      rw [E, ra, rb]
      simp only [Datum.sum, Option.map_some]
      have oa := opened ha za
      have ob := opened hb zb
      have a1 := oa.ex
      have a2 := oa.l0
      have b1 := ob.ex
      have b2 := ob.l0
      show _ = ((double.nearest _ _ _ : Nat) : Int)
      by_cases hl : sz a < sz b
      · have m := oexp_mono ha hb za (by omega)
        rw [if_pos hl, ← sum_big hb ha fb fa zb za (by omega) _ (min (pl a) (pl b)) (Int.min_le_right _ _) (Int.min_le_left _ _) (by omega) (Int.add_comm _ _), Bool.and_comm]
      · have m := oexp_mono hb ha zb (by omega)
        rw [if_neg hl, ← sum_big ha hb fa fb za zb (by omega) _ (min (pl a) (pl b)) (Int.min_le_left _ _) (Int.min_le_right _ _) (by omega) rfl]
    · have rb := read_inf hb ib
      have E : AddG a b = b := by simp [AddG, isNaN, isInf, isZ, ka, kb]
      rw [E, ra, rb]
      exact (write_inf hb ib).symm
    · obtain ⟨t, rb⟩ := read_nan hb nb nb2
      have E : AddG a b = 9221120237041090560 := by simp [AddG, isNaN, isInf, isZ, ka, kb]
      rw [E, ra, rb]; rfl
  · have ra := read_inf ha ia
    rcases kind_cases b with ⟨kb, zb⟩ | ⟨kb, zb, fb⟩ | ⟨kb, ib⟩ | ⟨kb, nb, nb2⟩
    · have rb := read_fin hb (by omega)
      have hne : (b == Go.bits .xor .u64 a 9223372036854775808) = false := by
        rw [beq_eq_false_iff_ne]; intro h
        have := (flip_facts ha).2.1
        rw [← h] at this; omega
      have E : AddG a b = a := by simp [AddG, isNaN, isInf, isZ, ka, kb, hne]
      rw [E, ra, rb]
      exact (write_inf ha ia).symm
    · have rb := read_fin hb fb
      have hne : (b == Go.bits .xor .u64 a 9223372036854775808) = false := by
        rw [beq_eq_false_iff_ne]; intro h
        have := (flip_facts ha).2.1
        rw [← h] at this; omega
      have E : AddG a b = a := by simp [AddG, isNaN, isInf, isZ, ka, kb, hne]
      rw [E, ra, rb]
      exact (write_inf ha ia).symm
    · have rb := read_inf hb ib
      obtain ⟨f1, f2, f3⟩ := flip_facts ha
      rw [ra, rb]
      cases hx : (b == Go.bits .xor .u64 a 9223372036854775808)
      · have E : AddG a b = a := by simp [AddG, isNaN, isInf, isZ, ka, kb, hx]
        have hs : ngb a = ngb b := by
          by_cases c : ngb a = ngb b
          · exact c
          · exfalso
            have e1 := sgn_sz hb
            have e2 := sgn_sz f1
            rw [f2, f3, ia] at e2
            rw [ib] at e1
            have : ngb b = !ngb a := by cases h1 : ngb a <;> cases h2 : ngb b <;> simp_all
            rw [this, e2] at e1
            rw [e1] at hx; simp at hx
        rw [E]
        simp only [Datum.sum]
        rw [if_pos hs]
        exact (write_inf ha ia).symm
      · have hb' := beq_iff_eq.mp hx
        have E : AddG a b = 9221120237041090560 := by simp [AddG, isNaN, isInf, isZ, ka, hx]
        have hs : ¬ ngb a = ngb b := by rw [hb', f3]; cases ngb a <;> simp
        rw [E]
        simp only [Datum.sum]
        rw [if_neg hs]; rfl
    · obtain ⟨t, rb⟩ := read_nan hb nb nb2
      have E : AddG a b = 9221120237041090560 := by simp [AddG, isNaN, isInf, isZ, ka, kb]
      rw [E, ra, rb]; rfl
  · obtain ⟨t, ra⟩ := read_nan ha na na2
    have E : AddG a b = 9221120237041090560 := by simp [AddG, isNaN, isInf, isZ, ka]
    rw [E, ra]
    simp [Datum.sum, ofO]

theorem read_neg {b : Int} (hb : U64 b) (hn : isNaN b = false) : double.read (negG b).toNat = (double.read b.toNat).opposite := by
  obtain ⟨f1, f2, f3⟩ := flip_facts hb
  have e : negG b = Go.bits .xor .u64 b 9223372036854775808 := by unfold negG; rw [hn]; rfl
  have hn' : ¬ 9218868437227405312 < sz b := by rw [← nan_iff']; simp [hn]
  rw [e, read_eq f1, read_eq hb, f2, f3]
  have em : mant (Go.bits .xor .u64 b 9223372036854775808) = mant b ∧ pl (Go.bits .xor .u64 b 9223372036854775808) = pl b := by
    have g1 := mant_eq f1
    have g2 := mant_eq hb
    have k1 : eb (Go.bits .xor .u64 b 9223372036854775808) = eb b := by unfold eb; rw [f2]
    have g3 := sz_eq f1
    have g4 := sz_eq hb
    rw [k1] at g1
    refine ⟨?_, by unfold pl; rw [k1]⟩
    rw [g1, g2]
    have : Go.bits .xor .u64 b 9223372036854775808 % 4503599627370496 = b % 4503599627370496 := by omega
    rw [this]
  rw [em.1, em.2]
  split
  · rfl
  · rw [if_pos (by omega), if_pos (by omega)]; rfl

theorem neg_u64 {b : Int} (hb : U64 b) : U64 (negG b) := by
  unfold negG; split
  · exact ⟨by decide, by decide⟩
  · exact (flip_facts hb).1
theorem C_isNaN : isNaN 9221120237041090560 = true := by rw [nan_iff', sz_eq ⟨by decide, by decide⟩]; decide

theorem sub_ok {a b : Int} (ha : U64 a) (hb : U64 b) : SubG a b = ofO (double.sub a.toNat b.toNat) := by
  unfold SubG
  rw [add_ok ha (neg_u64 hb)]
  unfold Format.add Format.sub
  cases hn : isNaN b
  · rw [read_neg hb hn]
  · have e : negG b = 9221120237041090560 := if_pos hn
    have hnn := nan_iff'.1 hn
    obtain ⟨t, rb⟩ := read_nan hb (by omega) (by omega)
    obtain ⟨t2, rc⟩ := read_nan (a := 9221120237041090560) ⟨by decide, by decide⟩ (by rw [sz_eq ⟨by decide, by decide⟩]; decide) (by rw [sz_eq ⟨by decide, by decide⟩]; decide)
    rw [e, rb, rc]
    simp only [Datum.opposite]
    cases double.read a.toNat <;> simp [Datum.sum]
end Fp
