/- Plain facts: order, the other sign, the one NaN, against the model's floats. -/
import Derived.Test.YtkiakflmoplmeaaFl
import Derived.Test.YtkiakflmoplmeaaFg
namespace Fp
open Go Go.RowKit Ieee
set_option linter.unusedVariables false
set_option linter.unusedSimpArgs false

/-- what Of makes of a float's bits -/
def OfG (x : Nat) : Int := if isNaN (x : Int) then 9221120237041090560 else (x : Int)

theorem Less_ok {a b : Int} (ha : U64 a) (hb : U64 b) : (double.order a.toNat b.toNat == some .lt) = LessG a b := by
  cases na : isNaN a
  · cases nb : isNaN b
    · rw [order_SR ha hb na nb]
      have ea := sz_eq ha
      have eb := sz_eq hb
      have a0 := ha.lo
      have a1 := ha.hi
      have b0 := hb.lo
      have b1 := hb.hi
      have key : LessG a b = decide (SR a < SR b) := by
        unfold LessG
        rw [na, nb]
        simp only [Bool.not_false, Bool.true_and]
        have za : isZ a = decide (sz a = 0) := by rw [Bool.eq_iff_iff, isZ_iff]; simp
        have zb : isZ b = decide (sz b = 0) := by rw [Bool.eq_iff_iff, isZ_iff]; simp
        rw [za, zb]
        unfold SR ngb
        by_cases c1 : 9223372036854775808 ≤ a <;> by_cases c2 : 9223372036854775808 ≤ b <;> simp only [c1, c2, decide_true, decide_false, if_true, if_false] <;> rw [Bool.eq_iff_iff] <;> simp <;> omega
      rw [key]
      rcases cmp_cases (SR a) (SR b) with ⟨h, e⟩ | ⟨h, e⟩ | ⟨h, e⟩
      · rw [e, decide_eq_true h]; rfl
      · rw [e, decide_eq_false (by omega)]; rfl
      · rw [e, decide_eq_false (by omega)]; rfl
    · rw [order_nan ha hb (.inr nb)]; simp [LessG, nb]
  · rw [order_nan ha hb (.inl na)]; simp [LessG, na]
theorem Equal_ok {a b : Int} (ha : U64 a) (hb : U64 b) : (double.order a.toNat b.toNat == some .eq) = EqualG a b := by
  cases na : isNaN a
  · cases nb : isNaN b
    · rw [order_SR ha hb na nb]
      have ea := sz_eq ha
      have eb := sz_eq hb
      have a0 := ha.lo
      have a1 := ha.hi
      have b0 := hb.lo
      have b1 := hb.hi
      have key : EqualG a b = decide (SR a = SR b) := by
        unfold EqualG
        rw [na, nb]
        simp only [Bool.not_false, Bool.true_and]
        have za : isZ a = decide (sz a = 0) := by rw [Bool.eq_iff_iff, isZ_iff]; simp
        have zb : isZ b = decide (sz b = 0) := by rw [Bool.eq_iff_iff, isZ_iff]; simp
        rw [za, zb]
        unfold SR ngb
        by_cases c1 : 9223372036854775808 ≤ a <;> by_cases c2 : 9223372036854775808 ≤ b <;> simp only [c1, c2, decide_true, decide_false, if_true, if_false] <;> rw [Bool.eq_iff_iff] <;> simp <;> omega
      rw [key]
      rcases cmp_cases (SR a) (SR b) with ⟨h, e⟩ | ⟨h, e⟩ | ⟨h, e⟩
      · rw [e, decide_eq_false (by omega)]; rfl
      · rw [e, decide_eq_true h]; rfl
      · rw [e, decide_eq_false (by omega)]; rfl
    · rw [order_nan ha hb (.inr nb)]; simp [EqualG, nb]
  · rw [order_nan ha hb (.inl na)]; simp [EqualG, na]
theorem self_ok {a : Int} (ha : U64 a) : (double.order a.toNat a.toNat != some .eq) = isNaN a := by
  rw [bne, Equal_ok ha ha]
  cases na : isNaN a <;> simp [EqualG, na]
theorem neg_bits {a : Int} (ha : U64 a) : OfG (Op.negFloat .f64 a.toNat) = negG a := by
  have h0 := ha.lo
  have h1 := ha.hi
  have e : ((Op.negFloat .f64 a.toNat : Nat) : Int) = Go.bits .xor .u64 a 9223372036854775808 := by
    have h := bits_xor64 a.toNat (2 ^ 63) (by omega) (by decide)
    rw [← e63, show ((a.toNat : Nat) : Int) = a by omega] at h
    rw [h]; rfl
  have f := (flip_facts ha).2.1
  unfold OfG negG
  rw [e]
  have : isNaN (Go.bits .xor .u64 a 9223372036854775808) = isNaN a := by
    rw [Bool.eq_iff_iff, nan_iff', nan_iff', f]
  rw [this]
theorem xor_lt (n : Nat) (h : n < 18446744073709551616) : n ^^^ 2 ^ 63 < 18446744073709551616 := by
  have e64 : (2 : Nat) ^ 64 = 18446744073709551616 := by decide
  rw [← e64] at h ⊢
  exact Nat.xor_lt_two_pow h (by decide)
theorem neg_wf {a : Int} (ha : U64 a) : Op.negFloat .f64 a.toNat < 18446744073709551616 := by
  have h0 := ha.lo
  have h1 := ha.hi
  have h : a.toNat < 18446744073709551616 := by omega
  have g := xor_lt a.toNat h
  unfold Op.negFloat
  rw [show FloatKind.f64.format.exponentBits + FloatKind.f64.format.fractionBits = 63 from rfl]
  exact g
theorem maxfin : U64 9218868437227405311 ∧ isNaN 9218868437227405311 = false ∧ SR 9218868437227405311 = 9218868437227405311 := by
  have hm : U64 9218868437227405311 := ⟨by omega, by omega⟩
  have sm : sz 9218868437227405311 = 9218868437227405311 := by rw [sz_eq hm]; omega
  have gm : ngb 9218868437227405311 = false := by unfold ngb; exact decide_eq_false (by omega)
  refine ⟨hm, ?_, ?_⟩
  · rw [Bool.eq_false_iff]; intro h; rw [nan_iff', sm] at h; omega
  · unfold SR; rw [gm, if_neg (by decide), sm]
theorem isInf_ok' {a : Int} (ha : U64 a) (m : Int) (hm : U64 m) (nm : isNaN m = false) (e2 : SR m = m) (em : m = 9218868437227405311) : (double.order (sz a).toNat m.toNat == some .gt) = isInf a := by
  have h0 := ha.lo
  have h1 := ha.hi
  have es := sz_eq ha
  have hs : U64 (sz a) := ⟨by omega, by omega⟩
  have ss : sz (sz a) = sz a := by rw [sz_eq hs]; omega
  have ng : ngb (sz a) = false := by unfold ngb; exact decide_eq_false (by omega)
  have nn : isNaN (sz a) = isNaN a := by rw [Bool.eq_iff_iff, nan_iff', nan_iff', ss]
  have eI : isInf a = decide (sz a = 9218868437227405312) := by rw [Bool.eq_iff_iff, inf_iff]; simp
  rw [eI]
  cases na : isNaN a
  · rw [order_SR hs hm (nn.trans na) nm]
    have hn : ¬ 9218868437227405312 < sz a := by rw [← nan_iff']; simp [na]
    have e1 : SR (sz a) = sz a := by unfold SR; rw [ng, ss, if_neg (by decide)]
    rw [e1, e2]
    rcases cmp_cases (sz a) m with ⟨h, e⟩ | ⟨h, e⟩ | ⟨h, e⟩
    · rw [e, decide_eq_false (by omega)]; rfl
    · rw [e, decide_eq_false (by omega)]; rfl
    · rw [e, decide_eq_true (by omega)]; rfl
  · rw [order_nan hs hm (.inl (nn.trans na))]
    have hn := nan_iff'.1 na
    rw [decide_eq_false (by omega)]; rfl
theorem isInf_ok {a : Int} (ha : U64 a) : (double.order (sz a).toNat 9218868437227405311 == some .gt) = isInf a := by
  obtain ⟨h1, h2, h3⟩ := maxfin
  have h := isInf_ok' ha 9218868437227405311 h1 h2 h3 rfl
  rw [show (9218868437227405311 : Int).toNat = 9218868437227405311 by omega] at h
  exact h
end Fp
namespace Fp
open Go
set_option linter.unusedVariables false
set_option linter.unusedSimpArgs false

/-- one digit: U*2^32+B by Yh*2^32+Yl, q the guess, r = U - q*Yh. -/
structure KInv (U B Yh Yl q r : Int) : Prop where
  e : q * Yh + r = U
  lo : (U * 4294967296 + B) / (Yh * 4294967296 + Yl) ≤ q
  hi : q ≤ 4294967297
  r0 : 0 ≤ r
  r1 : r < 4294967296

structure KPre (U B Yh Yl : Int) : Prop where
  u0 : 0 ≤ U
  u1 : U < Yh * 4294967296 + Yl
  b0 : 0 ≤ B
  b1 : B < 4294967296
  h0 : 2147483648 ≤ Yh
  h1 : Yh < 4294967296
  l0 : 0 ≤ Yl
  l1 : Yl < 4294967296

variable {U B Yh Yl q r : Int}
theorem KPre.Q_lt (p : KPre U B Yh Yl) : (U * 4294967296 + B) / (Yh * 4294967296 + Yl) < 4294967296 := by
  obtain ⟨a, b, c, d, e, f, g, h⟩ := p
  apply Int.ediv_lt_of_lt_mul (by omega)
  omega
theorem KPre.Q_nonneg (p : KPre U B Yh Yl) : 0 ≤ (U * 4294967296 + B) / (Yh * 4294967296 + Yl) := by
  obtain ⟨a, b, c, d, e, f, g, h⟩ := p
  exact Int.ediv_nonneg (by omega) (by omega)
theorem KInv.start (p : KPre U B Yh Yl) : KInv U B Yh Yl (U / Yh) (U % Yh) := by
  obtain ⟨a, b, c, d, e, f, g, h⟩ := p
  have m0 := Int.emod_nonneg U (show Yh ≠ 0 by omega)
  have m1 := Int.emod_lt_of_pos U (show 0 < Yh by omega)
  have dm := Int.mul_ediv_add_emod U Yh
  refine ⟨by rw [Int.mul_comm]; exact dm, ?_, ?_, m0, by omega⟩
  · apply Int.le_of_lt_add_one
    apply Int.ediv_lt_of_lt_mul (by omega)
    generalize U / Yh = q at *
    generalize U % Yh = r at *
    have e1 : (q + 1) * (Yh * 4294967296 + Yl) = Yh * q * 4294967296 + Yh * 4294967296 + (q + 1) * Yl := by
      rw [Int.mul_add, Int.add_mul, ← Int.mul_assoc, Int.mul_comm q Yh]; omega
    rw [e1]
    have q0 : 0 ≤ q := by
      rcases Int.lt_or_le q 0 with hq | hq
      · have : Yh * q ≤ Yh * (-1) := Int.mul_le_mul_of_nonneg_left (by omega) (by omega)
        omega
      · exact hq
    have : 0 ≤ (q + 1) * Yl := Int.mul_nonneg (by omega) g
    generalize (q + 1) * Yl = z at *
    generalize Yh * q = x at *
    omega
  · apply Int.le_of_lt_add_one
    apply Int.ediv_lt_of_lt_mul (by omega)
    omega
theorem KInv.exit (p : KPre U B Yh Yl) (k : KInv U B Yh Yl q r) (h2 : q * Yl ≤ 4294967296 * r + B) : (U * 4294967296 + B) / (Yh * 4294967296 + Yl) = q := by
  obtain ⟨a, b, c, d, e, f, g, h⟩ := p
  obtain ⟨k1, k2, k3, k4, k5⟩ := k
  refine Int.le_antisymm k2 ?_
  apply Int.le_ediv_of_mul_le (by omega)
  rw [Int.mul_add, ← Int.mul_assoc]
  generalize q * Yh = x at *
  generalize q * Yl = z at *
  omega
theorem KInv.big (p : KPre U B Yh Yl) (k : KInv U B Yh Yl q r) (h : 4294967296 ≤ q) : (U * 4294967296 + B) / (Yh * 4294967296 + Yl) ≤ q - 1 := by
  have := p.Q_lt; omega
theorem KInv.much (p : KPre U B Yh Yl) (k : KInv U B Yh Yl q r) (h2 : 4294967296 * r + B < q * Yl) : (U * 4294967296 + B) / (Yh * 4294967296 + Yl) ≤ q - 1 := by
  obtain ⟨a, b, c, d, e, f, g, h⟩ := p
  obtain ⟨k1, k2, k3, k4, k5⟩ := k
  apply Int.le_sub_one_of_lt
  apply Int.ediv_lt_of_lt_mul (by omega)
  rw [Int.mul_add, ← Int.mul_assoc]
  generalize q * Yh = x at *
  generalize q * Yl = z at *
  omega
theorem KInv.step (k : KInv U B Yh Yl q r) (h : (U * 4294967296 + B) / (Yh * 4294967296 + Yl) ≤ q - 1) (h0 : 0 ≤ Yh) (h1 : r + Yh < 4294967296) : KInv U B Yh Yl (q - 1) (r + Yh) := by
  obtain ⟨k1, k2, k3, k4, k5⟩ := k
  refine ⟨?_, h, by omega, by omega, h1⟩
  rw [Int.sub_mul]; generalize q * Yh = x at *; omega
theorem KInv.stop (p : KPre U B Yh Yl) (k : KInv U B Yh Yl q r) (h : (U * 4294967296 + B) / (Yh * 4294967296 + Yl) ≤ q - 1) (h1 : 4294967296 ≤ r + Yh) : (U * 4294967296 + B) / (Yh * 4294967296 + Yl) = q - 1 := by
  obtain ⟨a, b, c, d, e, f, g, h'⟩ := p
  obtain ⟨k1, k2, k3, k4, k5⟩ := k
  refine Int.le_antisymm h ?_
  apply Int.le_ediv_of_mul_le (by omega)
  have z1 : (q - 1) * Yl ≤ 4294967296 * Yl := Int.mul_le_mul_of_nonneg_right (by omega) g
  rw [Int.mul_add, ← Int.mul_assoc]
  have e1 : (q - 1) * Yh = q * Yh - Yh := by rw [Int.sub_mul]; omega
  rw [e1]
  generalize q * Yh = x at *
  generalize (q - 1) * Yl = z at *
  omega
/-- both digits. -/
theorem two_digits (hi Lh Ll y : Int) (hy : 0 < y) : (hi * 18446744073709551616 + (Lh * 4294967296 + Ll)) / y = (hi * 4294967296 + Lh) / y * 4294967296 + ((hi * 4294967296 + Lh) % y * 4294967296 + Ll) / y ∧ (hi * 18446744073709551616 + (Lh * 4294967296 + Ll)) % y = ((hi * 4294967296 + Lh) % y * 4294967296 + Ll) % y := by
  have dm := Int.mul_ediv_add_emod (hi * 4294967296 + Lh) y
  generalize hq : (hi * 4294967296 + Lh) / y = q at *
  generalize hr : (hi * 4294967296 + Lh) % y = r at *
  have e : hi * 18446744073709551616 + (Lh * 4294967296 + Ll) = (r * 4294967296 + Ll) + y * (q * 4294967296) := by
    rw [← Int.mul_assoc]; generalize y * q = x at *; omega
  rw [e]
  refine ⟨?_, Int.add_mul_emod_self_left _ _ _⟩
  rw [Int.add_mul_ediv_left _ _ (by omega)]; omega
/-- the quotient of two opened numbers. -/
def divF (ng : Bool) (x ex y ey : Int) : Int :=
  if y ≤ x then nearG ng (x * 9223372036854775808 / y) (ex - ey - 64 + 1) (x * 9223372036854775808 % y != 0)
  else nearG ng (x * 18446744073709551616 / y) (ex - ey - 64) (x * 18446744073709551616 % y != 0)
def DivG (a b : Int) : Int :=
  if (isNaN a || (isNaN b || ((isInf a && isInf b) || (isZ a && isZ b)))) = true then 9221120237041090560
  else if (isInf a || isZ b) = true then sgnG (ngX a b) 9218868437227405312
  else if (isZ a || isInf b) = true then sgnG (ngX a b) 0
  else divF (ngX a b) (oman a) (oexp a) (oman b) (oexp b)
theorem half_shift {x : Int} (h0 : 9223372036854775808 ≤ x) (h1 : x < 18446744073709551616) : x / 2 * 18446744073709551616 + IntKind.u64.wrap (x * 9223372036854775808) = x * 9223372036854775808 := by
  rw [u64_wrap]; omega
end Fp
namespace Fp
open Go Go.RowKit Ieee
set_option linter.unusedVariables false
set_option linter.unusedSimpArgs false

theorem top_bit {n : Nat} (h : n < 18446744073709551616) : n.testBit 63 = decide (9223372036854775808 ≤ (n : Int)) := by
  rw [Nat.testBit_eq_decide_div_mod_eq]
  have e : (2 : Nat) ^ 63 = 9223372036854775808 := by decide
  rw [e]
  by_cases c : 9223372036854775808 ≤ (n : Int)
  · rw [decide_eq_true c, decide_eq_true (by omega)]
  · rw [decide_eq_false c, decide_eq_false (by omega)]
theorem and_top (k : Nat) : k &&& 2 ^ 63 = if k.testBit 63 then 2 ^ 63 else 0 := by
  apply Nat.eq_of_testBit_eq
  intro j
  rw [Nat.testBit_and, Nat.testBit_two_pow]
  by_cases hj : 63 = j
  · subst hj
    cases hb : k.testBit 63
    · rw [if_neg (by decide), Nat.zero_testBit]; rfl
    · rw [if_pos rfl, Nat.testBit_two_pow]; rfl
  · cases hb : k.testBit 63
    · rw [if_neg (by decide), Nat.zero_testBit, decide_eq_false hj, Bool.and_false]
    · rw [if_pos rfl, Nat.testBit_two_pow, decide_eq_false hj, Bool.and_false]
theorem ngX_eq {a b : Int} (ha : U64 a) (hb : U64 b) : ngX a b = (ngb a ^^ ngb b) := by
  have a0 := ha.lo
  have a1 := ha.hi
  have b0 := hb.lo
  have b1 := hb.hi
  obtain ⟨n, rfl⟩ := Int.eq_ofNat_of_zero_le a0
  obtain ⟨m, rfl⟩ := Int.eq_ofNat_of_zero_le b0
  have hx : n ^^^ m < 2 ^ 64 := Nat.xor_lt_two_pow (by omega) (by omega)
  have e1 := bits_xor64 n m (by omega) (by omega)
  have e2 := bits_and64 (n ^^^ m) (2 ^ 63) hx (by decide)
  unfold ngX ngb
  rw [e1]
  rw [← e63] at e2
  rw [e2, and_top, Nat.testBit_xor, top_bit (by omega), top_bit (by omega)]
  rw [← Int.natCast_zero]
  have p63 : (2 : Nat) ^ 63 ≠ 0 := by decide
  generalize (2 : Nat) ^ 63 = p at p63
  clear e1 e2 hx
  cases decide (9223372036854775808 ≤ (n : Int)) <;> cases decide (9223372036854775808 ≤ (m : Int)) <;> simp [p63]

theorem mulF_eq (ng : Bool) (X Y : Nat) (x y : Int) (X0 : 9223372036854775808 ≤ X) (X1 : X < 18446744073709551616) (Y0 : 9223372036854775808 ≤ Y) (Y1 : Y < 18446744073709551616) (h0 : -2000 ≤ x) (h1 : x ≤ 2000) (h2 : -2000 ≤ y) (h3 : y ≤ 2000) :
    mulF ng X x Y y = ((near2 ng (X * Y) false (x + y) : Nat) : Int) := by
  have lo : 9223372036854775808 * 9223372036854775808 ≤ X * Y := Nat.mul_le_mul X0 Y0
  have hi : X * Y < 18446744073709551616 * 18446744073709551616 := Nat.mul_lt_mul_of_lt_of_lt X1 Y1
  unfold mulF mhi mlo
  rw [← Int.natCast_mul]
  generalize X * Y = P at *
  by_cases c : (P : Int) / 18446744073709551616 < 9223372036854775808
  · rw [if_pos c]
    have n0 : 9223372036854775808 ≤ P / 9223372036854775808 := by omega
    have n1 : P / 9223372036854775808 < 18446744073709551616 := by omega
    have e1 : Go.bits .or .u64 (IntKind.u64.wrap ((P : Int) / 18446744073709551616 * 2)) ((P : Int) % 18446744073709551616 / 9223372036854775808) = ((P / 9223372036854775808 : Nat) : Int) := by
      have w : IntKind.u64.wrap ((P : Int) / 18446744073709551616 * 2) = ((P / 18446744073709551616 * 2 : Nat) : Int) := by rw [u64_wrap]; omega
      have w2 : (P : Int) % 18446744073709551616 / 9223372036854775808 = ((P % 18446744073709551616 / 9223372036854775808 : Nat) : Int) := by omega
      rw [w, w2, bits_or64 _ _ (by omega) (by omega)]
      have := Nat.two_pow_add_eq_or_of_lt (i := 1) (b := P % 18446744073709551616 / 9223372036854775808) (by omega) (P / 18446744073709551616)
      rw [Nat.pow_one, Nat.mul_comm 2] at this
      rw [← this]; omega
    have e2 : (IntKind.u64.wrap ((P : Int) % 18446744073709551616 * 2) != 0) = decide (P % 9223372036854775808 ≠ 0) := by
      rw [u64_wrap, Bool.eq_iff_iff, bne_iff_ne, decide_eq_true_iff]; omega
    rw [e1, e2, nearG_eq ng _ _ _ n0 n1 (by omega) (by omega)]
    have m := near2_merge ng (P / 9223372036854775808) (P % 9223372036854775808) 63 false (x + y) (by omega) (by omega)
    rw [show P / 9223372036854775808 * 2 ^ 63 + P % 9223372036854775808 = P by omega, Bool.false_or] at m
    rw [m]
    congr 2; omega
  · rw [if_neg c]
    have n0 : 9223372036854775808 ≤ P / 18446744073709551616 := by omega
    have n1 : P / 18446744073709551616 < 18446744073709551616 := by omega
    have e1 : (P : Int) / 18446744073709551616 = ((P / 18446744073709551616 : Nat) : Int) := by omega
    have e2 : ((P : Int) % 18446744073709551616 != 0) = decide (P % 18446744073709551616 ≠ 0) := by
      rw [Bool.eq_iff_iff, bne_iff_ne, decide_eq_true_iff]; omega
    rw [e1, e2, nearG_eq ng _ _ _ n0 n1 (by omega) (by omega)]
    have m := near2_merge ng (P / 18446744073709551616) (P % 18446744073709551616) 64 false (x + y) (by omega) (by omega)
    rw [show P / 18446744073709551616 * 2 ^ 64 + P % 18446744073709551616 = P by omega, Bool.false_or] at m
    rw [m]
    congr 2

/-- an opened number's parts in plain numbers. -/
theorem parts {a : Int} (hu : U64 a) (hz : ¬ sz a = 0) : ∃ l : Nat, oman a = (((mant a).toNat * 2 ^ l : Nat) : Int) ∧ oexp a = pl a - l ∧ 11 ≤ l ∧ l ≤ 63 ∧ (mant a).toNat ≠ 0 ∧ (mant a).toNat < 9007199254740992 := by
  have op := opened hu hz
  have h1 := op.eq
  have h2 := op.ex
  have h3 := op.l0
  have h5 := op.l1
  have h4 := op.pos
  have h6 := op.small
  refine ⟨(lz (mant a)).toNat, ?_, by omega, by omega, by omega, by omega, by omega⟩
  rw [h1, cpow, Int.natCast_mul, show (((mant a).toNat : Nat) : Int) = mant a by omega]

theorem mul_ok {a b : Int} (ha : U64 a) (hb : U64 b) : MulG a b = ofO (double.mul a.toNat b.toNat) := by
  have X := ngX_eq ha hb
  unfold Format.mul
  rcases kind_cases a with ⟨ka, za⟩ | ⟨ka, za, fa⟩ | ⟨ka, ia⟩ | ⟨ka, na, na2⟩
  · have ra := read_fin ha (by omega)
    obtain ⟨ma, pa⟩ := zero_mant ha za
    rcases kind_cases b with ⟨kb, zb⟩ | ⟨kb, zb, fb⟩ | ⟨kb, ib⟩ | ⟨kb, nb, nb2⟩
    · have rb := read_fin hb (by omega)
      have E : MulG a b = sgnG (ngX a b) 0 := by simp [MulG, isNaN, isInf, isZ, ka, kb]
      rw [E, X, ra, rb, ma]
      simp only [Datum.product, Nat.zero_mul, Option.map_some, Format.write, ofO]
      rw [Format.nearest, if_pos rfl]
      exact sgn_word _ 0 (by decide)
    · have rb := read_fin hb fb
      have E : MulG a b = sgnG (ngX a b) 0 := by simp [MulG, isNaN, isInf, isZ, ka, kb]
      rw [E, X, ra, rb, ma]
      simp only [Datum.product, Nat.zero_mul, Option.map_some, Format.write, ofO]
      rw [Format.nearest, if_pos rfl]
      exact sgn_word _ 0 (by decide)
    · have rb := read_inf hb ib
      have E : MulG a b = 9221120237041090560 := by simp [MulG, isNaN, isInf, isZ, ka, kb]
      rw [E, ra, rb, ma]; rfl
    · obtain ⟨t, rb⟩ := read_nan hb nb nb2
      have E : MulG a b = 9221120237041090560 := by simp [MulG, isNaN, isInf, isZ, ka, kb]
      rw [E, ra, rb]; rfl
  · have ra := read_fin ha fa
    obtain ⟨la, oa, xa, la0, la1, ma0, ma1⟩ := parts ha za
    rcases kind_cases b with ⟨kb, zb⟩ | ⟨kb, zb, fb⟩ | ⟨kb, ib⟩ | ⟨kb, nb, nb2⟩
    · have rb := read_fin hb (by omega)
      obtain ⟨mb, pb⟩ := zero_mant hb zb
      have E : MulG a b = sgnG (ngX a b) 0 := by simp [MulG, isNaN, isInf, isZ, ka, kb]
      rw [E, X, ra, rb, mb]
      simp only [Datum.product, Nat.mul_zero, Option.map_some, Format.write, ofO]
      rw [Format.nearest, if_pos rfl]
      exact sgn_word _ 0 (by decide)
    · have rb := read_fin hb fb
      have opa := opened ha za
      have opb := opened hb zb
      have a1 := opa.lo
      have a2 := opa.hi
      have b1 := opb.lo
      have b2 := opb.hi
      obtain ⟨xa0, xa1⟩ := oexp_bd ha
      obtain ⟨xb0, xb1⟩ := oexp_bd hb
      obtain ⟨lb, ob, xb, lb0, lb1, mb0, mb1⟩ := parts hb zb
      have E : MulG a b = mulF (ngX a b) (oman a) (oexp a) (oman b) (oexp b) := by simp [MulG, isNaN, isInf, isZ, ka, kb]
      rw [E, X, ra, rb]
      rw [oa] at a1 a2 ⊢
      rw [ob] at b1 b2 ⊢
      rw [mulF_eq _ _ _ _ _ (by omega) (by omega) (by omega) (by omega) (by omega) (by omega) (by omega) (by omega)]
      simp only [Datum.product, Option.map_some, Format.write, ofO]
      rw [nearest_eq _ _ _ (Nat.mul_ne_zero ma0 mb0), Nat.mul_mul_mul_comm, ← Nat.pow_add, near2_scale _ _ _ _ (Nat.mul_ne_zero ma0 mb0)]
      congr 2; omega
    · have rb := read_inf hb ib
      have E : MulG a b = sgnG (ngX a b) 9218868437227405312 := by simp [MulG, isNaN, isInf, isZ, ka, kb]
      rw [E, X, ra, rb]
      simp only [Datum.product]
      rw [if_neg ma0]
      simp only [Option.map_some, Format.write, ofO]
      rw [infRung_d, Bool.xor_comm]
      exact sgn_word _ 9218868437227405312 (by decide)
    · obtain ⟨t, rb⟩ := read_nan hb nb nb2
      have E : MulG a b = 9221120237041090560 := by simp [MulG, isNaN, isInf, isZ, ka, kb]
      rw [E, ra, rb]; rfl
  · have ra := read_inf ha ia
    rcases kind_cases b with ⟨kb, zb⟩ | ⟨kb, zb, fb⟩ | ⟨kb, ib⟩ | ⟨kb, nb, nb2⟩
    · have rb := read_fin hb (by omega)
      obtain ⟨mb, pb⟩ := zero_mant hb zb
      have E : MulG a b = 9221120237041090560 := by simp [MulG, isNaN, isInf, isZ, ka, kb]
      rw [E, ra, rb, mb]; rfl
    · have rb := read_fin hb fb
      obtain ⟨lb, ob, xb, lb0, lb1, mb0, mb1⟩ := parts hb zb
      have E : MulG a b = sgnG (ngX a b) 9218868437227405312 := by simp [MulG, isNaN, isInf, isZ, ka, kb]
      rw [E, X, ra, rb]
      simp only [Datum.product]
      rw [if_neg mb0]
      simp only [Option.map_some, Format.write, ofO]
      rw [infRung_d]
      exact sgn_word _ 9218868437227405312 (by decide)
    · have rb := read_inf hb ib
      have E : MulG a b = sgnG (ngX a b) 9218868437227405312 := by simp [MulG, isNaN, isInf, isZ, ka, kb]
      rw [E, X, ra, rb]
      simp only [Datum.product, Option.map_some, Format.write, ofO]
      rw [infRung_d]
      exact sgn_word _ 9218868437227405312 (by decide)
    · obtain ⟨t, rb⟩ := read_nan hb nb nb2
      have E : MulG a b = 9221120237041090560 := by simp [MulG, isNaN, isInf, isZ, ka, kb]
      rw [E, ra, rb]; rfl
  · obtain ⟨t, ra⟩ := read_nan ha na na2
    have E : MulG a b = 9221120237041090560 := by simp [MulG, isNaN, isInf, isZ, ka]
    rw [E, ra]
    simp [Datum.product, ofO]
end Fp
namespace Fp
open Go Go.RowKit Ieee
set_option linter.unusedVariables false
set_option linter.unusedSimpArgs false

/-- a quotient's rounding does not hang on how many digits it was reckoned to. -/
theorem ratio_step (ng : Bool) (A B K j : Nat) (e : Int) (hB : 0 < B) (h : 2 ^ 53 ≤ A * 2 ^ K / B) :
    near2 ng (A * 2 ^ (K + j) / B) (decide (A * 2 ^ (K + j) % B ≠ 0)) (e - ((K + j : Nat) : Int)) = near2 ng (A * 2 ^ K / B) (decide (A * 2 ^ K % B ≠ 0)) (e - (K : Int)) := by
  have e1 : A * 2 ^ (K + j) = (A * 2 ^ K % B) * 2 ^ j + B * ((A * 2 ^ K / B) * 2 ^ j) := by
    have := Nat.div_add_mod (A * 2 ^ K) B
    rw [Nat.pow_add, ← Nat.mul_assoc, ← Nat.mul_assoc, ← Nat.add_mul, Nat.add_comm, this]
  rw [e1, Nat.add_mul_div_left _ _ hB, Nat.add_mul_mod_self_left]
  have hr := Nat.mod_lt (A * 2 ^ K) hB
  generalize A * 2 ^ K / B = q at *
  generalize A * 2 ^ K % B = r at *
  have ht : r * 2 ^ j / B < 2 ^ j := Nat.div_lt_of_lt_mul (Nat.mul_lt_mul_of_pos_right hr (Nat.two_pow_pos j))
  have m := near2_merge ng q (r * 2 ^ j / B) j (decide (r * 2 ^ j % B ≠ 0)) (e - ((K + j : Nat) : Int)) h ht
  rw [Nat.add_comm (r * 2 ^ j / B), m]
  have eb : (decide (r * 2 ^ j % B ≠ 0) || decide (r * 2 ^ j / B ≠ 0)) = decide (r ≠ 0) := by
    have dm := Nat.div_add_mod (r * 2 ^ j) B
    have hp := Nat.two_pow_pos j
    by_cases hr0 : r = 0
    · subst hr0; simp
    · rw [decide_eq_true hr0]
      have : r * 2 ^ j ≠ 0 := Nat.mul_ne_zero hr0 (by omega)
      by_cases c : r * 2 ^ j % B = 0
      · by_cases d : r * 2 ^ j / B = 0
        · rw [c, d, Nat.mul_zero] at dm; omega
        · simp [d]
      · simp [c]
  rw [eb]
  congr 1; omega
theorem ratio (ng : Bool) (A B K L : Nat) (e : Int) (hB : 0 < B) (h : 2 ^ 53 ≤ A * 2 ^ K / B) (h' : 2 ^ 53 ≤ A * 2 ^ L / B) :
    near2 ng (A * 2 ^ K / B) (decide (A * 2 ^ K % B ≠ 0)) (e - (K : Int)) = near2 ng (A * 2 ^ L / B) (decide (A * 2 ^ L % B ≠ 0)) (e - (L : Int)) := by
  rcases Nat.le_total K L with g | g
  · have := ratio_step ng A B K (L - K) e hB h
    rw [show K + (L - K) = L by omega] at this
    exact this.symm
  · have := ratio_step ng A B L (K - L) e hB h'
    rw [show L + (K - L) = K by omega] at this
    exact this
/-- the quotient of two opened ones, as of their mantissas. -/
theorem open_ratio (ng : Bool) (m n la lb k : Nat) (i j : Int) (hn : 0 < n) (hk : lb ≤ la + k) (q : Nat) (hq : q = m * 2 ^ la * 2 ^ k / (n * 2 ^ lb)) (r : Nat) (hr : r = m * 2 ^ la * 2 ^ k % (n * 2 ^ lb)) :
    q = m * 2 ^ (la + k - lb) / n ∧ near2 ng q (decide (r ≠ 0)) (i - la - (j - lb) - k) = near2 ng (m * 2 ^ (la + k - lb) / n) (decide (m * 2 ^ (la + k - lb) % n ≠ 0)) (i - j - ((la + k - lb : Nat) : Int)) := by
  have e : m * 2 ^ la * 2 ^ k = m * 2 ^ (la + k - lb) * 2 ^ lb := by
    rw [Nat.mul_assoc, Nat.mul_assoc, ← Nat.pow_add, ← Nat.pow_add]; congr 2; omega
  have hp := Nat.two_pow_pos lb
  rw [e, Nat.mul_div_mul_right _ _ hp] at hq
  rw [e, Nat.mul_mod_mul_right] at hr
  subst hq hr
  refine ⟨rfl, ?_⟩
  have eb : decide (m * 2 ^ (la + k - lb) % n * 2 ^ lb ≠ 0) = decide (m * 2 ^ (la + k - lb) % n ≠ 0) := by
    rw [decide_eq_decide]
    constructor
    · intro h c; rw [c, Nat.zero_mul] at h; exact h rfl
    · intro h; exact Nat.mul_ne_zero h (by omega)
  rw [eb]
  congr 1; omega
theorem divF_eq (ng : Bool) (X Y : Nat) (x y : Int) (X0 : 9223372036854775808 ≤ X) (X1 : X < 18446744073709551616) (Y0 : 9223372036854775808 ≤ Y) (Y1 : Y < 18446744073709551616) (h0 : -2000 ≤ x) (h1 : x ≤ 2000) (h2 : -2000 ≤ y) (h3 : y ≤ 2000) :
    ∃ k : Nat, (k = 63 ∨ k = 64) ∧ 2 ^ 63 ≤ X * 2 ^ k / Y ∧ divF ng X x Y y = ((near2 ng (X * 2 ^ k / Y) (decide (X * 2 ^ k % Y ≠ 0)) (x - y - k) : Nat) : Int) := by
  have e63n : (2 : Nat) ^ 63 = 9223372036854775808 := by decide
  have e64n : (2 : Nat) ^ 64 = 18446744073709551616 := by decide
  unfold divF
  by_cases c : (Y : Int) ≤ X
  · rw [if_pos c]
    have q0 : 9223372036854775808 ≤ X * 9223372036854775808 / Y := by
      rw [Nat.le_div_iff_mul_le (by omega)]; omega
    have q1 : X * 9223372036854775808 / Y < 18446744073709551616 := by
      apply Nat.div_lt_of_lt_mul; omega
    refine ⟨63, .inl rfl, by rw [e63n]; exact q0, ?_⟩
    rw [e63n]
    have w1 : (X : Int) * 9223372036854775808 / Y = ((X * 9223372036854775808 / Y : Nat) : Int) := by
      rw [Int.natCast_ediv, Int.natCast_mul]; rfl
    have w2 : ((X : Int) * 9223372036854775808 % Y != 0) = decide (X * 9223372036854775808 % Y ≠ 0) := by
      have : (X : Int) * 9223372036854775808 % Y = ((X * 9223372036854775808 % Y : Nat) : Int) := by rw [Int.natCast_emod, Int.natCast_mul]; rfl
      rw [this, Bool.eq_iff_iff, bne_iff_ne, decide_eq_true_iff]; omega
    rw [w1, w2, nearG_eq ng _ _ _ q0 q1 (by omega) (by omega)]
    congr 2; omega
  · rw [if_neg c]
    have q0 : 9223372036854775808 ≤ X * 18446744073709551616 / Y := by
      rw [Nat.le_div_iff_mul_le (by omega)]; omega
    have q1 : X * 18446744073709551616 / Y < 18446744073709551616 := by
      apply Nat.div_lt_of_lt_mul; omega
    refine ⟨64, .inr rfl, by rw [e63n, e64n]; exact q0, ?_⟩
    rw [e64n]
    have w1 : (X : Int) * 18446744073709551616 / Y = ((X * 18446744073709551616 / Y : Nat) : Int) := by
      rw [Int.natCast_ediv, Int.natCast_mul]; rfl
    have w2 : ((X : Int) * 18446744073709551616 % Y != 0) = decide (X * 18446744073709551616 % Y ≠ 0) := by
      have : (X : Int) * 18446744073709551616 % Y = ((X * 18446744073709551616 % Y : Nat) : Int) := by rw [Int.natCast_emod, Int.natCast_mul]; rfl
      rw [this, Bool.eq_iff_iff, bne_iff_ne, decide_eq_true_iff]; omega
    rw [w1, w2, nearG_eq ng _ _ _ q0 q1 (by omega) (by omega)]
    congr 2
/-- the model's quotient of two numbers. -/
theorem model_ratio (ng : Bool) (m n : Nat) (i j : Int) (hm : m ≠ 0) (hn : n ≠ 0) (h53 : m < 9007199254740992) :
    2 ^ 53 ≤ m * 2 ^ (54 + n.log2 - m.log2) / n ∧ double.nearest ng (2 * (m <<< (54 + n.log2 - m.log2) / n) + (m <<< (54 + n.log2 - m.log2) % n != 0).toNat) (i - j - ((54 + n.log2 - m.log2 : Nat) : Int) - 1) =
      near2 ng (m * 2 ^ (54 + n.log2 - m.log2) / n) (decide (m * 2 ^ (54 + n.log2 - m.log2) % n ≠ 0)) (i - j - ((54 + n.log2 - m.log2 : Nat) : Int)) := by
  have a1 := log2_lo hm
  have a2 : m.log2 < 53 := (log2_lt' hm).2 (by omega)
  have b1 := log2_hi hn
  rw [Nat.shiftLeft_eq]
  generalize hk : 54 + n.log2 - m.log2 = k at *
  have h : 2 ^ 53 ≤ m * 2 ^ k / n := by
    rw [Nat.le_div_iff_mul_le (by omega)]
    have c1 : 2 ^ m.log2 * 2 ^ k ≤ m * 2 ^ k := Nat.mul_le_mul_right _ a1
    have c2 : 2 ^ 53 * n ≤ 2 ^ 53 * 2 ^ (n.log2 + 1) := Nat.mul_le_mul_left _ (Nat.le_of_lt b1)
    rw [← Nat.pow_add] at c1 c2
    rw [show m.log2 + k = 53 + (n.log2 + 1) by omega] at c1
    exact Nat.le_trans c2 c1
  refine ⟨h, ?_⟩
  generalize m * 2 ^ k / n = q at *
  generalize m * 2 ^ k % n = r at *
  rw [nearest_eq _ _ _ (by omega)]
  have hs : (r != 0).toNat < 2 ^ 1 := by cases (r != 0) <;> decide
  have mm := near2_merge ng q (r != 0).toNat 1 false (i - j - k - 1) h hs
  rw [Nat.pow_one, Nat.mul_comm q 2] at mm
  rw [mm, Bool.false_or]
  congr 1
  · by_cases c : r = 0
    · subst c; rfl
    · have : (r != 0) = true := by simp [c]
      rw [this, decide_eq_true c]; rfl
  · omega
theorem div_ok {a b : Int} (ha : U64 a) (hb : U64 b) : DivG a b = ofO (double.div a.toNat b.toNat) := by
  have X := ngX_eq ha hb
  unfold Format.div
  rw [show double.fractionBits + 2 = 54 from rfl]
  rcases kind_cases a with ⟨ka, za⟩ | ⟨ka, za, fa⟩ | ⟨ka, ia⟩ | ⟨ka, na, na2⟩
  · have ra := read_fin ha (by omega)
    obtain ⟨ma, pa⟩ := zero_mant ha za
    rcases kind_cases b with ⟨kb, zb⟩ | ⟨kb, zb, fb⟩ | ⟨kb, ib⟩ | ⟨kb, nb, nb2⟩
    · have rb := read_fin hb (by omega)
      obtain ⟨mb, pb⟩ := zero_mant hb zb
      have E : DivG a b = 9221120237041090560 := by simp [DivG, isNaN, isInf, isZ, ka, kb]
      rw [E, ra, rb, ma, mb]; rfl
    · have rb := read_fin hb fb
      obtain ⟨lb, ob, xb, lb0, lb1, mb0, mb1⟩ := parts hb zb
      have E : DivG a b = sgnG (ngX a b) 0 := by simp [DivG, isNaN, isInf, isZ, ka, kb]
      rw [E, X, ra, rb, ma]
      simp only [Datum.quotient]
      rw [if_neg mb0]
      have z1 : 0 <<< (54 + (mant b).toNat.log2 - Nat.log2 0) / (mant b).toNat = 0 := by rw [Nat.zero_shiftLeft, Nat.zero_div]
      have z2 : 0 <<< (54 + (mant b).toNat.log2 - Nat.log2 0) % (mant b).toNat = 0 := by rw [Nat.zero_shiftLeft, Nat.zero_mod]
      simp only [Option.map_some, Format.write, ofO]
      rw [z1, z2]
      rw [Format.nearest, if_pos (by decide)]
      exact sgn_word _ 0 (by decide)
    · have rb := read_inf hb ib
      have E : DivG a b = sgnG (ngX a b) 0 := by simp [DivG, isNaN, isInf, isZ, ka, kb]
      rw [E, X, ra, rb]
      simp only [Datum.quotient, Option.map_some, Format.write, ofO]
      rw [Format.nearest, if_pos rfl]
      exact sgn_word _ 0 (by decide)
    · obtain ⟨t, rb⟩ := read_nan hb nb nb2
      have E : DivG a b = 9221120237041090560 := by simp [DivG, isNaN, isInf, isZ, ka, kb]
      rw [E, ra, rb]; rfl
  · have ra := read_fin ha fa
    obtain ⟨la, oa, xa, la0, la1, ma0, ma1⟩ := parts ha za
    rcases kind_cases b with ⟨kb, zb⟩ | ⟨kb, zb, fb⟩ | ⟨kb, ib⟩ | ⟨kb, nb, nb2⟩
    · have rb := read_fin hb (by omega)
      obtain ⟨mb, pb⟩ := zero_mant hb zb
      have E : DivG a b = sgnG (ngX a b) 9218868437227405312 := by simp [DivG, isNaN, isInf, isZ, ka, kb]
      rw [E, X, ra, rb, mb]
      simp only [Datum.quotient]
      rw [if_pos trivial, if_neg ma0]
      simp only [Option.map_some, Format.write, ofO]
      rw [infRung_d]
      exact sgn_word _ 9218868437227405312 (by decide)
    · have rb := read_fin hb fb
      have opa := opened ha za
      have opb := opened hb zb
      have a1 := opa.lo
      have a2 := opa.hi
      have b1 := opb.lo
      have b2 := opb.hi
      obtain ⟨xa0, xa1⟩ := oexp_bd ha
      obtain ⟨xb0, xb1⟩ := oexp_bd hb
      obtain ⟨lb, ob, xb, lb0, lb1, mb0, mb1⟩ := parts hb zb
      have E : DivG a b = divF (ngX a b) (oman a) (oexp a) (oman b) (oexp b) := by simp [DivG, isNaN, isInf, isZ, ka, kb]
      rw [E, X, ra, rb]
      rw [oa] at a1 a2 ⊢
      rw [ob] at b1 b2 ⊢
      obtain ⟨k, hk, hq, e⟩ := divF_eq (ngb a ^^ ngb b) ((mant a).toNat * 2 ^ la) ((mant b).toNat * 2 ^ lb) (oexp a) (oexp b) (by omega) (by omega) (by omega) (by omega) (by omega) (by omega) (by omega) (by omega)
      rw [e, xa, xb]
      obtain ⟨q1, q2⟩ := open_ratio (ngb a ^^ ngb b) (mant a).toNat (mant b).toNat la lb k (pl a) (pl b) (by omega) (by omega) _ rfl _ rfl
      rw [q2]
      rw [q1] at hq
      obtain ⟨h1, h2⟩ := model_ratio (ngb a ^^ ngb b) (mant a).toNat (mant b).toNat (pl a) (pl b) ma0 mb0 ma1
      simp only [Datum.quotient]
      rw [if_neg mb0]
      simp only [Option.map_some, Format.write, ofO]
      rw [h2, ratio (ngb a ^^ ngb b) (mant a).toNat (mant b).toNat (la + k - lb) _ (pl a - pl b) (by omega) (Nat.le_trans (Nat.pow_le_pow_right (by omega) (by omega)) hq) h1]
    · have rb := read_inf hb ib
      have E : DivG a b = sgnG (ngX a b) 0 := by simp [DivG, isNaN, isInf, isZ, ka, kb]
      rw [E, X, ra, rb]
      simp only [Datum.quotient, Option.map_some, Format.write, ofO]
      rw [Format.nearest, if_pos rfl]
      exact sgn_word _ 0 (by decide)
    · obtain ⟨t, rb⟩ := read_nan hb nb nb2
      have E : DivG a b = 9221120237041090560 := by simp [DivG, isNaN, isInf, isZ, ka, kb]
      rw [E, ra, rb]; rfl
  · have ra := read_inf ha ia
    rcases kind_cases b with ⟨kb, zb⟩ | ⟨kb, zb, fb⟩ | ⟨kb, ib⟩ | ⟨kb, nb, nb2⟩
    · have rb := read_fin hb (by omega)
      have E : DivG a b = sgnG (ngX a b) 9218868437227405312 := by simp [DivG, isNaN, isInf, isZ, ka, kb]
      rw [E, X, ra, rb]
      simp only [Datum.quotient, Option.map_some, Format.write, ofO]
      rw [infRung_d]
      exact sgn_word _ 9218868437227405312 (by decide)
    · have rb := read_fin hb fb
      have E : DivG a b = sgnG (ngX a b) 9218868437227405312 := by simp [DivG, isNaN, isInf, isZ, ka, kb]
      rw [E, X, ra, rb]
      simp only [Datum.quotient, Option.map_some, Format.write, ofO]
      rw [infRung_d]
      exact sgn_word _ 9218868437227405312 (by decide)
    · have rb := read_inf hb ib
      have E : DivG a b = 9221120237041090560 := by simp [DivG, isNaN, isInf, isZ, ka, kb]
      rw [E, ra, rb]; rfl
    · obtain ⟨t, rb⟩ := read_nan hb nb nb2
      have E : DivG a b = 9221120237041090560 := by simp [DivG, isNaN, isInf, isZ, ka, kb]
      rw [E, ra, rb]; rfl
  · obtain ⟨t, ra⟩ := read_nan ha na na2
    have E : DivG a b = 9221120237041090560 := by simp [DivG, isNaN, isInf, isZ, ka]
    rw [E, ra]
    simp [Datum.quotient, ofO]
end Fp
namespace Fp
open Go Go.RowKit Ieee
set_option linter.unusedVariables false
set_option linter.unusedSimpArgs false

theorem word_num (s : Bool) (r : Nat) (h : r ≤ double.infRung) : isNaN ((double.word s r : Nat) : Int) = false := by
  rw [infRung_d] at h
  obtain ⟨h1, h2, h3⟩ := word_int s r (by omega)
  rw [Bool.eq_false_iff]; intro c
  rw [nan_iff', h2] at c; omega
theorem nearest_num (s : Bool) (m : Nat) (p : Int) : isNaN ((double.nearest s m p : Nat) : Int) = false := by
  unfold Format.nearest
  split
  · exact word_num _ _ (Nat.zero_le _)
  · exact word_num _ _ (Nat.min_le_right _ _)
theorem write_num (d : Datum) (h : d.isNaN = false) : isNaN ((double.write d : Nat) : Int) = false := by
  cases d with
  | number s m p => exact nearest_num s m p
  | infinity s => exact word_num s _ (Nat.le_refl _)
  | nan s t => simp [Datum.isNaN] at h
theorem sum_num {x y d : Datum} (h : x.sum y = some d) : d.isNaN = false := by
  unfold Datum.sum at h
  split at h
  · cases h
  · cases h
  · split at h
    · cases h; rfl
    · cases h
  · cases h; rfl
  · cases h; rfl
  · cases h; rfl
theorem product_num {x y d : Datum} (h : x.product y = some d) : d.isNaN = false := by
  unfold Datum.product at h
  split at h
  · cases h
  · cases h
  · cases h; rfl
  · split at h
    · cases h
    · cases h; rfl
  · split at h
    · cases h
    · cases h; rfl
  · cases h; rfl
theorem quotient_num {k : Nat} {x y d : Datum} (h : x.quotient k y = some d) : d.isNaN = false := by
  unfold Datum.quotient at h
  split at h
  · cases h
  · cases h
  · cases h
  · cases h; rfl
  · cases h; rfl
  · split at h
    · split at h
      · cases h
      · cases h; rfl
    · cases h; rfl
/-- what Of makes of an operation's result. -/
def ofM (o : Option Nat) : Int := match o with | none => 9221120237041090560 | some r => OfG r
theorem ofM_eq (o : Option Nat) (h : ∀ r, o = some r → isNaN (r : Int) = false) : ofM o = ofO o := by
  cases o with
  | none => rfl
  | some r =>
    show OfG r = (r : Int)
    unfold OfG; rw [h r rfl]; rfl
theorem add_of {a b : Int} (ha : U64 a) (hb : U64 b) : ofM (double.add a.toNat b.toNat) = AddG a b := by
  rw [add_ok ha hb, ofM_eq]
  intro r h
  unfold Format.add at h
  rw [Option.map_eq_some_iff] at h
  obtain ⟨d, h1, rfl⟩ := h
  exact write_num d (sum_num h1)
theorem sub_of {a b : Int} (ha : U64 a) (hb : U64 b) : ofM (double.sub a.toNat b.toNat) = SubG a b := by
  rw [sub_ok ha hb, ofM_eq]
  intro r h
  unfold Format.sub at h
  rw [Option.map_eq_some_iff] at h
  obtain ⟨d, h1, rfl⟩ := h
  exact write_num d (sum_num h1)
theorem mul_of {a b : Int} (ha : U64 a) (hb : U64 b) : ofM (double.mul a.toNat b.toNat) = MulG a b := by
  rw [mul_ok ha hb, ofM_eq]
  intro r h
  unfold Format.mul at h
  rw [Option.map_eq_some_iff] at h
  obtain ⟨d, h1, rfl⟩ := h
  exact write_num d (product_num h1)
theorem div_of {a b : Int} (ha : U64 a) (hb : U64 b) : ofM (double.div a.toNat b.toNat) = DivG a b := by
  rw [div_ok ha hb, ofM_eq]
  intro r h
  unfold Format.div at h
  rw [Option.map_eq_some_iff] at h
  obtain ⟨d, h1, rfl⟩ := h
  exact write_num d (quotient_num h1)
end Fp
