/- Plain facts: what math.Ldexp reckons of a finite number that is not 0. -/
import Derived.Test.YtkiakflmoplmeaaFx
namespace Fp
open Go Go.RowKit Ieee
set_option linter.unusedVariables false
set_option linter.unusedSimpArgs false

/-- a normal word by its parts. -/
theorem normal_parts {a E F : Int} {s : Bool} (h : a = (if s then 9223372036854775808 else 0) + E * 4503599627370496 + F) (h0 : 1 ≤ E) (h1 : E ≤ 2046) (f0 : 0 ≤ F) (f1 : F < 4503599627370496) :
    U64 a ∧ ngb a = s ∧ ¬ sz a = 0 ∧ sz a < 9218868437227405312 ∧ oman a = (F + 4503599627370496) * 2048 ∧ oexp a = E - 1086 := by
  have hu : U64 a := by cases s <;> simp at h <;> exact ⟨by omega, by omega⟩
  have es := sz_eq hu
  have ss : sz a = E * 4503599627370496 + F := by rw [es]; cases s <;> simp at h <;> omega
  have ee : eb a = E := by unfold eb; rw [ss]; omega
  have em : a % 4503599627370496 = F := by cases s <;> simp at h <;> omega
  refine ⟨hu, ?_, by omega, by omega, ?_, ?_⟩
  · unfold ngb
    cases s <;> simp at h <;> simp <;> omega
  · have hl := lz_hf hu
    unfold oman
    have m : mant a = hf a := by unfold mant; rw [if_pos (by omega)]
    rw [m, hl, hf_eq hu]
    rw [show (11 : Int).toNat = 11 from rfl, u64_wrap]
    omega
  · have hl := lz_hf hu
    unfold oexp
    rw [if_pos (by omega), hl, ee]; omega
/-- the word that Ldexp makes: the same sign, the same fraction, the exponent's field E. -/
def ldW (y E : Int) : Int := Go.bits .or .u64 (Go.bits .andNot .u64 y 9218868437227405312) (E * 4503599627370496)
theorem and_field (n : Nat) (h : n < 18446744073709551616) : n &&& 9218868437227405312 = n / 4503599627370496 % 2048 * 4503599627370496 := by
  have e1 : (9218868437227405312 : Nat) = (2 ^ 11 - 1) <<< 52 := by decide
  have e2 : n / 4503599627370496 % 2048 * 4503599627370496 = ((n >>> 52) &&& (2 ^ 11 - 1)) <<< 52 := by
    rw [Nat.and_two_pow_sub_one_eq_mod, Nat.shiftLeft_eq, Nat.shiftRight_eq_div_pow]
  rw [e2, e1]
  apply Nat.eq_of_testBit_eq
  intro j
  rw [Nat.testBit_and, Nat.testBit_shiftLeft, Nat.testBit_shiftLeft, Nat.testBit_and, Nat.testBit_shiftRight]
  by_cases hj : j ≥ 52
  · rw [show 52 + (j - 52) = j by omega]
    cases decide (j ≥ 52) <;> simp
  · simp [hj]
theorem ldW_eq {y E : Int} (hy : U64 y) (h0 : 1 ≤ E) (h1 : E ≤ 2046) : ldW y E = (if ngb y then 9223372036854775808 else 0) + E * 4503599627370496 + y % 4503599627370496 := by
  have y0 := hy.lo
  have y1 := hy.hi
  obtain ⟨n, rfl⟩ := Int.eq_ofNat_of_zero_le y0
  obtain ⟨m, rfl⟩ := Int.eq_ofNat_of_zero_le (show 0 ≤ E by omega)
  have a1 := and_not_mask_lemma n 9218868437227405312 (by omega) (by decide)
  rw [and_field n (by omega)] at a1
  have a1' : Go.bits .andNot .u64 (n : Int) 9218868437227405312 = ((n - n / 4503599627370496 % 2048 * 4503599627370496 : Nat) : Int) := a1
  have w1 : (m : Int) * 4503599627370496 = ((m * 4503599627370496 : Nat) : Int) := by omega
  unfold ldW
  rw [a1', w1]
  have hs : n - n / 4503599627370496 % 2048 * 4503599627370496 = n / 9223372036854775808 * 9223372036854775808 + n % 4503599627370496 := by omega
  rw [hs, bits_or64 _ _ (by omega) (by omega)]
  -- the fields do not meet
  have hq : n / 9223372036854775808 = 0 ∨ n / 9223372036854775808 = 1 := by omega
  have hf : n % 4503599627370496 < 2 ^ 52 := by have : (2 : Nat) ^ 52 = 4503599627370496 := by decide
                                                rw [this]; omega
  have hm63 : m * 4503599627370496 + n % 4503599627370496 < 2 ^ 63 := by have : (2 : Nat) ^ 63 = 9223372036854775808 := by decide
                                                                         rw [this]; omega
  have o1 := Nat.two_pow_add_eq_or_of_lt (i := 52) (b := n % 4503599627370496) hf m
  have o2 := Nat.two_pow_add_eq_or_of_lt (i := 63) (b := m * 4503599627370496 + n % 4503599627370496) hm63 (n / 9223372036854775808)
  have o3 := Nat.two_pow_add_eq_or_of_lt (i := 63) (b := n % 4503599627370496) (by omega) (n / 9223372036854775808)
  have e52n : (2 : Nat) ^ 52 = 4503599627370496 := by decide
  have e63n : (2 : Nat) ^ 63 = 9223372036854775808 := by decide
  rw [e52n] at o1
  rw [e63n] at o2 o3
  have key : (n / 9223372036854775808 * 9223372036854775808 + n % 4503599627370496) ||| m * 4503599627370496 = 9223372036854775808 * (n / 9223372036854775808) + (m * 4503599627370496 + n % 4503599627370496) := by
    rw [o2, Nat.mul_comm m, o1, Nat.mul_comm (n / 9223372036854775808), o3, Nat.or_assoc, Nat.or_comm (n % 4503599627370496)]
  rw [key]
  unfold ngb
  by_cases c : 9223372036854775808 ≤ (n : Int)
  · rw [decide_eq_true c, if_pos rfl]
    have : n / 9223372036854775808 = 1 := by omega
    rw [this]; omega
  · rw [decide_eq_false c, if_neg (by decide)]
    have : n / 9223372036854775808 = 0 := by omega
    rw [this]; omega
end Fp
namespace Fp
open Go Go.RowKit Ieee
set_option linter.unusedVariables false
set_option linter.unusedSimpArgs false

/-- the normal word of an opened man and its power. -/
theorem word_of (s : Bool) (X : Int) (p : Int) (h0 : 9223372036854775808 ≤ X) (h1 : X < 18446744073709551616) (hl : X % 2048 = 0) (p0 : -1085 ≤ p) (p1 : p ≤ 960) :
    ∃ a : Int, a = (if s then 9223372036854775808 else 0) + (p + 1086) * 4503599627370496 + (X / 2048 - 4503599627370496) ∧ U64 a ∧ ngb a = s ∧ ¬ sz a = 0 ∧ sz a < 9218868437227405312 ∧ oman a = X ∧ oexp a = p ∧ ((near2 s X.toNat false p : Nat) : Int) = a := by
  refine ⟨_, rfl, ?_⟩
  obtain ⟨q1, q2, q3, q4, q5, q6⟩ := normal_parts (a := (if s then 9223372036854775808 else 0) + (p + 1086) * 4503599627370496 + (X / 2048 - 4503599627370496)) (E := p + 1086) (F := X / 2048 - 4503599627370496) (s := s) rfl (by omega) (by omega) (by omega) (by omega)
  have o : oman ((if s then 9223372036854775808 else 0) + (p + 1086) * 4503599627370496 + (X / 2048 - 4503599627370496)) = X := by rw [q5]; omega
  have x : oexp ((if s then 9223372036854775808 else 0) + (p + 1086) * 4503599627370496 + (X / 2048 - 4503599627370496)) = p := by rw [q6]; omega
  refine ⟨q1, q2, q3, q4, o, x, ?_⟩
  have := self_near q1 q3 q4
  rw [o, x, q2] at this
  exact this
/-- a product with a power of two. -/
theorem mul_pow {c x : Int} (hc : U64 c) (hx : U64 x) (zc : ¬ sz c = 0) (fc : sz c < 9218868437227405312) (zx : ¬ sz x = 0) (fx : sz x < 9218868437227405312) (gc : ngb c = false) (oc : oman c = 9223372036854775808) :
    MulG c x = ((near2 (ngb x) (oman x).toNat false (oexp c + 63 + oexp x) : Nat) : Int) := by
  have X := ngX_eq hc hx
  rw [gc, Bool.false_xor] at X
  have ox := opened hx zx
  have x0 := ox.lo
  have x1 := ox.hi
  obtain ⟨e0, e1⟩ := oexp_bd hx
  obtain ⟨f0, f1⟩ := oexp_bd hc
  have nc : isNaN c = false := by rw [Bool.eq_false_iff]; intro h; rw [nan_iff'] at h; omega
  have ic : isInf c = false := by rw [Bool.eq_false_iff]; intro h; rw [inf_iff] at h; omega
  have zc' : isZ c = false := by rw [Bool.eq_false_iff]; intro h; rw [isZ_iff] at h; exact zc h
  have nx : isNaN x = false := by rw [Bool.eq_false_iff]; intro h; rw [nan_iff'] at h; omega
  have ix : isInf x = false := by rw [Bool.eq_false_iff]; intro h; rw [inf_iff] at h; omega
  have zx' : isZ x = false := by rw [Bool.eq_false_iff]; intro h; rw [isZ_iff] at h; exact zx h
  have E : MulG c x = mulF (ngX c x) (oman c) (oexp c) (oman x) (oexp x) := by simp [MulG, nc, ic, zc', nx, ix, zx']
  rw [E, X, oc]
  obtain ⟨n, hn⟩ := Int.eq_ofNat_of_zero_le (show 0 ≤ oman x by omega)
  rw [hn] at x0 x1 ⊢
  have := mulF_eq (ngb x) 9223372036854775808 n (oexp c) (oexp x) (by omega) (by omega) (by omega) (by omega) (by omega) (by omega) (by omega) (by omega)
  have h2 : mulF (ngb x) 9223372036854775808 (oexp c) (n : Int) (oexp x) = ((near2 (ngb x) (9223372036854775808 * n) false (oexp c + oexp x) : Nat) : Int) := this
  have e63n : (2 : Nat) ^ 63 = 9223372036854775808 := by decide
  have e : 9223372036854775808 * n = n * 2 ^ 63 := by rw [e63n, Nat.mul_comm]
  rw [h2, e, near2_scale _ _ _ _ (by omega), Int.toNat_natCast]
  rw [show oexp c + oexp x + ((63 : Nat) : Int) = oexp c + 63 + oexp x by omega]
/-- far below: nought. -/
theorem near2_under (s : Bool) (n : Nat) (p : Int) (h0 : 9223372036854775808 ≤ n) (h1 : n < 18446744073709551616) (hp : p + 63 < -1075) : near2 s n false p = double.word s 0 := by
  have hl := log2_63 h0 h1
  unfold near2
  rw [hl]
  have eL : max (p + ((63 : Nat) : Int) - 52) (-1074) = -1074 := by omega
  rw [eL]
  have e1 : (p - -1074).toNat = 0 := by omega
  obtain ⟨d, hd⟩ : ∃ d, (-1074 - p).toNat = d := ⟨_, rfl⟩
  have hd2 : 65 ≤ d := by omega
  rw [e1, hd, Nat.pow_zero, Nat.mul_one]
  have hp2 : 2 ^ 65 ≤ 2 ^ d := Nat.pow_le_pow_right (by omega) hd2
  have e65 : (2 : Nat) ^ 65 = 36893488147419103232 := by decide
  rw [e65] at hp2
  have r : rne n false d = 0 := by
    rw [rne_if, Nat.mod_eq_of_lt (by omega), Nat.div_eq_of_lt (by omega), if_neg (by omega)]
  rw [r]
  congr 1
/-- far above: infinity. -/
theorem near2_over (s : Bool) (n : Nat) (p : Int) (h0 : 9223372036854775808 ≤ n) (h1 : n < 18446744073709551616) (hp : 1023 < p + 63) : near2 s n false p = double.word s double.infRung := by
  have hl := log2_63 h0 h1
  have hn : n ≠ 0 := by omega
  have k := kept_lo n p hn (by unfold lastP; rw [hl]; omega)
  have e : lastP n p = p + 11 := by unfold lastP; rw [hl]; omega
  unfold near2
  rw [hl]
  have eL : max (p + ((63 : Nat) : Int) - 52) (-1074) = p + 11 := by omega
  rw [eL]
  rw [e] at k
  congr 1
  rw [infRung_d]
  have e52 : (2 : Nat) ^ 52 = 4503599627370496 := by decide
  rw [e52] at k ⊢
  generalize rne (n * 2 ^ (p - (p + 11)).toNat) false (p + 11 - p).toNat = z at *
  omega
def normY (x : Int) : Int := if sz x < 4503599627370496 then MulG x 4841369599423283200 else x
def normE (x : Int) : Int := if sz x < 4503599627370496 then -52 else 0
theorem C52 : U64 4841369599423283200 ∧ ngb 4841369599423283200 = false ∧ oman 4841369599423283200 = 9223372036854775808 ∧ oexp 4841369599423283200 = -11 ∧ ¬ sz 4841369599423283200 = 0 ∧ sz 4841369599423283200 < 9218868437227405312 :=
  ⟨⟨by decide, by decide⟩, by decide +kernel, by decide +kernel, by decide +kernel, by decide +kernel, by decide +kernel⟩
structure Norm (x y k : Int) : Prop where
  u : U64 y
  ng : ngb y = ngb x
  nz : ¬ sz y = 0
  fin : sz y < 9218868437227405312
  man : oman y = oman x
  ex : oexp y = oexp x - k
  field : sz y / 4503599627370496 = oexp y + 1086
  f0 : 1 ≤ oexp y + 1086
  f1 : oexp y + 1086 ≤ 2046
theorem norm_of {x : Int} (hx : U64 x) (zx : ¬ sz x = 0) (fx : sz x < 9218868437227405312) : Norm x (normY x) (normE x) := by
  have es := sz_eq hx
  have ox := opened hx zx
  have x0 := ox.lo
  have x1 := ox.hi
  have xl := ox.lower
  have ex := ox.ex
  have l0 := ox.l0
  have l1 := ox.l1
  by_cases c : sz x < 4503599627370496
  · have e1 : normY x = MulG x 4841369599423283200 := if_pos c
    have e2 : normE x = -52 := if_pos c
    obtain ⟨c1, c2, c3, c4, c5, c6⟩ := C52
    have ee : eb x = 0 := by unfold eb; have := sz_nonneg hx; omega
    have ep : pl x = -1074 := by unfold pl; rw [if_neg (by omega)]
    rw [e1, e2, mul_comm' hx c1, mul_pow c1 hx c5 c6 zx fx c2 c3, c4]
    obtain ⟨a, ha, q1, q2, q3, q4, q5, q6, q7⟩ := word_of (ngb x) (oman x) (-11 + 63 + oexp x) x0 x1 xl (by omega) (by omega)
    rw [q7]
    have hz : sz a / 4503599627370496 = -11 + 63 + oexp x + 1086 := by
      rw [sz_eq q1, ha]
      cases ngb x <;> simp only [Bool.false_eq_true, if_false, if_true] <;> omega
    exact ⟨q1, q2, q3, q4, q5, by omega, by omega, by omega, by omega⟩
  · have e1 : normY x = x := if_neg c
    have e2 : normE x = 0 := if_neg c
    have ee : eb x = sz x / 4503599627370496 := rfl
    have ep : pl x = eb x - 1075 := by unfold pl; rw [if_pos (by omega)]
    have el : lz (mant x) = 11 := by
      have : mant x = hf x := by unfold mant; rw [if_pos (by omega)]
      rw [this]; exact lz_hf hx
    rw [e1, e2]
    exact ⟨hx, rfl, zx, fx, rfl, by omega, by omega, by omega, by omega⟩
def hf' (y : Int) : Int := hf y
/-- the word with another exponent: its parts. -/
theorem ldW_parts {x y k E : Int} (N : Norm x y k) (h0 : 1 ≤ E) (h1 : E ≤ 2046) : U64 (ldW y E) ∧ ngb (ldW y E) = ngb x ∧ ¬ sz (ldW y E) = 0 ∧ sz (ldW y E) < 9218868437227405312 ∧ oman (ldW y E) = oman x ∧ oexp (ldW y E) = E - 1086 := by
  have hu := N.u
  have f0 : 0 ≤ y % 4503599627370496 := by omega
  obtain ⟨q1, q2, q3, q4, q5, q6⟩ := normal_parts (s := ngb y) (ldW_eq hu h0 h1) h0 h1 f0 (by omega)
  refine ⟨q1, by rw [q2]; exact N.ng, q3, q4, ?_, q6⟩
  rw [q5, ← N.man]
  -- the same fraction
  have hf := N.field
  have g0 := N.f0
  have hl := lz_hf hu
  have m : mant y = hf' y := by unfold mant hf'; rw [if_pos (by unfold eb; omega)]
  unfold oman
  rw [m]; unfold hf'
  rw [hl, hf_eq hu, show (11 : Int).toNat = 11 from rfl, u64_wrap]
  omega
theorem C1 : U64 4607182418800017408 ∧ ngb 4607182418800017408 = false ∧ oman 4607182418800017408 = 9223372036854775808 ∧ oexp 4607182418800017408 = -63 ∧ ¬ sz 4607182418800017408 = 0 ∧ sz 4607182418800017408 < 9218868437227405312 :=
  ⟨⟨by decide, by decide⟩, by decide +kernel, by decide +kernel, by decide +kernel, by decide +kernel, by decide +kernel⟩
theorem C53 : U64 4368491638549381120 ∧ ngb 4368491638549381120 = false ∧ oman 4368491638549381120 = 9223372036854775808 ∧ oexp 4368491638549381120 = -116 ∧ ¬ sz 4368491638549381120 = 0 ∧ sz 4368491638549381120 < 9218868437227405312 :=
  ⟨⟨by decide, by decide⟩, by decide +kernel, by decide +kernel, by decide +kernel, by decide +kernel, by decide +kernel⟩
/-- one way: as it is. -/
theorem ld_one {x y k P e : Int} (N : Norm x y k) (hP : P = oexp x + 63 + e) (h0 : -1022 ≤ P) (h1 : P ≤ 1023) : MulG 4607182418800017408 (ldW y (P + 1023)) = ((near2 (ngb x) (oman x).toNat false (oexp x + e) : Nat) : Int) := by
  obtain ⟨c1, c2, c3, c4, c5, c6⟩ := C1
  obtain ⟨q1, q2, q3, q4, q5, q6⟩ := ldW_parts (E := P + 1023) N (by omega) (by omega)
  rw [mul_pow c1 q1 c5 c6 q3 q4 c2 c3, c4, q5, q2, q6]
  congr 2; omega
/-- the other way: by 2^-53. -/
theorem ld_sub {x y k P e : Int} (N : Norm x y k) (hP : P = oexp x + 63 + e) (h0 : -1075 ≤ P) (h1 : P < -1022) : MulG 4368491638549381120 (ldW y (P + 53 + 1023)) = ((near2 (ngb x) (oman x).toNat false (oexp x + e) : Nat) : Int) := by
  obtain ⟨c1, c2, c3, c4, c5, c6⟩ := C53
  obtain ⟨q1, q2, q3, q4, q5, q6⟩ := ldW_parts (E := P + 53 + 1023) N (by omega) (by omega)
  rw [mul_pow c1 q1 c5 c6 q3 q4 c2 c3, c4, q5, q2, q6]
  congr 2; omega
end Fp
namespace Fp
open Go Go.RowKit Ieee
set_option linter.unusedVariables false
set_option linter.unusedSimpArgs false
/-- a whole number of 53 bits, at the last place of its size. -/
theorem again (s : Bool) (z : Nat) (L : Int) (h0 : z ≠ 0) (h1 : z ≤ 9007199254740992) (hL : -1074 ≤ L) (hlo : -1074 < L → 4503599627370496 ≤ z) :
    near2 s z false L = double.word s (min ((L + 1074).toNat * 4503599627370496 + z) double.infRung) := by
  have e52n : (2 : Nat) ^ 52 = 4503599627370496 := by decide
  have e53n : (2 : Nat) ^ 53 = 9007199254740992 := by decide
  unfold near2
  rw [e52n]
  by_cases c : z = 9007199254740992
  · have zl : z.log2 = 53 := log2_eq (by rw [e53n]; omega) (by rw [Nat.pow_succ, e53n]; omega)
    have eL : max (L + (z.log2 : Int) - 52) (-1074) = L + 1 := by rw [zl]; omega
    have r : rne z false 1 = 4503599627370496 := by
      rw [rne_if, Nat.pow_one, if_neg (by omega)]; omega
    rw [eL, show (L - (L + 1)).toNat = 0 by omega, show (L + 1 - L).toNat = 1 by omega, Nat.pow_zero, Nat.mul_one, r]
    have : (L + 1 + 1074).toNat * 4503599627370496 + 4503599627370496 = (L + 1074).toNat * 4503599627370496 + z := by omega
    rw [this]
  · have hl : z.log2 ≤ 52 := by
      have : z.log2 < 53 := (log2_lt' h0).2 (by rw [e53n]; omega)
      omega
    have hl2 : -1074 < L → z.log2 = 52 := fun g => by
      have := (le_log2' (k := 52) h0).2 (by rw [e52n]; exact hlo g)
      omega
    have eL : max (L + (z.log2 : Int) - 52) (-1074) = L := by
      by_cases g : -1074 < L
      · rw [hl2 g]; omega
      · omega
    rw [eL, Int.sub_self, show (0 : Int).toNat = 0 from rfl, Nat.pow_zero, Nat.mul_one, rne_zero]
theorem keptH_hi (n : Nat) (h : Bool) (p : Int) (hn : n ≠ 0) : rne (n * 2 ^ (p - lastP n p).toNat) h (lastP n p - p).toNat ≤ 2 ^ 53 := by
  have h1 := log2_hi hn
  have hL : p + n.log2 - 52 ≤ lastP n p := Int.le_max_left _ _
  generalize lastP n p = L at *
  have hb : n * 2 ^ (p - L).toNat / 2 ^ (L - p).toNat < 2 ^ 53 := by
    apply Nat.div_lt_of_lt_mul
    rw [← Nat.pow_add]
    have h2 : n * 2 ^ (p - L).toNat < 2 ^ (n.log2 + 1) * 2 ^ (p - L).toNat := Nat.mul_lt_mul_of_pos_right h1 (Nat.two_pow_pos _)
    rw [← Nat.pow_add] at h2
    exact Nat.lt_of_lt_of_le h2 (Nat.pow_le_pow_right (by omega) (by omega))
  have := rne_le (n * 2 ^ (p - L).toNat) h (L - p).toNat
  omega
theorem keptH_lo (n : Nat) (h : Bool) (p : Int) (hn : n ≠ 0) (hh : -1074 < lastP n p) : 2 ^ 52 ≤ rne (n * 2 ^ (p - lastP n p).toNat) h (lastP n p - p).toNat := by
  have h1 := log2_lo hn
  have hL : lastP n p = p + n.log2 - 52 := by unfold lastP at *; omega
  generalize lastP n p = L at *
  have hb : 2 ^ 52 ≤ n * 2 ^ (p - L).toNat / 2 ^ (L - p).toNat := by
    rw [Nat.le_div_iff_mul_le (Nat.two_pow_pos _), ← Nat.pow_add]
    have h2 : 2 ^ n.log2 * 2 ^ (p - L).toNat ≤ n * 2 ^ (p - L).toNat := Nat.mul_le_mul_right _ h1
    rw [← Nat.pow_add] at h2
    exact Nat.le_trans (Nat.pow_le_pow_right (by omega) (by omega)) h2
  exact Nat.le_trans hb (le_rne _ _ _)
/-- rounding is: cut at the last place, then write. -/
theorem near_again (s : Bool) (n : Nat) (h : Bool) (p : Int) (hn : n ≠ 0) (z : Nat) (hz : z = rne (n * 2 ^ (p - lastP n p).toNat) h (lastP n p - p).toNat) :
    near2 s n h p = if z = 0 then double.word s 0 else near2 s z false (lastP n p) := by
  have e52n : (2 : Nat) ^ 52 = 4503599627370496 := by decide
  have e53n : (2 : Nat) ^ 53 = 9007199254740992 := by decide
  have k1 := keptH_hi n h p hn
  have k2 := keptH_lo n h p hn
  rw [← hz] at k1 k2
  rw [e53n] at k1
  rw [e52n] at k2
  have kL : -1074 ≤ lastP n p := Int.le_max_right _ _
  have key : near2 s n h p = double.word s (min ((lastP n p + 1074).toNat * 4503599627370496 + z) double.infRung) := by
    rw [hz]; unfold near2 lastP; rw [e52n]
  rw [key]
  by_cases c : z = 0
  · rw [if_pos c]
    have : lastP n p = -1074 := by
      by_cases g : -1074 < lastP n p
      · have := k2 g; omega
      · omega
    rw [this, c]
    rfl
  · rw [if_neg c, again s z _ c k1 kL k2]
end Fp
namespace Fp
open Go Go.RowKit Ieee
set_option linter.unusedVariables false
set_option linter.unusedSimpArgs false
theorem small_float (n : Nat) (h0 : n ≠ 0) (h1 : n ≤ 9007199254740992) : ∃ a : Int, ((near2 false n false 0 : Nat) : Int) = a ∧ U64 a ∧ ¬ sz a = 0 ∧ sz a < 9218868437227405312 ∧ ∀ L : Int, near2 (ngb a) (oman a).toNat false (oexp a + L) = near2 false n false L := by
  have e53n : (2 : Nat) ^ 53 = 9007199254740992 := by decide
  have hl : n.log2 ≤ 53 := by
    have : n.log2 < 54 := (log2_lt' h0).2 (by rw [Nat.pow_succ, e53n]; omega)
    omega
  have lo := log2_lo h0
  have hi := log2_hi h0
  obtain ⟨l, el⟩ : ∃ l, n.log2 = l := ⟨_, rfl⟩
  rw [el] at hl lo hi
  have e63n : (2 : Nat) ^ 63 = 9223372036854775808 := by decide
  have e64n : (2 : Nat) ^ 64 = 18446744073709551616 := by decide
  have a1 : 9223372036854775808 ≤ n * 2 ^ (63 - l) := by
    have := Nat.mul_le_mul_right (2 ^ (63 - l)) lo
    rw [← Nat.pow_add, show l + (63 - l) = 63 by omega, e63n] at this
    exact this
  have a2 : n * 2 ^ (63 - l) < 18446744073709551616 := by
    have := Nat.mul_lt_mul_of_pos_right hi (Nat.two_pow_pos (63 - l))
    rw [← Nat.pow_add, show l + 1 + (63 - l) = 64 by omega, e64n] at this
    exact this
  have a3 : n * 2 ^ (63 - l) % 2048 = 0 := by
    by_cases c : l = 53
    · subst c
      rw [e53n] at lo
      have : n = 9007199254740992 := by omega
      rw [this]
    · have : 63 - l = 11 + (52 - l) := by omega
      rw [this, Nat.pow_add, Nat.mul_comm (2 ^ 11), ← Nat.mul_assoc]
      exact Nat.mul_mod_left _ _
  obtain ⟨a, _, q1, q2, q3, q4, q5, q6, q7⟩ := word_of false ((n * 2 ^ (63 - l) : Nat) : Int) ((l : Int) - 63) (by omega) (by omega) (by omega) (by omega) (by omega)
  rw [Int.toNat_natCast] at q7
  refine ⟨a, ?_, q1, q3, q4, fun L => ?_⟩
  · rw [← q7, near2_scale _ _ _ _ h0]
    congr 2; omega
  · rw [q2, q5, q6, Int.toNat_natCast, near2_scale _ _ _ _ h0]
    congr 1; omega
end Fp
namespace Fp
open Go Go.RowKit Ieee
set_option linter.unusedVariables false
set_option linter.unusedSimpArgs false
/-- far below the last place: nought. -/
theorem near2_gone (M : Nat) (H : Bool) (X : Int) (hM : M ≠ 0) (h1 : M < 18446744073709551616) (hc : 64 < lastP M X - X) : near2 false M H X = double.word false 0 := by
  have e65 : (2 : Nat) ^ 65 = 36893488147419103232 := by decide
  have hz : 0 = rne (M * 2 ^ (X - lastP M X).toNat) H (lastP M X - X).toNat := by
    rw [show (X - lastP M X).toNat = 0 by omega, Nat.pow_zero, Nat.mul_one]
    obtain ⟨d, hd⟩ : ∃ d, (lastP M X - X).toNat = d := ⟨_, rfl⟩
    rw [hd]
    have hp2 : 2 ^ 65 ≤ 2 ^ d := Nat.pow_le_pow_right (by omega) (by omega)
    rw [e65] at hp2
    rw [rne_if, Nat.mod_eq_of_lt (by omega), Nat.div_eq_of_lt (by omega), if_neg (by omega)]
  rw [near_again false M H X hM 0 hz, if_pos rfl]
/-- rounding, as the document spells it: whole, rest, middle. -/
def upR (rest middle whole : Int) (H : Bool) : Bool := decide (middle < rest) || (decide (rest = middle) && (H || decide (whole % 2 = 1)))
theorem rne_up (M d : Nat) (H : Bool) (h0 : 1 ≤ d) : rne M H d = M / 2 ^ d + (if upR ((M % 2 ^ d : Nat) : Int) ((2 ^ (d - 1) : Nat) : Int) ((M / 2 ^ d : Nat) : Int) H then 1 else 0) := by
  have e : 2 ^ d = 2 * 2 ^ (d - 1) := by rw [← Nat.pow_succ']; congr 1; omega
  rw [rne_if]
  unfold upR
  generalize M / 2 ^ d = q
  generalize M % 2 ^ d = r
  rw [e]
  generalize 2 ^ (d - 1) = m
  by_cases c : (2 * m < 2 * r ∨ (2 * m = 2 * r ∧ (H = true ∨ q % 2 = 1)))
  · rw [if_pos c]
    have : (decide ((m : Int) < r) || (decide ((r : Int) = m) && (H || decide ((q : Int) % 2 = 1)))) = true := by
      rcases c with c | ⟨c, g⟩
      · rw [decide_eq_true (show (m : Int) < r by omega)]; rfl
      · rw [decide_eq_true (show (r : Int) = m by omega)]
        rcases g with g | g
        · rw [g]; simp
        · rw [decide_eq_true (show (q : Int) % 2 = 1 by omega)]; simp
    rw [this, if_pos rfl]
  · rw [if_neg c]
    have : (decide ((m : Int) < r) || (decide ((r : Int) = m) && (H || decide ((q : Int) % 2 = 1)))) = false := by
      rw [decide_eq_false (show ¬ (m : Int) < r by omega), Bool.false_or]
      by_cases g : r = m
      · have g1 : ¬ (H = true ∨ q % 2 = 1) := fun k => c (.inr ⟨by omega, k⟩)
        have g2 : H = false := by cases H; rfl; exact absurd (.inl rfl) g1
        rw [g2, decide_eq_false (show ¬ (q : Int) % 2 = 1 by omega)]; simp
      · rw [decide_eq_false (show ¬ (r : Int) = m by omega)]; rfl
    rw [this]; simp
end Fp
