/- Plain facts: math.Ldexp's ways, each the rounded number. -/
import Derived.Test.YtkiakflmoplmeaaGa
namespace Fp
open Go Go.RowKit Ieee
set_option linter.unusedVariables false
set_option linter.unusedSimpArgs false

/-- the normal word of an opened man and its power. -/
theorem word_of (s : Bool) (X : Int) (p : Int) (h0 : 9223372036854775808 ≤ X) (h1 : X < 18446744073709551616) (hl : X % 2048 = 0) (p0 : -1085 ≤ p) (p1 : p ≤ 960) :
    ∃ a : Int, a = (if s then 9223372036854775808 else 0) + (p + 1086) * 4503599627370496 + (X / 2048 - 4503599627370496) ∧ U64 a ∧ ngb a = s ∧ ¬ sz a = 0 ∧ sz a < 9218868437227405312 ∧ oman a = X ∧ oexp a = p ∧ ((near2 s X.toNat false p : Nat) : Int) = a := by
  refine ⟨_, rfl, ?_⟩
  obtain ⟨q1, q2, q3, q4, q5, q6⟩ := normal_parts (a := (if s then 9223372036854775808 else 0) + (p + 1086) * 4503599627370496 + (X / 2048 - 4503599627370496)) (E := p + 1086) (F := X / 2048 - 4503599627370496) (s := s) rfl (by omega) (by omega) (by omega) (by omega)
  have o : oman ((if s then 9223372036854775808 else 0) + (p + 1086) * 4503599627370496 + (X / 2048 - 4503599627370496)) = X := by rw [q5]; omega
  have x : oexp ((if s then 9223372036854775808 else 0) + (p + 1086) * 4503599627370496 + (X / 2048 - 4503599627370496)) = p := by rw [q6]; omega
  refine ⟨q1, q2, q3, q4, o, x, ?_⟩
  have := self_near q1 q3 q4
  rw [o, x, q2] at this
  exact this
/-- a product with a power of two. -/
theorem mul_pow {c x : Int} (hc : U64 c) (hx : U64 x) (zc : ¬ sz c = 0) (fc : sz c < 9218868437227405312) (zx : ¬ sz x = 0) (fx : sz x < 9218868437227405312) (gc : ngb c = false) (oc : oman c = 9223372036854775808) :
    MulG c x = ((near2 (ngb x) (oman x).toNat false (oexp c + 63 + oexp x) : Nat) : Int) := by
  have X := ngX_eq hc hx
  rw [gc, Bool.false_xor] at X
  have ox := opened hx zx
  have x0 := ox.lo
  have x1 := ox.hi
  obtain ⟨e0, e1⟩ := oexp_bd hx
  obtain ⟨f0, f1⟩ := oexp_bd hc
  have nc : isNaN c = false := by rw [Bool.eq_false_iff]; intro h; rw [nan_iff'] at h; omega
  have ic : isInf c = false := by rw [Bool.eq_false_iff]; intro h; rw [inf_iff] at h; omega
  have zc' : isZ c = false := by rw [Bool.eq_false_iff]; intro h; rw [isZ_iff] at h; exact zc h
  have nx : isNaN x = false := by rw [Bool.eq_false_iff]; intro h; rw [nan_iff'] at h; omega
  have ix : isInf x = false := by rw [Bool.eq_false_iff]; intro h; rw [inf_iff] at h; omega
  have zx' : isZ x = false := by rw [Bool.eq_false_iff]; intro h; rw [isZ_iff] at h; exact zx h
  have E : MulG c x = mulF (ngX c x) (oman c) (oexp c) (oman x) (oexp x) := by simp [MulG, nc, ic, zc', nx, ix, zx']
  rw [E, X, oc]
  obtain ⟨n, hn⟩ := Int.eq_ofNat_of_zero_le (show 0 ≤ oman x by omega)
  rw [hn] at x0 x1 ⊢
  have := mulF_eq (ngb x) 9223372036854775808 n (oexp c) (oexp x) (by omega) (by omega) (by omega) (by omega) (by omega) (by omega) (by omega) (by omega)
  have h2 : mulF (ngb x) 9223372036854775808 (oexp c) (n : Int) (oexp x) = ((near2 (ngb x) (9223372036854775808 * n) false (oexp c + oexp x) : Nat) : Int) := this
  have e63n : (2 : Nat) ^ 63 = 9223372036854775808 := by decide
  have e : 9223372036854775808 * n = n * 2 ^ 63 := by rw [e63n, Nat.mul_comm]
  rw [h2, e, near2_scale _ _ _ _ (by omega), Int.toNat_natCast]
  rw [show oexp c + oexp x + ((63 : Nat) : Int) = oexp c + 63 + oexp x by omega]
/-- far below: nought. -/
theorem near2_under (s : Bool) (n : Nat) (p : Int) (h0 : 9223372036854775808 ≤ n) (h1 : n < 18446744073709551616) (hp : p + 63 < -1075) : near2 s n false p = double.word s 0 := by
  have hl := log2_63 h0 h1
  unfold near2
  rw [hl]
  have eL : max (p + ((63 : Nat) : Int) - 52) (-1074) = -1074 := by omega
  rw [eL]
  have e1 : (p - -1074).toNat = 0 := by omega
  obtain ⟨d, hd⟩ : ∃ d, (-1074 - p).toNat = d := ⟨_, rfl⟩
  have hd2 : 65 ≤ d := by omega
  rw [e1, hd, Nat.pow_zero, Nat.mul_one]
  have hp2 : 2 ^ 65 ≤ 2 ^ d := Nat.pow_le_pow_right (by omega) hd2
  have e65 : (2 : Nat) ^ 65 = 36893488147419103232 := by decide
  rw [e65] at hp2
  have r : rne n false d = 0 := by
    rw [rne_if, Nat.mod_eq_of_lt (by omega), Nat.div_eq_of_lt (by omega), if_neg (by omega)]
  rw [r]
  congr 1
/-- far above: infinity. -/
theorem near2_over (s : Bool) (n : Nat) (p : Int) (h0 : 9223372036854775808 ≤ n) (h1 : n < 18446744073709551616) (hp : 1023 < p + 63) : near2 s n false p = double.word s double.infRung := by
  have hl := log2_63 h0 h1
  have hn : n ≠ 0 := by omega
  have k := kept_lo n p hn (by unfold lastP; rw [hl]; omega)
  have e : lastP n p = p + 11 := by unfold lastP; rw [hl]; omega
  unfold near2
  rw [hl]
  have eL : max (p + ((63 : Nat) : Int) - 52) (-1074) = p + 11 := by omega
  rw [eL]
  rw [e] at k
  congr 1
  rw [infRung_d]
  have e52 : (2 : Nat) ^ 52 = 4503599627370496 := by decide
  rw [e52] at k ⊢
  generalize rne (n * 2 ^ (p - (p + 11)).toNat) false (p + 11 - p).toNat = z at *
  omega
def normY (x : Int) : Int := if sz x < 4503599627370496 then MulG x 4841369599423283200 else x
def normE (x : Int) : Int := if sz x < 4503599627370496 then -52 else 0
theorem C52 : U64 4841369599423283200 ∧ ngb 4841369599423283200 = false ∧ oman 4841369599423283200 = 9223372036854775808 ∧ oexp 4841369599423283200 = -11 ∧ ¬ sz 4841369599423283200 = 0 ∧ sz 4841369599423283200 < 9218868437227405312 :=
  ⟨⟨by decide, by decide⟩, by decide +kernel, by decide +kernel, by decide +kernel, by decide +kernel, by decide +kernel⟩
structure Norm (x y k : Int) : Prop where
  u : U64 y
  ng : ngb y = ngb x
  nz : ¬ sz y = 0
  fin : sz y < 9218868437227405312
  man : oman y = oman x
  ex : oexp y = oexp x - k
  field : sz y / 4503599627370496 = oexp y + 1086
  f0 : 1 ≤ oexp y + 1086
  f1 : oexp y + 1086 ≤ 2046
theorem norm_of {x : Int} (hx : U64 x) (zx : ¬ sz x = 0) (fx : sz x < 9218868437227405312) : Norm x (normY x) (normE x) := by
  have es := sz_eq hx
  have ox := opened hx zx
  have x0 := ox.lo
  have x1 := ox.hi
  have xl := ox.lower
  have ex := ox.ex
  have l0 := ox.l0
  have l1 := ox.l1
  by_cases c : sz x < 4503599627370496
  · have e1 : normY x = MulG x 4841369599423283200 := if_pos c
    have e2 : normE x = -52 := if_pos c
    obtain ⟨c1, c2, c3, c4, c5, c6⟩ := C52
    have ee : eb x = 0 := by unfold eb; have := sz_nonneg hx; omega
    have ep : pl x = -1074 := by unfold pl; rw [if_neg (by omega)]
    rw [e1, e2, mul_comm' hx c1, mul_pow c1 hx c5 c6 zx fx c2 c3, c4]
    obtain ⟨a, ha, q1, q2, q3, q4, q5, q6, q7⟩ := word_of (ngb x) (oman x) (-11 + 63 + oexp x) x0 x1 xl (by omega) (by omega)
    rw [q7]
    have hz : sz a / 4503599627370496 = -11 + 63 + oexp x + 1086 := by
      rw [sz_eq q1, ha]
      cases ngb x <;> simp only [Bool.false_eq_true, if_false, if_true] <;> omega
    exact ⟨q1, q2, q3, q4, q5, by omega, by omega, by omega, by omega⟩
  · have e1 : normY x = x := if_neg c
    have e2 : normE x = 0 := if_neg c
    have ee : eb x = sz x / 4503599627370496 := rfl
    have ep : pl x = eb x - 1075 := by unfold pl; rw [if_pos (by omega)]
    have el : lz (mant x) = 11 := by
      have : mant x = hf x := by unfold mant; rw [if_pos (by omega)]
      rw [this]; exact lz_hf hx
    rw [e1, e2]
    exact ⟨hx, rfl, zx, fx, rfl, by omega, by omega, by omega, by omega⟩
def hf' (y : Int) : Int := hf y
/-- the word with another exponent: its parts. -/
theorem ldW_parts {x y k E : Int} (N : Norm x y k) (h0 : 1 ≤ E) (h1 : E ≤ 2046) : U64 (ldW y E) ∧ ngb (ldW y E) = ngb x ∧ ¬ sz (ldW y E) = 0 ∧ sz (ldW y E) < 9218868437227405312 ∧ oman (ldW y E) = oman x ∧ oexp (ldW y E) = E - 1086 := by
  have hu := N.u
  have f0 : 0 ≤ y % 4503599627370496 := by omega
  obtain ⟨q1, q2, q3, q4, q5, q6⟩ := normal_parts (s := ngb y) (ldW_eq hu h0 h1) h0 h1 f0 (by omega)
  refine ⟨q1, by rw [q2]; exact N.ng, q3, q4, ?_, q6⟩
  rw [q5, ← N.man]
  -- the same fraction
  have hf := N.field
  have g0 := N.f0
  have hl := lz_hf hu
  have m : mant y = hf' y := by unfold mant hf'; rw [if_pos (by unfold eb; omega)]
  unfold oman
  rw [m]; unfold hf'
  rw [hl, hf_eq hu, show (11 : Int).toNat = 11 from rfl, u64_wrap]
  omega
theorem C1 : U64 4607182418800017408 ∧ ngb 4607182418800017408 = false ∧ oman 4607182418800017408 = 9223372036854775808 ∧ oexp 4607182418800017408 = -63 ∧ ¬ sz 4607182418800017408 = 0 ∧ sz 4607182418800017408 < 9218868437227405312 :=
  ⟨⟨by decide, by decide⟩, by decide +kernel, by decide +kernel, by decide +kernel, by decide +kernel, by decide +kernel⟩
theorem C53 : U64 4368491638549381120 ∧ ngb 4368491638549381120 = false ∧ oman 4368491638549381120 = 9223372036854775808 ∧ oexp 4368491638549381120 = -116 ∧ ¬ sz 4368491638549381120 = 0 ∧ sz 4368491638549381120 < 9218868437227405312 :=
  ⟨⟨by decide, by decide⟩, by decide +kernel, by decide +kernel, by decide +kernel, by decide +kernel, by decide +kernel⟩
/-- one way: as it is. -/
theorem ld_one {x y k P e : Int} (N : Norm x y k) (hP : P = oexp x + 63 + e) (h0 : -1022 ≤ P) (h1 : P ≤ 1023) : MulG 4607182418800017408 (ldW y (P + 1023)) = ((near2 (ngb x) (oman x).toNat false (oexp x + e) : Nat) : Int) := by
  obtain ⟨c1, c2, c3, c4, c5, c6⟩ := C1
  obtain ⟨q1, q2, q3, q4, q5, q6⟩ := ldW_parts (E := P + 1023) N (by omega) (by omega)
  rw [mul_pow c1 q1 c5 c6 q3 q4 c2 c3, c4, q5, q2, q6]
  congr 2; omega
/-- the other way: by 2^-53. -/
theorem ld_sub {x y k P e : Int} (N : Norm x y k) (hP : P = oexp x + 63 + e) (h0 : -1075 ≤ P) (h1 : P < -1022) : MulG 4368491638549381120 (ldW y (P + 53 + 1023)) = ((near2 (ngb x) (oman x).toNat false (oexp x + e) : Nat) : Int) := by
  obtain ⟨c1, c2, c3, c4, c5, c6⟩ := C53
  obtain ⟨q1, q2, q3, q4, q5, q6⟩ := ldW_parts (E := P + 53 + 1023) N (by omega) (by omega)
  rw [mul_pow c1 q1 c5 c6 q3 q4 c2 c3, c4, q5, q2, q6]
  congr 2; omega
end Fp
