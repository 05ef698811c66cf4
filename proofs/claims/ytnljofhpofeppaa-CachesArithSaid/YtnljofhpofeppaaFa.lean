/- Plain facts: the fields of a binary64 word as whole numbers; bit operations on 64 bits as arithmetic. -/
import Derived.Laws.BitsLemmas
import Derived.Lib.BitFns
import Derived.Lib.ItoaNum
import Ieee.Arith
namespace Fp
open Go
set_option linter.unusedVariables false
set_option linter.unusedSimpArgs false

structure U64 (a : Int) : Prop where
  lo : 0 ≤ a
  hi : a < 18446744073709551616

theorem u64_wrap (n : Int) : IntKind.u64.wrap n = n % 18446744073709551616 := by simp [IntKind.wrap, IntKind.bits, IntKind.signed]
theorem wraps_u64 (n : Int) (h0 : 0 ≤ n) (h1 : n < 2 ^ 64) : IntKind.u64.wrap n = n := by rw [u64_wrap]; omega

theorem bits_and64 (a b : Nat) (ha : a < 2 ^ 64) (hb : b < 2 ^ 64) : bits .and .u64 a b = ((a &&& b : Nat) : Int) :=
  (bits_nat .u64 64 (by decide) wraps_u64 a b ha hb).1
theorem bits_or64 (a b : Nat) (ha : a < 2 ^ 64) (hb : b < 2 ^ 64) : bits .or .u64 a b = ((a ||| b : Nat) : Int) :=
  (bits_nat .u64 64 (by decide) wraps_u64 a b ha hb).2
theorem bits_xor64 (a b : Nat) (ha : a < 2 ^ 64) (hb : b < 2 ^ 64) : bits .xor .u64 a b = ((a ^^^ b : Nat) : Int) := by
  have ha' : a % 2 ^ 64 = a := Nat.mod_eq_of_lt ha
  have hb' : b % 2 ^ 64 = b := Nat.mod_eq_of_lt hb
  have hk : IntKind.u64.bits = 64 := rfl
  simp only [bits, BitVec.ofInt_natCast, BitVec.toNat_xor, BitVec.toNat_ofNat, hk, ha', hb']
  exact wraps_u64 _ (Int.natCast_nonneg _) (by have := Nat.xor_lt_two_pow ha hb; exact_mod_cast this)

theorem and_mask (a k : Nat) (ha : a < 2 ^ 64) (hk : k ≤ 64) : bits .and .u64 a ((2 ^ k - 1 : Nat) : Int) = ((a % 2 ^ k : Nat) : Int) := by
  have h1 : 2 ^ k ≤ 2 ^ 64 := Nat.pow_le_pow_right (by omega) hk
  have h2 := Nat.two_pow_pos k
  rw [bits_and64 _ _ ha (by omega), Nat.and_two_pow_sub_one_eq_mod]

theorem or_high (a k i : Nat) (ha : a < 2 ^ k) (hk : k ≤ i) (hi : i < 64) : bits .or .u64 a ((2 ^ i : Nat) : Int) = ((a + 2 ^ i : Nat) : Int) := by
  have h1 : 2 ^ k ≤ 2 ^ i := Nat.pow_le_pow_right (by omega) hk
  have h2 : 2 ^ i < 2 ^ 64 := Nat.pow_lt_pow_right (by omega) hi
  have h3 : 2 ^ i ≤ 2 ^ 63 := Nat.pow_le_pow_right (by omega) (by omega)
  rw [bits_or64 _ _ (by omega) h2]
  have := Nat.two_pow_add_eq_or_of_lt (i := i) (b := a) (by omega) 1
  rw [Nat.mul_one] at this
  rw [Nat.add_comm, this, Nat.or_comm]

theorem and_not_mask_lemma (a m : Nat) (ha : a < 2 ^ 64) (hm : m < 2 ^ 64) : bits .andNot .u64 a m = ((a - (a &&& m) : Nat) : Int) := by
  have ha' : a % 2 ^ 64 = a := Nat.mod_eq_of_lt ha
  have hb' : m % 2 ^ 64 = m := Nat.mod_eq_of_lt hm
  have hk : IntKind.u64.bits = 64 := rfl
  have key : (BitVec.ofNat 64 a &&& ~~~ BitVec.ofNat 64 m).toNat = a - (a &&& m) := by
    have h1 : BitVec.ofNat 64 a &&& ~~~ BitVec.ofNat 64 m = BitVec.ofNat 64 a ^^^ (BitVec.ofNat 64 a &&& BitVec.ofNat 64 m) := by
      ext i; simp only [BitVec.getElem_and, BitVec.getElem_not, BitVec.getElem_xor]
      cases (BitVec.ofNat 64 a)[i] <;> cases (BitVec.ofNat 64 m)[i] <;> rfl
    have h2 : BitVec.ofNat 64 a = (BitVec.ofNat 64 a ^^^ (BitVec.ofNat 64 a &&& BitVec.ofNat 64 m)) + (BitVec.ofNat 64 a &&& BitVec.ofNat 64 m) := by
      rw [BitVec.add_eq_or_of_and_eq_zero]
      · ext i; simp only [BitVec.getElem_or, BitVec.getElem_xor, BitVec.getElem_and]
        cases (BitVec.ofNat 64 a)[i] <;> cases (BitVec.ofNat 64 m)[i] <;> rfl
      · ext i; simp only [BitVec.getElem_and, BitVec.getElem_xor, BitVec.getElem_zero]
        cases (BitVec.ofNat 64 a)[i] <;> cases (BitVec.ofNat 64 m)[i] <;> rfl
    have h3 := congrArg BitVec.toNat h2
    rw [BitVec.toNat_add, BitVec.toNat_xor, BitVec.toNat_and, BitVec.toNat_ofNat, BitVec.toNat_ofNat, ha', hb'] at h3
    rw [h1, BitVec.toNat_xor, BitVec.toNat_and, BitVec.toNat_ofNat, BitVec.toNat_ofNat, ha', hb']
    have hlt : (a &&& m) ≤ a := Nat.and_le_left
    have hx : a ^^^ (a &&& m) < 2 ^ 64 := Nat.xor_lt_two_pow ha (Nat.lt_of_le_of_lt hlt ha)
    by_cases hov : (a ^^^ (a &&& m)) + (a &&& m) < 2 ^ 64
    · rw [Nat.mod_eq_of_lt hov] at h3; omega
    · rw [Nat.mod_eq_sub_mod (by omega), Nat.mod_eq_of_lt (by omega)] at h3; omega
  simp only [bits, BitVec.ofInt_natCast]
  show IntKind.u64.wrap ((BitVec.ofNat 64 a &&& ~~~ BitVec.ofNat 64 m).toNat : Int) = _
  rw [key]
  refine wraps_u64 _ (Int.natCast_nonneg _) ?_
  have : a - (a &&& m) < 2 ^ 64 := by omega
  exact_mod_cast this

/-- the sign -/
def ngb (a : Int) : Bool := decide (9223372036854775808 ≤ a)
def sz (a : Int) : Int := Go.bits .andNot .u64 a 9223372036854775808
def fr (a : Int) : Int := Go.bits .and .u64 a 4503599627370495
def hf (a : Int) : Int := Go.bits .or .u64 (fr a) 4503599627370496
def eb (a : Int) : Int := sz a / 4503599627370496
def lz (x : Int) : Int := 64 - (Go.Lib.bitLen x.toNat : Int)

theorem and_pow (a i : Nat) : a &&& 2 ^ i = 2 ^ i * (a / 2 ^ i % 2) := by
  apply Nat.eq_of_testBit_eq
  intro j
  rw [Nat.testBit_and, Nat.testBit_two_pow, Nat.testBit_two_pow_mul]
  by_cases hij : i = j
  · subst hij
    simp only [Nat.le_refl, decide_true, Bool.and_true, Bool.true_and, Nat.sub_self, Nat.testBit_zero, ge_iff_le]
    rw [Nat.testBit, Nat.shiftRight_eq_div_pow, Nat.and_comm, Nat.and_one_is_mod]
    rcases Nat.mod_two_eq_zero_or_one (a / 2 ^ i) with h | h <;> simp [h]
  · simp only [hij, decide_false, Bool.and_false]
    by_cases hj : i ≤ j
    · have : j - i ≠ 0 := by omega
      obtain ⟨t, ht⟩ : ∃ t, j - i = t + 1 := ⟨j - i - 1, by omega⟩
      rw [ht]
      rcases Nat.mod_two_eq_zero_or_one (a / 2 ^ i) with h | h <;> simp [h, Nat.testBit_succ]
    · simp; omega

theorem e63 : (9223372036854775808 : Int) = ((2 ^ 63 : Nat) : Int) := by decide
theorem e52 : (4503599627370496 : Int) = ((2 ^ 52 : Nat) : Int) := by decide
theorem e52m : (4503599627370495 : Int) = ((2 ^ 52 - 1 : Nat) : Int) := by decide

theorem sz_eq {a : Int} (h : U64 a) : sz a = a % 9223372036854775808 := by
  obtain ⟨h0, h1⟩ := h
  obtain ⟨n, rfl⟩ := Int.eq_ofNat_of_zero_le h0
  have hn : n < 2 ^ 64 := by omega
  have e := and_not_mask_lemma n (2 ^ 63) hn (by decide)
  rw [← e63] at e
  rw [sz, e, and_pow]
  omega

theorem fr_eq {a : Int} (h : U64 a) : fr a = a % 4503599627370496 := by
  obtain ⟨h0, h1⟩ := h
  obtain ⟨n, rfl⟩ := Int.eq_ofNat_of_zero_le h0
  have hn : n < 2 ^ 64 := by omega
  have := and_mask n 52 hn (by decide)
  rw [← e52m] at this
  rw [fr, this]; omega

theorem hf_eq {a : Int} (h : U64 a) : hf a = a % 4503599627370496 + 4503599627370496 := by
  have e := fr_eq h
  obtain ⟨h0, h1⟩ := h
  unfold hf
  rw [e]
  obtain ⟨n, hn⟩ := Int.eq_ofNat_of_zero_le (show 0 ≤ a % 4503599627370496 by omega)
  rw [hn]
  have := or_high n 52 52 (by omega) (by omega) (by omega)
  rw [← e52] at this
  rw [this]; omega

theorem bitLen_eq (n : Nat) (h : n < 2 ^ 64) (hn : n ≠ 0) : Go.Lib.bitLen n = n.log2 + 1 := by
  obtain ⟨h1, h2, h3⟩ := Go.Lib.bitLenAux_bounds 64 n h hn
  have e1 : Go.Lib.bitLen n = Go.Lib.bitLenAux 64 n := rfl
  rw [e1]
  generalize Go.Lib.bitLenAux 64 n = k at *
  have a : k - 1 ≤ n.log2 := (Nat.le_log2 hn).2 h2
  have b : n.log2 < k := (Nat.log2_lt hn).2 h3
  omega

theorem lz_zero : lz 0 = 64 := by decide
theorem lz_eq {x : Int} (h : U64 x) (hx : x ≠ 0) : lz x = 63 - (x.toNat.log2 : Int) := by
  obtain ⟨h0, h1⟩ := h
  unfold lz
  rw [bitLen_eq x.toNat (by omega) (by omega)]
  omega
theorem log2_lt64 {x : Int} (h : U64 x) (hx : x ≠ 0) : x.toNat.log2 < 64 := by
  obtain ⟨h0, h1⟩ := h
  exact (Nat.log2_lt (by omega)).2 (by omega)
theorem lz_bd {x : Int} (h : U64 x) : 0 ≤ lz x ∧ lz x ≤ 64 := by
  by_cases hx : x = 0
  · subst hx; rw [lz_zero]; omega
  · have := lz_eq h hx; have := log2_lt64 h hx; omega

def sgnG (neg : Bool) (s : Int) : Int := if neg then Go.bits .or .u64 s 9223372036854775808 else s
def kindS (a : Int) : Int := if sz a = 0 then 0 else if sz a < 9218868437227405312 then 1 else if sz a = 9218868437227405312 then 2 else 3
def isNaN (a : Int) : Bool := kindS a == 3
def isInf (a : Int) : Bool := kindS a == 2
def isZ (a : Int) : Bool := kindS a == 0
/-- the number without its place: the fraction, and the hidden digit -/
def mant (a : Int) : Int := if 0 < eb a then hf a else fr a
def oman (a : Int) : Int := IntKind.u64.wrap (mant a * 2 ^ (lz (mant a)).toNat)
def oexp (a : Int) : Int := if 0 < eb a then eb a - 1075 - lz (hf a) else -1074 - lz (fr a)

theorem sgn_eq {neg : Bool} {s : Int} (h0 : 0 ≤ s) (h1 : s < 9223372036854775808) : sgnG neg s = if neg then s + 9223372036854775808 else s := by
  unfold sgnG
  cases neg
  · rfl
  · obtain ⟨n, rfl⟩ := Int.eq_ofNat_of_zero_le h0
    have := or_high n 63 63 (by omega) (by omega) (by omega)
    rw [← e63] at this
    simp only [if_true, this]
    omega
theorem fr_u64 {a : Int} (h : U64 a) : U64 (fr a) := by rw [fr_eq h]; exact ⟨by omega, by omega⟩
theorem hf_u64 {a : Int} (h : U64 a) : U64 (hf a) := by rw [hf_eq h]; exact ⟨by omega, by omega⟩
theorem eb_bd {a : Int} (h : U64 a) : 0 ≤ eb a ∧ eb a ≤ 2047 := by unfold eb; rw [sz_eq h]; have := h.lo; have := h.hi; omega
theorem mant_u64 {a : Int} (h : U64 a) : U64 (mant a) := by unfold mant; split; exact hf_u64 h; exact fr_u64 h
theorem wrap_u64 (n : Int) : U64 (IntKind.u64.wrap n) := by rw [u64_wrap]; exact ⟨by omega, by omega⟩
theorem oman_u64 (a : Int) : U64 (oman a) := wrap_u64 _
theorem log2_eq' {n k : Nat} (h1 : 2 ^ k ≤ n) (h2 : n < 2 ^ (k + 1)) : n.log2 = k := by
  have hn : n ≠ 0 := by have := Nat.two_pow_pos k; omega
  have a := (Nat.le_log2 hn).2 h1
  have b := (Nat.log2_lt hn).2 h2
  omega
theorem lz_hf {a : Int} (h : U64 a) : lz (hf a) = 11 := by
  have e := hf_eq h
  rw [lz_eq (hf_u64 h) (by omega), log2_eq' (k := 52) (by omega) (by omega)]
  rfl
theorem oexp_bd {a : Int} (h : U64 a) : -1138 ≤ oexp a ∧ oexp a ≤ 972 := by
  unfold oexp
  have := eb_bd h
  have := lz_bd (fr_u64 h)
  have := lz_hf h
  split <;> omega

/-- near's test: is the last place raised? -/
def upG (r : Int) (half : Bool) (m : Int) : Bool := decide (9223372036854775808 < r) || (decide (r = 9223372036854775808) && (half || (Go.bits .and .u64 m 1 == 1)))
def nearA (neg : Bool) (half : Bool) (r m : Int) : Int := sgnG neg (IntKind.u64.wrap (if upG r half m then IntKind.u64.wrap (m + 1) else m))
def nearB (neg : Bool) (half : Bool) (r m b : Int) : Int := sgnG neg (IntKind.u64.wrap (b * 4503599627370496 + (if upG r half m then IntKind.u64.wrap (m + 1) else m)))
def nearG (neg : Bool) (man exp : Int) (half : Bool) : Int :=
  if 1023 < exp + 63 then sgnG neg 9218868437227405312
  else if exp + 63 + 1023 < 1 then
    if 64 < 12 - (exp + 63 + 1023) then sgnG neg 0
    else nearA neg half (IntKind.u64.wrap (man * 2 ^ (64 - (12 - (exp + 63 + 1023))).toNat)) (man / 2 ^ (12 - (exp + 63 + 1023)).toNat)
  else nearB neg half (IntKind.u64.wrap (man * 9007199254740992)) (man / 2048) (exp + 63 + 1023 - 1)
theorem upG_1 {r m : Int} {half : Bool} (h : 9223372036854775808 < r) : upG r half m = true := by simp [upG, h]
theorem upG_2 {r m : Int} {half : Bool} (h : r = 9223372036854775808) (h2 : half = true) : upG r half m = true := by simp [upG, h, h2]
theorem upG_3 {r m : Int} {half : Bool} (h : r = 9223372036854775808) (h2 : (Go.bits .and .u64 m 1 == 1) = true) : upG r half m = true := by simp only [upG, h2]; simp [h]
theorem upG_4 {r m : Int} {half : Bool} (h : r = 9223372036854775808) (h1 : ¬ half = true) (h2 : (Go.bits .and .u64 m 1 == 1) = false) : upG r half m = false := by simp only [upG, h2]; simp [h, h1]
theorem upG_5 {r m : Int} {half : Bool} (h : ¬ r = 9223372036854775808) (h1 : r ≤ 9223372036854775808) : upG r half m = false := by
  have : ¬ 9223372036854775808 < r := by omega
  simp [upG, h, this]
theorem nearA_up {neg half : Bool} {r m : Int} (h : upG r half m = true) : sgnG neg (IntKind.u64.wrap (IntKind.u64.wrap (m + 1))) = nearA neg half r m := by rw [nearA, if_pos h]
theorem nearA_dn {neg half : Bool} {r m : Int} (h : upG r half m = false) : sgnG neg (IntKind.u64.wrap m) = nearA neg half r m := by rw [nearA, h]; rfl
theorem nearB_up {neg half : Bool} {r m b : Int} (h : upG r half m = true) : sgnG neg (IntKind.u64.wrap (b * 4503599627370496 + IntKind.u64.wrap (m + 1))) = nearB neg half r m b := by rw [nearB, if_pos h]
theorem nearB_dn {neg half : Bool} {r m b : Int} (h : upG r half m = false) : sgnG neg (IntKind.u64.wrap (b * 4503599627370496 + m)) = nearB neg half r m b := by rw [nearB, h]; rfl

def cl (e : Int) : Int := min (max e (-5000)) 5000
theorem cl_bd (e : Int) : -5000 ≤ cl e ∧ cl e ≤ 5000 := by unfold cl; omega
def shlG (m : Int) : Int := IntKind.u64.wrap (m * 2 ^ (lz m).toNat)
def orG (m : Int) : Int := Go.bits .or .u64 (shlG m) (IntKind.u64.wrap (2 ^ ((lz m).toNat - 1)))
/-- Near, behind its first tests -/
def nearN (m e : Int) (half : Bool) : Int :=
  if half = true ∧ 0 < lz m then nearG false (orG m) (e - lz m) false else nearG false (shlG m) (e - lz m) half
def NearG (man exp : Int) (half : Bool) : Int :=
  if man = 0 then (if half then nearG false 9223372036854775808 (cl exp - 1 - 63) false else 0) else nearN man (cl exp) half
theorem lz_one : lz 1 = 63 := by decide
theorem one_u64 : U64 1 := ⟨by decide, by decide⟩
theorem u64_id {x : Int} (h : U64 x) : IntKind.u64.wrap x = x := by rw [u64_wrap]; have := h.lo; have := h.hi; omega
end Fp
