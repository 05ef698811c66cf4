/- Plain facts: a word is the nearest one to what it stands for; whole numbers as words, and back. -/
import Derived.Test.YtkiakflmoplmeaaFd
namespace Fp
open Go Go.RowKit Ieee
set_option linter.unusedVariables false
set_option linter.unusedSimpArgs false

theorem sgn_sz {a : Int} (h : U64 a) : sgnG (ngb a) (sz a) = a := by
  have h0 := h.lo
  have h1 := h.hi
  have es := sz_eq h
  rw [sgn_eq (by omega) (by omega)]
  unfold ngb
  by_cases hc : 9223372036854775808 ≤ a
  · rw [decide_eq_true hc, if_pos rfl]; omega
  · rw [decide_eq_false hc, if_neg (by decide)]; omega

/-- m * 2^p, m below 2^53, p not too low: its word's rung. -/
theorem near2_small (neg : Bool) (m : Nat) (p : Int) (hm : m ≠ 0) (hm2 : m < 9007199254740992) (hp : -1074 ≤ p) (hp2 : p + m.log2 ≤ 1023) :
    ∃ L : Int, L = max (p + m.log2 - 52) (-1074) ∧ L ≤ p ∧ m * 2 ^ (p - L).toNat < 9007199254740992 ∧ (-1074 < L → 4503599627370496 ≤ m * 2 ^ (p - L).toNat) ∧ L ≤ 971 ∧
      near2 neg m false p = double.word neg ((L + 1074).toNat * 4503599627370496 + m * 2 ^ (p - L).toNat) := by
  have hl : m.log2 < 53 := (Nat.log2_lt hm).2 (by omega)
  have g2 := log2_lo hm
  have g3 := log2_hi hm
  obtain ⟨L, hL⟩ : ∃ L : Int, L = max (p + m.log2 - 52) (-1074) := ⟨_, rfl⟩
  have hLp : L ≤ p := by omega
  have e53 : 2 ^ (m.log2 + 1) * 2 ^ (52 - m.log2) = 9007199254740992 := by rw [← Nat.pow_add, show m.log2 + 1 + (52 - m.log2) = 53 from by omega]
  have e52 : 2 ^ m.log2 * 2 ^ (52 - m.log2) = 4503599627370496 := by rw [← Nat.pow_add, show m.log2 + (52 - m.log2) = 52 from by omega]
  have hi : m * 2 ^ (p - L).toNat < 9007199254740992 := by
    have h1 : 2 ^ (p - L).toNat ≤ 2 ^ (52 - m.log2) := Nat.pow_le_pow_right (by omega) (by omega)
    have h2 := Nat.mul_le_mul_left m h1
    have h3 := Nat.mul_lt_mul_of_pos_right g3 (Nat.two_pow_pos (52 - m.log2))
    omega
  have lo : -1074 < L → 4503599627370496 ≤ m * 2 ^ (p - L).toNat := fun h => by
    have h1 : (p - L).toNat = 52 - m.log2 := by omega
    rw [h1]
    have := Nat.mul_le_mul_right (2 ^ (52 - m.log2)) g2
    omega
  refine ⟨L, hL, hLp, hi, lo, by omega, ?_⟩
  unfold near2
  rw [← hL, infRung_d]
  have s0 : (L - p).toNat = 0 := by omega
  have k3 : (2 : Nat) ^ 52 = 4503599627370496 := by decide
  rw [s0, rne_zero, k3]
  obtain ⟨b, hb⟩ : ∃ b : Nat, L + 1074 = (b : Int) := ⟨(L + 1074).toNat, by omega⟩
  have hb2 : b ≤ 2045 := by omega
  have e4 : (L + 1074).toNat = b := by omega
  rw [e4]
  generalize m * 2 ^ (p - L).toNat = M at *
  rw [Nat.min_eq_left (by omega)]

theorem word_int (neg : Bool) (r : Nat) (h : r < 9223372036854775808) : U64 ((double.word neg r : Nat) : Int) ∧ sz ((double.word neg r : Nat) : Int) = r ∧ ngb ((double.word neg r : Nat) : Int) = neg := by
  have sw : double.signWeight = 9223372036854775808 := by decide
  unfold Format.word
  rw [sw]
  cases neg
  · have hu : U64 (r : Int) := ⟨by omega, by omega⟩
    refine ⟨by simpa using hu, ?_, ?_⟩
    · simp only [Bool.false_eq_true, if_false]; rw [sz_eq hu]; omega
    · simp only [Bool.false_eq_true, if_false]; exact decide_eq_false (by omega)
  · have hu : U64 ((9223372036854775808 + r : Nat) : Int) := ⟨by omega, by omega⟩
    refine ⟨by simpa using hu, ?_, ?_⟩
    · simp only [if_true]; rw [sz_eq hu]; omega
    · simp only [if_true]; exact decide_eq_true (by omega)

/-- m * 2^p as a word: what it reads as. -/
theorem small_read (neg : Bool) (m : Nat) (p : Int) (hm : m ≠ 0) (hm2 : m < 9007199254740992) (hp : -1074 ≤ p) (hp2 : p + m.log2 ≤ 1023) :
    U64 ((near2 neg m false p : Nat) : Int) ∧ ngb ((near2 neg m false p : Nat) : Int) = neg ∧ ¬ sz ((near2 neg m false p : Nat) : Int) = 0 ∧ sz ((near2 neg m false p : Nat) : Int) < 9218868437227405312 ∧
    oman ((near2 neg m false p : Nat) : Int) = ((m * 2 ^ (63 - m.log2) : Nat) : Int) ∧ oexp ((near2 neg m false p : Nat) : Int) = p - ((63 - m.log2 : Nat) : Int) := by
  obtain ⟨L, hL, hLp, hi, lo, hL2, e⟩ := near2_small neg m p hm hm2 hp hp2
  have hl : m.log2 < 53 := (Nat.log2_lt hm).2 (by omega)
  have g2 := log2_lo hm
  have g3 := log2_hi hm
  obtain ⟨b, hb⟩ : ∃ b : Nat, L + 1074 = (b : Int) := ⟨(L + 1074).toNat, by omega⟩
  have hb2 : b ≤ 2045 := by omega
  have e4 : (L + 1074).toNat = b := by omega
  rw [e4] at e
  have lgM : (m * 2 ^ (p - L).toNat).log2 = m.log2 + (p - L).toNat := by simpa using log2_merge m 0 (p - L).toNat hm (Nat.two_pow_pos _)
  have hMpos : m * 2 ^ (p - L).toNat ≠ 0 := Nat.mul_ne_zero hm (Nat.ne_of_gt (Nat.two_pow_pos _))
  have back : ∀ j : Nat, m * 2 ^ (p - L).toNat * 2 ^ j = m * 2 ^ ((p - L).toNat + j) := fun j => by rw [Nat.mul_assoc, ← Nat.pow_add]
  generalize hM : m * 2 ^ (p - L).toNat = M at *
  obtain ⟨hu, hs, hn⟩ := word_int neg (b * 4503599627370496 + M) (by omega)
  rw [← e] at hu hs hn
  generalize ((near2 neg m false p : Nat) : Int) = a at *
  have hz : ¬ sz a = 0 := by rw [hs]; omega
  have hfin : sz a < 9218868437227405312 := by rw [hs]; omega
  refine ⟨hu, hn, hz, hfin, ?_⟩
  have em := mant_eq hu
  have ee := eb_eq hu
  have es := sz_eq hu
  -- what it reads as
  have hmant : mant a = (M : Int) ∧ pl a = L := by
    unfold pl
    by_cases hbM : M < 4503599627370496
    · have hb0 : b = 0 := by
        rcases Nat.eq_zero_or_pos b with h | h
        · exact h
        · have := lo (by omega); omega
      subst hb0
      have k : ¬ 0 < eb a := by rw [ee]; omega
      rw [if_neg k, em, if_neg k]; omega
    · have k : 0 < eb a := by rw [ee]; omega
      rw [if_pos k, em, if_pos k, ee]; omega
  obtain ⟨h1, h2⟩ := hmant
  have op := opened hu hz
  have hm64 := mant_u64 hu
  have hlz := lz_eq hm64 (by omega)
  rw [h1, Int.toNat_natCast] at hlz
  have hpos : (p - L).toNat + (63 - M.log2) = 63 - m.log2 := by omega
  refine ⟨?_, ?_⟩
  · rw [op.eq, h1, hlz]
    have : ((63 : Int) - (M.log2 : Int)).toNat = 63 - M.log2 := by omega
    rw [this, cpow, ← Int.natCast_mul, back, hpos]
  · rw [op.ex, h1, h2, hlz]; omega

/-- a word is the nearest to what it stands for. -/
theorem self_near {a : Int} (h : U64 a) (hz : ¬ sz a = 0) (hf : sz a < 9218868437227405312) : ((near2 (ngb a) (oman a).toNat false (oexp a) : Nat) : Int) = a := by
  have op := opened h hz
  obtain ⟨n, hn⟩ := Int.eq_ofNat_of_zero_le (Int.le_of_lt op.pos)
  have hn0 : n ≠ 0 := by have := op.pos; omega
  have hsm : n < 9007199254740992 := by have := op.small; omega
  have e1 : (oman a).toNat = n * 2 ^ (lz (mant a)).toNat := by
    rw [op.eq, hn, cpow, ← Int.natCast_mul, Int.toNat_natCast]
  have e2 : oexp a + ((lz (mant a)).toNat : Int) = pl a := by have := op.ex; have := op.l0; omega
  rw [e1, near2_scale _ _ _ _ hn0, e2]
  have em := mant_eq h
  have ee := eb_eq h
  have es := sz_eq h
  have hpl : -1074 ≤ pl a ∧ pl a ≤ 971 := by unfold pl; split <;> omega
  have hlog : n.log2 < 53 := (Nat.log2_lt hn0).2 (by omega)
  have hlogn : 0 < eb a → n.log2 = 52 := fun hk => by
    refine log2_eq ?_ ?_ <;> · have := em; rw [if_pos hk] at this; omega
  have hp2 : pl a + n.log2 ≤ 1023 := by omega
  obtain ⟨L, hL, hLp, hi, lo, hL2, e⟩ := near2_small (ngb a) n (pl a) hn0 hsm hpl.1 hp2
  rw [e]
  have hLeq : L = pl a := by
    unfold pl at hL ⊢
    by_cases hk : 0 < eb a
    · have := hlogn hk
      rw [if_pos hk] at hL ⊢; omega
    · rw [if_neg hk] at hL ⊢; omega
  have z : (pl a - L).toNat = 0 := by omega
  rw [z, Nat.pow_zero, Nat.mul_one, hLeq]
  have hr : (((pl a + 1074).toNat * 4503599627370496 + n : Nat) : Int) = sz a := by
    unfold pl
    by_cases hk : 0 < eb a
    · rw [if_pos hk]; rw [if_pos hk] at em
      have : (eb a - 1075 + 1074).toNat = (eb a).toNat - 1 := by omega
      rw [this, es]; omega
    · rw [if_neg hk]; rw [if_neg hk] at em
      have : ((-1074 : Int) + 1074).toNat = 0 := by decide
      rw [this, es]; omega
  rw [← sgn_word _ _ (by omega), hr, sgn_sz h]
end Fp
