/- Plain facts: Add, Sub of package soft are the model's. -/
import Derived.Test.YtkiakflmoplmeaaFo
namespace Fp
open Go Go.RowKit Ieee
set_option linter.unusedVariables false
set_option linter.unusedSimpArgs false

theorem xorS {a : Int} (hu : U64 a) : Go.bits .xor .u64 a 9223372036854775808 = if 9223372036854775808 ≤ a then a - 9223372036854775808 else a + 9223372036854775808 := by
  have h0 := hu.lo
  have h1 := hu.hi
  obtain ⟨n, rfl⟩ := Int.eq_ofNat_of_zero_le h0
  have e := bits_xor64 n (2 ^ 63) (by omega) (by decide)
  rw [← e63] at e
  rw [e]
  by_cases hc : 9223372036854775808 ≤ (n : Int)
  · rw [if_pos hc]
    have h2 : n = 2 ^ 63 * 1 + (n - 2 ^ 63) := by omega
    have h3 : n ^^^ 2 ^ 63 = n - 2 ^ 63 := by
      have g1 := Nat.two_pow_add_eq_or_of_lt (i := 63) (b := n - 2 ^ 63) (by omega) 1
      rw [Nat.mul_one] at g1
      have g2 : n = 2 ^ 63 ||| (n - 2 ^ 63) := by rw [← g1]; omega
      apply Nat.eq_of_testBit_eq
      intro j
      rw [Nat.testBit_xor, Nat.testBit_two_pow]
      conv => lhs; arg 1; rw [g2]
      rw [Nat.testBit_or, Nat.testBit_two_pow]
      by_cases hj : 63 = j
      · subst hj
        have : (n - 2 ^ 63).testBit 63 = false := Nat.testBit_lt_two_pow (by omega)
        rw [this]; rfl
      · simp [hj]
    rw [h3]; omega
  · rw [if_neg hc]
    have h3 : n ^^^ 2 ^ 63 = n + 2 ^ 63 := by
      have g1 := Nat.two_pow_add_eq_or_of_lt (i := 63) (b := n) (by omega) 1
      rw [Nat.mul_one] at g1
      rw [Nat.add_comm, g1]
      apply Nat.eq_of_testBit_eq
      intro j
      rw [Nat.testBit_xor, Nat.testBit_or, Nat.testBit_two_pow]
      by_cases hj : 63 = j
      · subst hj
        have : n.testBit 63 = false := Nat.testBit_lt_two_pow (by omega)
        rw [this]; rfl
      · simp [hj]
    rw [h3]; omega

theorem flip_facts {a : Int} (hu : U64 a) : U64 (Go.bits .xor .u64 a 9223372036854775808) ∧ sz (Go.bits .xor .u64 a 9223372036854775808) = sz a ∧ ngb (Go.bits .xor .u64 a 9223372036854775808) = !ngb a := by
  have h0 := hu.lo
  have h1 := hu.hi
  rw [xorS hu]
  by_cases hc : 9223372036854775808 ≤ a
  · rw [if_pos hc]
    have hv : U64 (a - 9223372036854775808) := ⟨by omega, by omega⟩
    refine ⟨hv, ?_, ?_⟩
    · rw [sz_eq hv, sz_eq hu]; omega
    · unfold ngb; rw [decide_eq_true hc, decide_eq_false (by omega)]; rfl
  · rw [if_neg hc]
    have hv : U64 (a + 9223372036854775808) := ⟨by omega, by omega⟩
    refine ⟨hv, ?_, ?_⟩
    · rw [sz_eq hv, sz_eq hu]; omega
    · unfold ngb; rw [decide_eq_false hc, decide_eq_true (by omega)]; rfl

theorem read_fin {a : Int} (hu : U64 a) (h : sz a < 9218868437227405312) : double.read a.toNat = .number (ngb a) (mant a).toNat (pl a) := by
  rw [read_eq hu, if_pos h]
theorem read_inf {a : Int} (hu : U64 a) (h : sz a = 9218868437227405312) : double.read a.toNat = .infinity (ngb a) := by
  rw [read_eq hu, if_neg (by omega), if_pos h]
theorem read_nan {a : Int} (hu : U64 a) (h : ¬ sz a < 9218868437227405312) (h2 : ¬ sz a = 9218868437227405312) : ∃ t, double.read a.toNat = .nan (ngb a) t :=
  ⟨_, by rw [read_eq hu, if_neg h, if_neg h2]⟩
theorem zero_mant {a : Int} (hu : U64 a) (h : sz a = 0) : (mant a).toNat = 0 ∧ pl a = -1074 := by
  have es := sz_eq hu
  have ee := eb_eq hu
  have hk : ¬ 0 < eb a := by omega
  have em := mant_eq hu
  rw [if_neg hk] at em
  unfold pl
  rw [if_neg hk]
  omega
theorem write_inf {a : Int} (hu : U64 a) (h : sz a = 9218868437227405312) : ((double.write (.infinity (ngb a)) : Nat) : Int) = a := by
  show ((double.word (ngb a) double.infRung : Nat) : Int) = a
  rw [infRung_d, ← sgn_word _ _ (by decide)]
  have := sgn_sz hu
  rw [h] at this; exact this
theorem self_mant {a : Int} (hu : U64 a) (hz : ¬ sz a = 0) (hf : sz a < 9218868437227405312) : ((double.nearest (ngb a) (mant a).toNat (pl a) : Nat) : Int) = a := by
  have op := opened hu hz
  have h := self_near hu hz hf
  have h1 := op.eq
  have h2 := op.ex
  have h3 := op.l0
  have h4 := op.pos
  generalize lz (mant a) = l at *
  generalize hm : mant a = m at *
  obtain ⟨n, rfl⟩ := Int.eq_ofNat_of_zero_le (Int.le_of_lt h4)
  have e1 : (oman a).toNat = n * 2 ^ l.toNat := by
    rw [h1, cpow, ← Int.natCast_mul, Int.toNat_natCast]
  rw [e1, near2_scale _ _ _ _ (by omega)] at h
  rw [Int.toNat_natCast, nearest_eq _ _ _ (by omega)]
  have : oexp a + (l.toNat : Int) = pl a := by omega
  rw [this] at h; exact h

theorem sum_zero {a : Int} (hu : U64 a) (hz : ¬ sz a = 0) (hf : sz a < 9218868437227405312) (sg : Bool) (total : Int) (h : total = signed (ngb a) (mant a).toNat (pl a - (-1074)).toNat) :
    ((double.nearest (if total = 0 then sg else decide (total < 0)) total.natAbs (-1074) : Nat) : Int) = a := by
  have op := opened hu hz
  have hp := pl_bd hu
  have hm : (mant a).toNat ≠ 0 := by have := op.pos; omega
  have hpos : 0 < (mant a).toNat * 2 ^ (pl a - (-1074)).toNat := Nat.mul_pos (by omega) (Nat.two_pow_pos _)
  have hn : total.natAbs = (mant a).toNat * 2 ^ (pl a - (-1074)).toNat ∧ total ≠ 0 ∧ decide (total < 0) = ngb a := by
    unfold signed at h
    rw [Nat.shiftLeft_eq] at h
    cases hs : ngb a <;> rw [hs] at h
    · simp only [Bool.false_eq_true, if_false] at h; exact ⟨by omega, by omega, decide_eq_false (by omega)⟩
    · simp only [if_true] at h; exact ⟨by omega, by omega, decide_eq_true (by omega)⟩
  rw [if_neg hn.2.1, hn.1, hn.2.2, nearest_scale]
  have : -1074 + (((pl a - (-1074)).toNat : Nat) : Int) = pl a := by omega
  rw [this]; exact self_mant hu hz hf

theorem signed_zero (s : Bool) (k : Nat) : signed s 0 k = 0 := by unfold signed; cases s <;> simp

theorem and_zeros {a b : Int} (ha : U64 a) (hb : U64 b) (za : sz a = 0) (zb : sz b = 0) : Go.bits .and .u64 a b = ((double.word (ngb a && ngb b) 0 : Nat) : Int) := by
  have ea := sz_eq ha
  have eb := sz_eq hb
  have a0 := ha.lo
  have a1 := ha.hi
  have b0 := hb.lo
  have b1 := hb.hi
  have ca : a = 0 ∨ a = 9223372036854775808 := by omega
  have cb : b = 0 ∨ b = 9223372036854775808 := by omega
  rcases ca with rfl | rfl <;> rcases cb with rfl | rfl <;> decide +kernel

theorem add_ok {a b : Int} (ha : U64 a) (hb : U64 b) : AddG a b = ofO (double.add a.toNat b.toNat) := by
  unfold Format.add
  rcases kind_cases a with ⟨ka, za⟩ | ⟨ka, za, fa⟩ | ⟨ka, ia⟩ | ⟨ka, na, na2⟩
  · have ra := read_fin ha (by omega)
    obtain ⟨ma, pa⟩ := zero_mant ha za
    rcases kind_cases b with ⟨kb, zb⟩ | ⟨kb, zb, fb⟩ | ⟨kb, ib⟩ | ⟨kb, nb, nb2⟩
    · have rb := read_fin hb (by omega)
      obtain ⟨mb, pb⟩ := zero_mant hb zb
      have E : AddG a b = Go.bits .and .u64 a b := by simp [AddG, isNaN, isInf, isZ, ka, kb]
      rw [E, and_zeros ha hb za zb, ra, rb, ma, mb, pa, pb]
      simp only [Datum.sum, signed_zero, Int.add_zero, if_true, Option.map_some]
      show _ = ((double.nearest (ngb a && ngb b) 0 _ : Nat) : Int)
      unfold Format.nearest; rw [if_pos rfl]
    · have rb := read_fin hb fb
      have E : AddG a b = b := by simp [AddG, isNaN, isInf, isZ, ka, kb]
      have hpb := pl_bd hb
      rw [E, ra, rb, ma, pa]
      have mn : min (-1074) (pl b) = -1074 := by omega
      simp only [Datum.sum, signed_zero, Int.zero_add, Option.map_some, mn]
      exact (sum_zero hb zb fb _ _ rfl).symm
    · have rb := read_inf hb ib
      have E : AddG a b = b := by simp [AddG, isNaN, isInf, isZ, ka, kb]
      rw [E, ra, rb]
      exact (write_inf hb ib).symm
    · obtain ⟨t, rb⟩ := read_nan hb nb nb2
      have E : AddG a b = 9221120237041090560 := by simp [AddG, isNaN, isInf, isZ, ka, kb]
      rw [E, ra, rb]; rfl
  · have ra := read_fin ha fa
    rcases kind_cases b with ⟨kb, zb⟩ | ⟨kb, zb, fb⟩ | ⟨kb, ib⟩ | ⟨kb, nb, nb2⟩
    · have rb := read_fin hb (by omega)
      obtain ⟨mb, pb⟩ := zero_mant hb zb
      have E : AddG a b = a := by simp [AddG, isNaN, isInf, isZ, ka, kb]
      have hpa := pl_bd ha
      rw [E, ra, rb, mb, pb]
      have mn : min (pl a) (-1074) = -1074 := by omega
      simp only [Datum.sum, signed_zero, Int.add_zero, Option.map_some, mn]
      exact (sum_zero ha za fa _ _ rfl).symm
    · have rb := read_fin hb fb
      have E : AddG a b = if sz a < sz b then addG (ngb b) (oman b) (oexp b) (ngb a) (oman a) (oexp a) else addG (ngb a) (oman a) (oexp a) (ngb b) (oman b) (oexp b) := by simp [AddG, isNaN, isInf, isZ, ka, kb]
      rw [E, ra, rb]
      simp only [Datum.sum, Option.map_some]
      have oa := opened ha za
      have ob := opened hb zb
      have a1 := oa.ex
      have a2 := oa.l0
      have b1 := ob.ex
      have b2 := ob.l0
      show _ = ((double.nearest _ _ _ : Nat) : Int)
      by_cases hl : sz a < sz b
      · have m := oexp_mono ha hb za (by omega)
        rw [if_pos hl, ← sum_big hb ha fb fa zb za (by omega) _ (min (pl a) (pl b)) (Int.min_le_right _ _) (Int.min_le_left _ _) (by omega) (Int.add_comm _ _), Bool.and_comm]
      · have m := oexp_mono hb ha zb (by omega)
        rw [if_neg hl, ← sum_big ha hb fa fb za zb (by omega) _ (min (pl a) (pl b)) (Int.min_le_left _ _) (Int.min_le_right _ _) (by omega) rfl]
    · have rb := read_inf hb ib
      have E : AddG a b = b := by simp [AddG, isNaN, isInf, isZ, ka, kb]
      rw [E, ra, rb]
      exact (write_inf hb ib).symm
    · obtain ⟨t, rb⟩ := read_nan hb nb nb2
      have E : AddG a b = 9221120237041090560 := by simp [AddG, isNaN, isInf, isZ, ka, kb]
      rw [E, ra, rb]; rfl
  · have ra := read_inf ha ia
    rcases kind_cases b with ⟨kb, zb⟩ | ⟨kb, zb, fb⟩ | ⟨kb, ib⟩ | ⟨kb, nb, nb2⟩
    · have rb := read_fin hb (by omega)
      have hne : (b == Go.bits .xor .u64 a 9223372036854775808) = false := by
        rw [beq_eq_false_iff_ne]; intro h
        have := (flip_facts ha).2.1
        rw [← h] at this; omega
      have E : AddG a b = a := by simp [AddG, isNaN, isInf, isZ, ka, kb, hne]
      rw [E, ra, rb]
      exact (write_inf ha ia).symm
    · have rb := read_fin hb fb
      have hne : (b == Go.bits .xor .u64 a 9223372036854775808) = false := by
        rw [beq_eq_false_iff_ne]; intro h
        have := (flip_facts ha).2.1
        rw [← h] at this; omega
      have E : AddG a b = a := by simp [AddG, isNaN, isInf, isZ, ka, kb, hne]
      rw [E, ra, rb]
      exact (write_inf ha ia).symm
    · have rb := read_inf hb ib
      obtain ⟨f1, f2, f3⟩ := flip_facts ha
      rw [ra, rb]
      cases hx : (b == Go.bits .xor .u64 a 9223372036854775808)
      · have E : AddG a b = a := by simp [AddG, isNaN, isInf, isZ, ka, kb, hx]
        have hs : ngb a = ngb b := by
          by_cases c : ngb a = ngb b
          · exact c
          · exfalso
            have e1 := sgn_sz hb
            have e2 := sgn_sz f1
            rw [f2, f3, ia] at e2
            rw [ib] at e1
            have : ngb b = !ngb a := by cases h1 : ngb a <;> cases h2 : ngb b <;> simp_all
            rw [this, e2] at e1
            rw [e1] at hx; simp at hx
        rw [E]
        simp only [Datum.sum]
        rw [if_pos hs]
        exact (write_inf ha ia).symm
      · have hb' := beq_iff_eq.mp hx
        have E : AddG a b = 9221120237041090560 := by simp [AddG, isNaN, isInf, isZ, ka, hx]
        have hs : ¬ ngb a = ngb b := by rw [hb', f3]; cases ngb a <;> simp
        rw [E]
        simp only [Datum.sum]
        rw [if_neg hs]; rfl
    · obtain ⟨t, rb⟩ := read_nan hb nb nb2
      have E : AddG a b = 9221120237041090560 := by simp [AddG, isNaN, isInf, isZ, ka, kb]
      rw [E, ra, rb]; rfl
  · obtain ⟨t, ra⟩ := read_nan ha na na2
    have E : AddG a b = 9221120237041090560 := by simp [AddG, isNaN, isInf, isZ, ka]
    rw [E, ra]
    simp [Datum.sum, ofO]

theorem read_neg {b : Int} (hb : U64 b) (hn : isNaN b = false) : double.read (negG b).toNat = (double.read b.toNat).opposite := by
  obtain ⟨f1, f2, f3⟩ := flip_facts hb
  have e : negG b = Go.bits .xor .u64 b 9223372036854775808 := by unfold negG; rw [hn]; rfl
  have hn' : ¬ 9218868437227405312 < sz b := by rw [← nan_iff']; simp [hn]
  rw [e, read_eq f1, read_eq hb, f2, f3]
  have em : mant (Go.bits .xor .u64 b 9223372036854775808) = mant b ∧ pl (Go.bits .xor .u64 b 9223372036854775808) = pl b := by
    have g1 := mant_eq f1
    have g2 := mant_eq hb
    have k1 : eb (Go.bits .xor .u64 b 9223372036854775808) = eb b := by unfold eb; rw [f2]
    have g3 := sz_eq f1
    have g4 := sz_eq hb
    rw [k1] at g1
    refine ⟨?_, by unfold pl; rw [k1]⟩
    rw [g1, g2]
    have : Go.bits .xor .u64 b 9223372036854775808 % 4503599627370496 = b % 4503599627370496 := by omega
    rw [this]
  rw [em.1, em.2]
  split
  · rfl
  · rw [if_pos (by omega), if_pos (by omega)]; rfl

theorem neg_u64 {b : Int} (hb : U64 b) : U64 (negG b) := by
  unfold negG; split
  · exact ⟨by decide, by decide⟩
  · exact (flip_facts hb).1
theorem C_isNaN : isNaN 9221120237041090560 = true := by rw [nan_iff', sz_eq ⟨by decide, by decide⟩]; decide

theorem sub_ok {a b : Int} (ha : U64 a) (hb : U64 b) : SubG a b = ofO (double.sub a.toNat b.toNat) := by
  unfold SubG
  rw [add_ok ha (neg_u64 hb)]
  unfold Format.add Format.sub
  cases hn : isNaN b
  · rw [read_neg hb hn]
  · have e : negG b = 9221120237041090560 := if_pos hn
    have hnn := nan_iff'.1 hn
    obtain ⟨t, rb⟩ := read_nan hb (by omega) (by omega)
    obtain ⟨t2, rc⟩ := read_nan (a := 9221120237041090560) ⟨by decide, by decide⟩ (by rw [sz_eq ⟨by decide, by decide⟩]; decide) (by rw [sz_eq ⟨by decide, by decide⟩]; decide)
    rw [e, rb, rc]
    simp only [Datum.opposite]
    cases double.read a.toNat <;> simp [Datum.sum]
end Fp
