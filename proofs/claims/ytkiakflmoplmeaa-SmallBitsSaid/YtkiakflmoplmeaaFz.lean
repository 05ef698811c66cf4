/- Plain facts: products, the other sign, a number by 1, by itself, less itself. -/
import Derived.Test.YtkiakflmoplmeaaFy
namespace Fp
open Go Go.RowKit Ieee
set_option linter.unusedVariables false
set_option linter.unusedSimpArgs false

theorem SR_zero : SR 0 = 0 := by decide +kernel
theorem zero_u64 : U64 0 := ⟨by decide, by decide⟩
theorem SV_zero : SV 0 = 0 := by decide +kernel
theorem inf_facts : U64 9218868437227405312 ∧ SR 9218868437227405312 = 9218868437227405312 := by
  have h : U64 9218868437227405312 := ⟨by decide, by decide⟩
  refine ⟨h, ?_⟩
  unfold SR ngb
  rw [sz_eq h, decide_eq_false (by omega), if_neg (by decide)]
  omega
theorem ninf_facts : U64 18442240474082181120 ∧ SR 18442240474082181120 = -9218868437227405312 := by
  have h : U64 18442240474082181120 := ⟨by decide, by decide⟩
  refine ⟨h, ?_⟩
  unfold SR ngb
  rw [sz_eq h, decide_eq_true (by omega), if_pos rfl]
  omega
theorem sgn_inf : sgnG true 9218868437227405312 = 18442240474082181120 := by
  rw [sgn_eq (by decide) (by decide), if_pos rfl]; omega
theorem less_zero {c : Int} (hc : U64 c) (h : LessG 0 c = true) : isNaN c = false ∧ ngb c = false ∧ isZ c = false ∧ 0 < SV c := by
  obtain ⟨h1, h2, h3⟩ := less_parts zero_u64 hc h
  rw [SR_zero] at h3
  have h4 := (SV_SR zero_u64 hc).2 (by rw [SR_zero]; exact h3)
  rw [SV_zero] at h4
  refine ⟨h2, ?_, ?_, h4⟩
  · have := sz_nonneg hc
    unfold SR at h3
    cases hn : ngb c
    · rfl
    · rw [hn, if_pos rfl] at h3; omega
  · rw [Bool.eq_false_iff]; intro g
    rw [isZ_iff] at g
    unfold SR at h3; rw [g] at h3
    split at h3 <;> omega
/-- products with one above 0 do not fall where the other part rises. -/
theorem mul_mono {a b c : Int} (ha : U64 a) (hb : U64 b) (hc : U64 c) (h : LessG a b = true) (ic : isInf c = false) (hp : LessG 0 c = true) : LessG (MulG b c) (MulG a c) = false := by
  obtain ⟨na, nb, hl⟩ := less_parts ha hb h
  obtain ⟨nc, gc, zc, vc⟩ := less_zero hc hp
  apply less_not (mul_u64 hb hc) (mul_u64 ha hc)
  intro n1 n2
  have fc := fin_of nc ic
  cases ib : isInf b
  · cases ia : isInf a
    · rw [mul_total ha hc (fin_of na ia) fc, mul_total hb hc (fin_of nb ib) fc]
      have := (SV_SR ha hb).2 hl
      exact NT_mono _ _ (Int.mul_le_mul_of_nonneg_right (by omega) (by omega))
    · have si := inf_iff.1 ia
      have bb := SR_hi hb nb
      have ga : ngb a = true := by
        cases g : ngb a
        · have : SR a = 9218868437227405312 := by unfold SR; rw [g, if_neg (by decide), si]
          omega
        · rfl
      have e : MulG a c = 18442240474082181120 := by
        have X := ngX_eq ha hc
        rw [ga, gc] at X
        have : MulG a c = sgnG (ngX a c) 9218868437227405312 := by simp [MulG, na, nc, ia, ic, zc]
        rw [this, X]; exact sgn_inf
      rw [e, ninf_facts.2]
      exact (SR_hi (mul_u64 hb hc) n1).1
  · have si := inf_iff.1 ib
    have bb := SR_hi ha na
    have gb : ngb b = false := by
      cases g : ngb b
      · rfl
      · have : SR b = -9218868437227405312 := by unfold SR; rw [g, if_pos rfl, si]
        omega
    have e : MulG b c = 9218868437227405312 := by
      have X := ngX_eq hb hc
      rw [gb, gc] at X
      have : MulG b c = sgnG (ngX b c) 9218868437227405312 := by simp [MulG, nb, nc, ib, ic, zc]
      rw [this, X]; rfl
    rw [e, inf_facts.2]
    exact (SR_hi (mul_u64 ha hc) n2).2
theorem neg_num {a : Int} (ha : U64 a) (h : isNaN a = false) : isNaN (negG a) = false ∧ sz (negG a) = sz a ∧ ngb (negG a) = (!ngb a) ∧ U64 (negG a) := by
  obtain ⟨f1, f2, f3⟩ := flip_facts ha
  have e : negG a = Go.bits .xor .u64 a 9223372036854775808 := by unfold negG; rw [h]; rfl
  rw [e]
  refine ⟨?_, f2, f3, f1⟩
  rw [Bool.eq_false_iff] at h ⊢
  intro c; apply h; rw [nan_iff'] at c ⊢; omega
theorem neg_neg' {a : Int} (ha : U64 a) (h : isNaN a = false) : negG (negG a) = a := by
  obtain ⟨f1, f2, f3, f4⟩ := neg_num ha h
  have e : negG a = Go.bits .xor .u64 a 9223372036854775808 := by unfold negG; rw [h]; rfl
  have key : ∀ b, isNaN b = false → negG b = Go.bits .xor .u64 b 9223372036854775808 := fun b hb => if_neg (by rw [hb]; decide)
  have e2 := key _ f1
  rw [e2, xorS f4, e, xorS ha]
  have := ha.lo
  have := ha.hi
  split <;> split <;> omega
theorem V_sz {a b : Int} (ha : U64 a) (hb : U64 b) (h : sz a = sz b) : V a = V b := by rw [V_vr ha, V_vr hb, h]
theorem sub_self' {a : Int} (ha : U64 a) (h : isNaN a = false) (hi : isInf a = false) : SubG a a = 0 := by
  obtain ⟨f1, f2, f3, f4⟩ := neg_num ha h
  have fa := fin_of h hi
  have fn : Fin' (negG a) := by unfold Fin' at *; omega
  unfold SubG
  rw [add_total ha f4 fa fn]
  have : SV a + SV (negG a) = 0 := by
    unfold SV; rw [f3, V_sz f4 ha f2]
    cases ngb a <;> simp <;> omega
  rw [this, f3]
  cases ngb a <;> decide +kernel
theorem sub_sub' {a : Int} (ha : U64 a) (h : isNaN a = false) : SubG 0 (SubG 0 a) = AddG a 0 := by
  obtain ⟨f1, f2, f3, f4⟩ := neg_num ha h
  have z0 : isZ 0 = true := by decide +kernel
  have n0 : isNaN 0 = false := by decide +kernel
  have i0 : isInf 0 = false := by decide +kernel
  cases hz : isZ a
  · have e1 : ∀ b, isNaN b = false → isZ b = false → AddG 0 b = b := by
      intro b hn hb; simp [AddG, z0, n0, i0, hn, hb]
    have e2 : AddG a 0 = a := by
      have : ((0 : Int) == Go.bits .xor .u64 a 9223372036854775808) = false := by
        rw [beq_eq_false_iff_ne]; intro g
        have k := (flip_facts ha).2.1
        have z := isZ_iff.1 z0
        rw [← g, z] at k
        rw [isZ_iff.2 k.symm] at hz; cases hz
      simp [AddG, z0, n0, i0, h, hz, this]
    have nz : isZ (negG a) = false := by
      rw [Bool.eq_false_iff] at hz ⊢
      intro c; apply hz; rw [isZ_iff] at c ⊢; omega
    unfold SubG
    rw [e1 _ f1 nz, neg_neg' ha h, e1 _ h hz, e2]
  · have es := sz_eq ha
    have := isZ_iff.1 hz
    have := ha.lo
    have := ha.hi
    have ca : a = 0 ∨ a = 9223372036854775808 := by omega
    rcases ca with rfl | rfl <;> decide +kernel
theorem rem_self {a : Int} (ha : U64 a) (h : isNaN a = false) (hi : isInf a = false) (hz : isZ a = false) : EqualG (RemG a a) 0 = true := by
  have e : RemG a a = sgnG (ngb a) 0 := by
    have : RemG a a = if sz a < sz a then a else sgnG (ngb a) (NearG (oman a / 2048 * 2 ^ (oexp a - oexp a).toNat % (oman a / 2048)) (oexp a + 11) false) := by simp [RemG, h, hi, hz]
    rw [this, if_neg (by omega), Int.sub_self]
    rw [show (0 : Int).toNat = 0 from rfl, Int.pow_zero, Int.mul_one, Int.emod_self]
    rfl
  rw [e]
  cases ngb a <;> decide +kernel
theorem div_one {a : Int} (ha : U64 a) (h : isNaN a = false) : DivG a 4607182418800017408 = a := by
  have hO : U64 4607182418800017408 := ⟨by decide, by decide⟩
  have k1 : kindS 4607182418800017408 = 1 := by decide +kernel
  have gO : ngb 4607182418800017408 = false := by decide +kernel
  have oO : oman 4607182418800017408 = 9223372036854775808 := by decide +kernel
  have xO : oexp 4607182418800017408 = -63 := by decide +kernel
  have X := ngX_eq ha hO
  rw [gO, Bool.xor_false] at X
  rcases kind_cases a with ⟨ka, za⟩ | ⟨ka, za, fa⟩ | ⟨ka, ia⟩ | ⟨ka, na, na2⟩
  · have E : DivG a 4607182418800017408 = sgnG (ngX a 4607182418800017408) 0 := by simp [DivG, isNaN, isInf, isZ, ka, k1]
    rw [E, X]
    have := sgn_sz ha
    rw [za] at this; exact this
  · have E : DivG a 4607182418800017408 = divF (ngX a 4607182418800017408) (oman a) (oexp a) (oman 4607182418800017408) (oexp 4607182418800017408) := by simp [DivG, isNaN, isInf, isZ, ka, k1]
    have op := opened ha za
    have s := self_near ha za fa
    have o1 := op.lo
    have o2 := op.hi
    obtain ⟨x0, x1⟩ := oexp_bd ha
    rw [E, X, oO, xO]
    unfold divF
    rw [if_pos o1, Int.mul_ediv_cancel _ (by decide), Int.mul_emod_left]
    obtain ⟨n, hn⟩ := Int.eq_ofNat_of_zero_le (show 0 ≤ oman a by omega)
    rw [hn] at o1 o2 s ⊢
    rw [show ((0 : Int) != 0) = false from rfl, nearG_eq _ _ _ _ (by omega) (by omega) (by omega) (by omega)]
    rw [Int.toNat_natCast] at s
    rw [show oexp a - -63 - 64 + 1 = oexp a by omega]
    exact s
  · have E : DivG a 4607182418800017408 = sgnG (ngX a 4607182418800017408) 9218868437227405312 := by simp [DivG, isNaN, isInf, isZ, ka, k1]
    rw [E, X]
    have := sgn_sz ha
    rw [ia] at this; exact this
  · exfalso
    simp [isNaN, ka] at h
end Fp
