/- Plain facts: whole parts: Trunc and Floor of package soft are the model's. -/
import Derived.Test.YtkiakflmoplmeaaGf
import Derived.Test.YtkiakflmoplmeaaFl
namespace Fp
open Go Go.RowKit Ieee
set_option linter.unusedVariables false
set_option linter.unusedSimpArgs false
def truncN (x : Nat) : Nat := double.write ((double.read x).integral .zero)
/-- the whole part of a size, in ones. -/
def WP (a : Int) : Nat := V a / U
theorem cut_low (way : Toward) (s : Bool) (n d : Nat) : n / 2 ^ min d (n.log2 + 2) = n / 2 ^ d := by
  by_cases h : d ≤ n.log2 + 2
  · rw [Nat.min_eq_left h]
  · rw [Nat.min_eq_right (by omega)]
    have h1 : n < 2 ^ (n.log2 + 2) := by
      by_cases h0 : n = 0
      · subst h0; exact Nat.two_pow_pos _
      · exact Nat.lt_of_lt_of_le (log2_hi h0) (Nat.pow_le_pow_right (by omega) (by omega))
    have h2 : n < 2 ^ d := Nat.lt_of_lt_of_le h1 (Nat.pow_le_pow_right (by omega) (by omega))
    rw [Nat.div_eq_of_lt h1, Nat.div_eq_of_lt h2]
theorem cut_rest (n d : Nat) : (n % 2 ^ min d (n.log2 + 2) != 0) = (n % 2 ^ d != 0) := by
  by_cases h : d ≤ n.log2 + 2
  · rw [Nat.min_eq_left h]
  · rw [Nat.min_eq_right (by omega)]
    have h1 : n < 2 ^ (n.log2 + 2) := by
      by_cases h0 : n = 0
      · subst h0; exact Nat.two_pow_pos _
      · exact Nat.lt_of_lt_of_le (log2_hi h0) (Nat.pow_le_pow_right (by omega) (by omega))
    have h2 : n < 2 ^ d := Nat.lt_of_lt_of_le h1 (Nat.pow_le_pow_right (by omega) (by omega))
    rw [Nat.mod_eq_of_lt h1, Nat.mod_eq_of_lt h2]
theorem zero_cut (s : Bool) (n d : Nat) : Toward.zero.cut s n d = n / 2 ^ d := by
  unfold Toward.cut
  simp only [Nat.shiftLeft_eq, Nat.one_mul, cut_low .zero s n d]
  rfl
theorem down_cut (s : Bool) (n d : Nat) : Toward.down.cut s n d = n / 2 ^ d + (s && (n % 2 ^ d != 0)).toNat := by
  unfold Toward.cut
  simp only [Nat.shiftLeft_eq, Nat.one_mul, cut_low .down s n d, cut_rest]
/-- the whole part and the rest, by the number's own mantissa. -/
theorem WP_mant {a : Int} (hu : U64 a) : (mant a).toNat * 2 ^ (pl a).toNat / 2 ^ (-pl a).toNat = WP a ∧ ((mant a).toNat * 2 ^ (pl a).toNat % 2 ^ (-pl a).toNat = 0 ↔ V a % U = 0) := by
  have hp := pl_bd hu
  have hP := hP
  unfold WP V U
  generalize (mant a).toNat = m
  by_cases hc : 0 ≤ pl a
  · have e1 : (-pl a).toNat = 0 := by omega
    have e2 : (pl a + 1074).toNat = (pl a).toNat + P1074 := by omega
    rw [e1, e2, Nat.pow_add, ← Nat.mul_assoc, Nat.mul_div_cancel _ (Nat.two_pow_pos _), Nat.mul_mod_left, Nat.pow_zero, Nat.div_one, Nat.mod_one]
    exact ⟨rfl, Iff.rfl⟩
  · have e1 : (pl a).toNat = 0 := by omega
    obtain ⟨d, hd⟩ : ∃ d : Nat, (-pl a).toNat = d := ⟨_, rfl⟩
    obtain ⟨A, hA⟩ : ∃ d : Nat, (pl a + 1074).toNat = d := ⟨_, rfl⟩
    have e3 : P1074 = d + A := by omega
    rw [e1, hd, hA, e3, Nat.pow_add, Nat.mul_div_mul_right _ _ (Nat.two_pow_pos A), Nat.mul_mod_mul_right, Nat.pow_zero, Nat.mul_one]
    refine ⟨rfl, fun h => by rw [h, Nat.zero_mul], fun h => ?_⟩
    rcases Nat.mul_eq_zero.1 h with g | g
    · exact g
    · exact absurd g (Nat.ne_of_gt (Nat.two_pow_pos A))
theorem trunc_near {a : Int} (hu : U64 a) (hf : sz a < 9218868437227405312) : truncN a.toNat = double.nearest (ngb a) (WP a) 0 := by
  unfold truncN
  rw [read_eq hu, if_pos hf]
  simp only [Datum.integral]
  rw [Nat.shiftLeft_eq, zero_cut, (WP_mant hu).1]
  rfl
theorem floor_near {a : Int} (hu : U64 a) (hf : sz a < 9218868437227405312) : floorN a.toNat = double.nearest (ngb a) (WP a + (ngb a && (V a % U != 0)).toNat) 0 := by
  unfold floorN
  rw [read_eq hu, if_pos hf]
  simp only [Datum.integral]
  rw [Nat.shiftLeft_eq, down_cut, (WP_mant hu).1]
  have h := (WP_mant hu).2
  have e : ((mant a).toNat * 2 ^ (pl a).toNat % 2 ^ (-pl a).toNat != 0) = (V a % U != 0) := by
    by_cases g : V a % U = 0
    · rw [g, h.2 g]
    · rw [bne_iff_ne.2 g, bne_iff_ne.2 (fun k => g (h.1 k))]
  rw [e]
  rfl
theorem nearest_U (s : Bool) (K : Nat) : double.nearest s K 0 = double.nearest s (K * U) (-1074) := by
  unfold U
  rw [nearest_scale]
  congr 1
/-- a number is the nearest to itself. -/
theorem nearest_self {a : Int} (hu : U64 a) (hf : sz a < 9218868437227405312) : ((double.nearest (ngb a) (V a) (-1074) : Nat) : Int) = a := by
  have pa : Pos (sz a) := ⟨sz_nonneg hu, hf⟩
  obtain ⟨u, u1, u2, u3⟩ := rep (V a) (mant a).toNat (pl a + 1074).toNat rfl (mant_lt hu) (by rw [← V_sz pa.u hu pa.sz]; exact pa.below)
  rw [nearest_rung, u1]
  rw [V_vr hu] at u3
  have e : u = (sz a).toNat := by
    have h1 := vr_lt_iff (r := u) (t := (sz a).toNat)
    have h2 := vr_lt_iff (r := (sz a).toNat) (t := u)
    omega
  have := sz_eq hu
  have l0 := hu.lo
  have l1 := hu.hi
  have e63n : (2 : Nat) ^ 63 = 9223372036854775808 := by decide
  have w := sgn_word (ngb a) u (by omega)
  rw [← w, sgn_eq (by omega) (by omega), e]
  unfold ngb
  by_cases c : 9223372036854775808 ≤ a
  · rw [decide_eq_true c, if_pos rfl]; omega
  · rw [decide_eq_false c, if_neg (by decide)]; omega
end Fp
namespace Fp
open Go Go.RowKit Ieee
set_option linter.unusedVariables false
set_option linter.unusedSimpArgs false
theorem sign_bit {y : Int} (hy : U64 y) : Go.bits .and .u64 y 9223372036854775808 = if ngb y then 9223372036854775808 else 0 := by
  have h0 := hy.lo
  have h1 := hy.hi
  obtain ⟨n, rfl⟩ := Int.eq_ofNat_of_zero_le h0
  have e2 := bits_and64 n (2 ^ 63) (by omega) (by decide)
  rw [← e63] at e2
  rw [e2, and_top, top_bit (by omega)]
  unfold ngb
  have e63n : (2 : Nat) ^ 63 = 9223372036854775808 := by decide
  rw [e63n]
  cases decide (9223372036854775808 ≤ (n : Int)) <;> rfl
theorem V_one : V 4607182418800017408 = U := by
  have h : Pos 4607182418800017408 := ⟨by decide, by decide⟩
  rw [h.V]
  have e1 : (4607182418800017408 : Int).toNat = 4607182418800017408 := by omega
  have e2 : 4607182418800017408 % 4503599627370496 = 0 := by omega
  have e3 : 4607182418800017408 / 4503599627370496 - 1 = P1074 - 52 := by rw [hP]
  have e4 : (4503599627370496 : Nat) = 2 ^ 52 := by decide
  rw [e1]
  unfold vr U
  rw [if_neg (by omega), e2, e3, Nat.add_zero, e4, ← Nat.pow_add, show 52 + (P1074 - 52) = P1074 from rfl]
theorem part_pow (j l : Nat) (h : j + l = 52) : 4503599627370495 / 2 ^ l = 2 ^ j - 1 := by
  have e : 2 ^ j * 2 ^ l = 4503599627370496 := by rw [← Nat.pow_add, h]
  have hj := Nat.two_pow_pos j
  have hl := Nat.two_pow_pos l
  have e1 : (2 ^ j - 1) * 2 ^ l = 4503599627370496 - 2 ^ l := by rw [Nat.sub_mul, e, Nat.one_mul]
  apply Nat.div_eq_of_lt_le
  · rw [e1]; omega
  · rw [show 2 ^ j - 1 + 1 = 2 ^ j by omega, e]; omega
theorem mod_dvd' (a j : Nat) (h : j ≤ 52) : (4503599627370496 + a) % 2 ^ j = a % 2 ^ j := by
  have e : (4503599627370496 : Nat) = 2 ^ j * 2 ^ (52 - j) := by rw [← Nat.pow_add, show j + (52 - j) = 52 by omega]
  rw [e, Nat.mul_add_mod]
theorem mod_parts (e f j : Nat) (h : j ≤ 52) : (e * 4503599627370496 + f) % 2 ^ j = f % 2 ^ j := by
  have q : (4503599627370496 : Nat) = 2 ^ j * 2 ^ (52 - j) := by rw [← Nat.pow_add, show j + (52 - j) = 52 by omega]
  rw [q, Nat.mul_comm, Nat.mul_assoc, Nat.mul_add_mod]
theorem mod_sign (b s j : Nat) (h : j ≤ 52) : (b * 9223372036854775808 + s) % 2 ^ j = s % 2 ^ j := by
  have q : (9223372036854775808 : Nat) = 2 ^ j * 2 ^ (63 - j) := by rw [← Nat.pow_add, show j + (63 - j) = 63 by omega]
  rw [q, Nat.mul_comm, Nat.mul_assoc, Nat.mul_add_mod]
/-- the size, its low bits gone. -/
theorem vr_trunc (e f j : Nat) (f1 : f < 4503599627370496) (h : (j ≤ 52 ∧ j + e = 1075) ∨ (j = 0 ∧ 1075 ≤ e)) :
    vr (e * 4503599627370496 + (f - f % 2 ^ j)) = vr (e * 4503599627370496 + f) / U * U := by
  have he : 1 ≤ e := by omega
  have hle : f % 2 ^ j ≤ f := Nat.mod_le _ _
  have d1 : ∀ g, g < 4503599627370496 → vr (e * 4503599627370496 + g) = (4503599627370496 + g) * 2 ^ (e - 1) := fun g hg => by
    have h1 : (e * 4503599627370496 + g) / 4503599627370496 = e := by
      rw [Nat.mul_comm, Nat.mul_add_div (by omega), Nat.div_eq_of_lt hg]; rfl
    have h2 : (e * 4503599627370496 + g) % 4503599627370496 = g := by
      rw [Nat.mul_comm, Nat.mul_add_mod, Nat.mod_eq_of_lt hg]
    unfold vr
    rw [if_neg (by omega), h1, h2]
  rw [d1 _ (by omega), d1 _ f1]
  rcases h with ⟨h1, h2⟩ | ⟨h1, h2⟩
  · have eU : U = 2 ^ j * 2 ^ (e - 1) := by unfold U; rw [← Nat.pow_add]; congr 1; rw [hP]; omega
    rw [eU, Nat.mul_div_mul_right _ _ (Nat.two_pow_pos _), ← Nat.mul_assoc]
    have key : (4503599627370496 + f) / 2 ^ j * 2 ^ j = 4503599627370496 + (f - f % 2 ^ j) := by
      have := Nat.div_add_mod (4503599627370496 + f) (2 ^ j)
      rw [mod_dvd' f j h1, Nat.mul_comm] at this
      omega
    rw [key]
  · have eU : 2 ^ (e - 1) = 2 ^ (e - 1075) * U := by unfold U; rw [← Nat.pow_add]; congr 1; rw [hP]; omega
    rw [h1, Nat.pow_zero, Nat.mod_one, Nat.sub_zero, eU, ← Nat.mul_assoc, Nat.mul_div_cancel _ U_pos]
structure TrOf (a t : Int) : Prop where
  u : U64 t
  ng : ngb t = ngb a
  fin : sz t < 9218868437227405312
  val : V t = WP a * U
theorem trunc_of {a : Int} (hu : U64 a) (hf : sz a < 9218868437227405312) : TrOf a (TruncG a) := by
  have a0 := hu.lo
  have a1 := hu.hi
  have es := sz_eq hu
  have nn := (fin_num hf).1
  have hU := U_pos
  unfold TruncG
  rw [if_neg (by rw [nn]; decide)]
  by_cases z : sz a = 0
  · have k : (kindS a != 1) = true := by unfold kindS; rw [if_pos z]; decide
    rw [if_pos k]
    have v := (V_zero_iff hu).2 z
    exact ⟨hu, rfl, hf, by unfold WP; rw [v, Nat.zero_div, Nat.zero_mul]⟩
  have k : (kindS a != 1) = false := by rw [kind_some z hf]; decide
  rw [if_neg (by rw [k]; decide)]
  have pa : Pos (sz a) := ⟨sz_nonneg hu, hf⟩
  have vsz : V (sz a) = V a := V_sz pa.u hu pa.sz
  by_cases c : sz a < 4607182418800017408
  · rw [if_pos c, sign_bit hu]
    have p1 : Pos 4607182418800017408 := ⟨by decide, by decide⟩
    have hv := (pa.lt p1).2 c
    rw [vsz, V_one] at hv
    have w : WP a = 0 := Nat.div_eq_of_lt hv
    cases hg : ngb a
    · rw [if_neg (by decide)]; exact ⟨⟨by decide, by decide⟩, by rw [hg]; decide +kernel, by decide +kernel, by rw [w, Nat.zero_mul]; decide +kernel⟩
    · rw [if_pos rfl]; exact ⟨⟨by decide, by decide⟩, by rw [hg]; decide +kernel, by decide +kernel, by rw [w, Nat.zero_mul]; decide +kernel⟩
  · rw [if_neg c]
    obtain ⟨s, hs⟩ := Int.eq_ofNat_of_zero_le (sz_nonneg hu)
    obtain ⟨n, hn⟩ := Int.eq_ofNat_of_zero_le a0
    obtain ⟨b, hb⟩ : ∃ b, n / 9223372036854775808 = b := ⟨_, rfl⟩
    have en : n = b * 9223372036854775808 + s := by omega
    obtain ⟨e, he⟩ : ∃ e, s / 4503599627370496 = e := ⟨_, rfl⟩
    obtain ⟨f, hff⟩ : ∃ e, s % 4503599627370496 = e := ⟨_, rfl⟩
    have esf : s = e * 4503599627370496 + f := by omega
    have f1 : f < 4503599627370496 := by omega
    have e0 : 1023 ≤ e := by omega
    have e1 : e ≤ 2046 := by omega
    have ng2 : ngb a = decide (1 ≤ b) := by unfold ngb; exact decide_eq_decide.2 (by omega)
    obtain ⟨_, _, _, _, _, ox⟩ := normal_parts (a := a) (E := e) (F := f) (s := ngb a) (by
      rw [ng2]
      by_cases g : 1 ≤ b
      · rw [decide_eq_true g, if_pos rfl]; omega
      · rw [decide_eq_false g, if_neg (by decide)]; omega) (by omega) (by omega) (by omega) (by omega)
    obtain ⟨l, hl⟩ : ∃ l : Nat, (min (max (oexp a + 63) 0) 52).toNat = l := ⟨_, rfl⟩
    obtain ⟨j, hj⟩ : ∃ j, j = 52 - l := ⟨_, rfl⟩
    have hp : partG a = ((2 ^ j - 1 : Nat) : Int) := by
      unfold partG
      have cp : (2 : Int) ^ l = ((2 ^ l : Nat) : Int) := by rw [Int.natCast_pow]; rfl
      rw [hl, cp, ← part_pow j l (by omega)]; rfl
    have j52 : j ≤ 52 := by omega
    have hcase : (j ≤ 52 ∧ j + e = 1075) ∨ (j = 0 ∧ 1075 ≤ e) := by omega
    have hpj : 2 ^ j ≤ 2 ^ 52 := Nat.pow_le_pow_right (by omega) j52
    have e52n : (2 : Nat) ^ 52 = 4503599627370496 := by decide
    rw [e52n] at hpj
    have hr : n % 2 ^ j = f % 2 ^ j := by rw [en, mod_sign b s j j52, esf, mod_parts e f j j52]
    have hle : f % 2 ^ j ≤ f := Nat.mod_le _ _
    have ht : Go.bits .andNot .u64 a (partG a) = ((b * 9223372036854775808 + (e * 4503599627370496 + (f - f % 2 ^ j)) : Nat) : Int) := by
      rw [hp, hn, and_not_mask_lemma n (2 ^ j - 1) (by omega) (by omega), Nat.and_two_pow_sub_one_eq_mod, hr]
      congr 1
      omega
    rw [ht]
    have vt := vr_trunc e f j f1 hcase
    generalize f % 2 ^ j = g at *
    have hb1 : b ≤ 1 := by omega
    have ut : U64 ((b * 9223372036854775808 + (e * 4503599627370496 + (f - g)) : Nat) : Int) := ⟨by omega, by omega⟩
    have st : sz ((b * 9223372036854775808 + (e * 4503599627370496 + (f - g)) : Nat) : Int) = ((e * 4503599627370496 + (f - g) : Nat) : Int) := by rw [sz_eq ut]; omega
    refine ⟨ut, ?_, by rw [st]; omega, ?_⟩
    · rw [ng2]; unfold ngb; exact decide_eq_decide.2 (by omega)
    · rw [V_vr ut, st, Int.toNat_natCast, vt]
      unfold WP
      rw [V_vr hu, hs, Int.toNat_natCast, esf]
theorem trunc_eq {a : Int} (hu : U64 a) (hf : sz a < 9218868437227405312) : ((truncN a.toNat : Nat) : Int) = TruncG a := by
  have T := trunc_of hu hf
  rw [trunc_near hu hf, nearest_U, ← T.val, ← T.ng]
  exact nearest_self T.u T.fin
end Fp
namespace Fp
open Go Go.RowKit Ieee
set_option linter.unusedVariables false
set_option linter.unusedSimpArgs false
def FloorG (a : Int) : Int := if TruncG a = a ∨ TruncG a = 9221120237041090560 ∨ a < 9223372036854775808 then TruncG a else SubG (TruncG a) 4607182418800017408
theorem one_pos : Pos 4607182418800017408 := ⟨by decide, by decide⟩
theorem sub_total {a b : Int} (ha : U64 a) (hb : U64 b) (fa : sz a < 9218868437227405312) (fb : sz b < 9218868437227405312) : SubG a b = NT (ngb a && !ngb b) (SV a - SV b) (-1074) := by
  obtain ⟨f1, f2, f3, f4⟩ := neg_num hb (fin_num fb).1
  have fn : Fin' (negG b) := by unfold Fin'; rw [f2]; exact fb
  have sn : SV (negG b) = -SV b := by
    unfold SV
    rw [f3, V_sz f4 hb f2]
    cases ngb b <;> simp
  unfold SubG
  rw [add_total ha f4 fa fn, f3, sn]
  rfl
theorem nt_down (s : Bool) (W u : Nat) (h : 0 < u) : NT s (-((W * u : Nat) : Int) - (u : Int)) (-1074) = ((double.nearest true ((W + 1) * u) (-1074) : Nat) : Int) := by
  unfold NT
  have eu : (W + 1) * u = W * u + u := by rw [Nat.add_mul, Nat.one_mul]
  rw [eu]
  generalize W * u = x
  rw [if_neg (by omega), decide_eq_true (by omega), show (-((x : Nat) : Int) - (u : Int)).natAbs = x + u by omega]
theorem floor_eq {a : Int} (hu : U64 a) (hf : sz a < 9218868437227405312) : ((floorN a.toNat : Nat) : Int) = FloorG a := by
  have T := trunc_of hu hf
  have hn := floor_near hu hf
  have ht : ((double.nearest (ngb a) (WP a) 0 : Nat) : Int) = TruncG a := by rw [← trunc_near hu hf]; exact trunc_eq hu hf
  unfold FloorG
  cases hg : ngb a
  · rw [hg] at hn ht
    have : a < 9223372036854775808 := by have := of_decide_eq_false hg; omega
    have e0 : (false && (V a % U != 0)).toNat = 0 := rfl
    rw [if_pos (.inr (.inr this)), hn, ← ht, e0, Nat.add_zero]
  · rw [hg] at hn ht
    have h9 : ¬ a < 9223372036854775808 := by have := of_decide_eq_true hg; omega
    by_cases c : V a % U = 0
    · have e : TruncG a = a := by
        have hv : V (TruncG a) = V a := by
          rw [T.val]; unfold WP
          exact Nat.div_mul_cancel (Nat.dvd_of_mod_eq_zero c)
        have h1 := nearest_self T.u T.fin
        have h2 := nearest_self hu hf
        rw [T.ng, hv] at h1
        rw [← h1, h2]
      have e0 : (true && ((0 : Nat) != 0)).toNat = 0 := rfl
      rw [if_pos (.inl e), hn, ← ht, c, e0, Nat.add_zero]
    · have hv : V (TruncG a) ≠ V a := fun g => c (by rw [← g, T.val]; exact Nat.mul_mod_left _ _)
      have e1 : TruncG a ≠ a := fun g => hv (by rw [g])
      have e2 : TruncG a ≠ 9221120237041090560 := fun g => by
        have := T.fin
        rw [g] at this
        exact absurd this (by decide +kernel)
      rw [if_neg (fun g => g.elim e1 (fun k => k.elim e2 h9)), hn, sub_total T.u one_pos.u T.fin one_pos.fin, T.ng, hg, one_pos.ng, one_pos.SV, V_one]
      have sv : SV (TruncG a) = -((WP a * U : Nat) : Int) := by unfold SV; rw [T.ng, hg, if_pos rfl, T.val]
      rw [sv, nt_down _ _ _ U_pos, nearest_U]
      have : (true && (V a % U != 0)).toNat = 1 := by rw [bne_iff_ne.2 c, Bool.true_and, Bool.toNat_true]
      rw [this]
/-- a NaN made quiet is one still. -/
theorem quiet_nan (s : Bool) (t : Nat) (h : t < 4503599627370496) : isNaN ((double.write (.nan s (double.quiet t)) : Nat) : Int) = true := by
  have e51 : (2 : Nat) ^ 51 = 2251799813685248 := by decide
  have e52n : (2 : Nat) ^ 52 = 4503599627370496 := by decide
  have q : double.quiet t = t ||| 2 ^ 51 := rfl
  have h1 : t ||| 2 ^ 51 < 2 ^ 52 := Nat.or_lt_two_pow (by rw [e52n]; exact h) (by decide)
  have h2 : 2 ^ 51 ≤ t ||| 2 ^ 51 := Nat.right_le_or
  rw [e52n] at h1
  rw [e51] at h2
  show isNaN ((double.word s (double.infRung + double.quiet t % double.binade) : Nat) : Int) = true
  rw [q, binade_double, e52n, e51, Nat.mod_eq_of_lt (by rw [← e51]; exact h1), infRung_d]
  rw [e51] at h1
  generalize t ||| 2251799813685248 = r at *
  have w := sgn_word s (9218868437227405312 + r) (by omega)
  rw [← w, sgn_eq (by omega) (by omega), nan_iff']
  have hu : U64 (if s then ((9218868437227405312 + r : Nat) : Int) + 9223372036854775808 else ((9218868437227405312 + r : Nat) : Int)) := by split <;> exact ⟨by omega, by omega⟩
  rw [sz_eq hu]
  split <;> omega
end Fp
namespace Fp
open Go Go.RowKit Ieee
set_option linter.unusedVariables false
set_option linter.unusedSimpArgs false
theorem toInt_word {k : Int} (h0 : -9007199254740992 < k) (h1 : k < 9007199254740992) : (double.read (FromIntG k).toNat).toInt .zero = some k := by
  by_cases hz : k = 0
  · subst hz; rw [FromInt_zero]; decide
  · unfold Datum.toInt
    rw [integral_whole .zero (by decide) (by omega) (by omega) hz]
    simp only [signed, Nat.shiftLeft_eq, Nat.pow_zero, Nat.mul_one]
    by_cases hc : k < 0
    · rw [decide_eq_true hc, if_pos rfl]; congr 1; omega
    · rw [decide_eq_false hc, if_neg (by decide)]; congr 1; omega
theorem toI64_FromInt {k : Int} (h0 : -9007199254740992 < k) (h1 : k < 9007199254740992) : floatToIntVal .f64 (FromIntG k).toNat .i64 = some k := by
  unfold floatToIntVal
  have e : FloatKind.f64.decode (FromIntG k).toNat = double.read (FromIntG k).toNat := rfl
  rw [e, toInt_word h0 h1]
  have b0 : IntKind.i64.min = -9223372036854775808 := by decide
  have b1 : IntKind.i64.max = 9223372036854775807 := by decide
  simp only [b0, b1]
  rw [if_pos ⟨by omega, by omega⟩]
theorem toU32_FromInt {k : Int} (h0 : 0 ≤ k) (h1 : k < 4294967296) : floatToIntVal .f64 (FromIntG k).toNat .u32 = some k := by
  unfold floatToIntVal
  have e : FloatKind.f64.decode (FromIntG k).toNat = double.read (FromIntG k).toNat := rfl
  rw [e, toInt_word (by omega) (by omega)]
  have b0 : IntKind.u32.min = 0 := by decide
  have b1 : IntKind.u32.max = 4294967295 := by decide
  simp only [b0, b1]
  rw [if_pos ⟨by omega, by omega⟩]
theorem toU32_zero : floatToIntVal .f64 9223372036854775808 .u32 = some 0 := by decide +kernel
theorem hi_pos : Pos 4845873199050653696 := ⟨by decide, by decide⟩
theorem V_hi : V 4845873199050653696 = 9007199254740992 * U := by
  rw [hi_pos.V]
  have e1 : (4845873199050653696 : Int).toNat = 4845873199050653696 := by omega
  have e2 : 4845873199050653696 % 4503599627370496 = 0 := by omega
  have e3 : 4845873199050653696 / 4503599627370496 - 1 = P1074 + 1 := by rw [hP]
  have e4 : (9007199254740992 : Nat) = 4503599627370496 * 2 := by decide
  rw [e1]
  unfold vr U
  rw [if_neg (by omega), e2, e3, Nat.add_zero, e4, Nat.pow_succ, Nat.mul_comm (2 ^ P1074) 2, Nat.mul_assoc]
theorem lo_facts : U64 14069245235905429504 ∧ sz 14069245235905429504 = 4845873199050653696 ∧ ngb 14069245235905429504 = true := ⟨⟨by decide, by decide⟩, by decide +kernel, by decide +kernel⟩
theorem SV_lo : SV 14069245235905429504 = -((9007199254740992 * U : Nat) : Int) := by
  obtain ⟨h1, h2, h3⟩ := lo_facts
  unfold SV
  rw [h3, if_pos rfl, V_sz h1 hi_pos.u (by rw [h2, hi_pos.sz]), V_hi]
theorem SV_hi : SV 4845873199050653696 = ((9007199254740992 * U : Nat) : Int) := by rw [hi_pos.SV, V_hi]
theorem whole_or (a : Int) : WholeG a = (0, false) ∨ (WholeG a).2 = true := by
  unfold WholeG
  split
  · exact .inr rfl
  · split
    · exact .inl rfl
    · split
      · exact .inl rfl
      · exact .inr rfl
/-- what the test's first part says. -/
def notW (a : Int) : Bool := isNaN a || decide (SR a ≠ SR (TruncG a))
theorem mul_lt_U {k b : Int} {u : Nat} (hu : 0 < u) (h : k < b) : k * (u : Int) < b * (u : Int) := Int.mul_lt_mul_of_pos_right h (by omega)
theorem WP_FromInt {k : Int} (h0 : -9007199254740992 < k) (h1 : k < 9007199254740992) : V (FromIntG k) = k.natAbs * U := by
  have h := SV_FromInt h0 h1
  have h2 := SV_abs (FromIntG k)
  rw [h, Int.natAbs_mul, Int.natAbs_natCast] at h2
  exact h2.symm
/-- a word that is its own whole part is so as a word. -/
theorem trunc_self {a : Int} (hu : U64 a) (hf : sz a < 9218868437227405312) (h : V a % U = 0) : TruncG a = a := by
  have T := trunc_of hu hf
  have hv : V (TruncG a) = V a := by
    rw [T.val]; unfold WP
    exact Nat.div_mul_cancel (Nat.dvd_of_mod_eq_zero h)
  have h1 := nearest_self T.u T.fin
  have h2 := nearest_self hu hf
  rw [T.ng, hv] at h1
  rw [← h1, h2]
theorem whole_yes {a : Int} (hu : U64 a) (h : (WholeG a).2 = true) : notW a = false ∧ SR 14069245235905429504 < SR a ∧ SR a < SR 4845873199050653696 ∧ a ≠ 9223372036854775808 ∧ floatToIntVal .f64 a.toNat .i64 = some (WholeG a).1 := by
  obtain ⟨e, h0, h1⟩ := FromInt_Whole hu h
  generalize (WholeG a).1 = k at *
  have hv := SV_FromInt h0 h1
  have hf := FromInt_fin h0 h1
  have hw := WP_FromInt h0 h1
  rw [e] at hv hf hw
  have htr : TruncG a = a := trunc_self hu hf (by rw [hw]; exact Nat.mul_mod_left _ _)
  refine ⟨?_, ?_, ?_, ?_, ?_⟩
  · unfold notW
    rw [(fin_num hf).1, htr]; simp
  · rw [← SV_SR lo_facts.1 hu, SV_lo, hv]
    have := mul_lt_U U_pos h0
    rw [Int.natCast_mul]
    rw [Int.neg_mul] at this
    exact this
  · rw [← SV_SR hu hi_pos.u, SV_hi, hv]
    have := mul_lt_U U_pos h1
    rw [Int.natCast_mul]
    exact this
  · intro c
    rw [c] at h
    exact absurd h (by decide +kernel)
  · rw [← e]; exact toI64_FromInt h0 h1
theorem whole_no {a : Int} (hu : U64 a) (h1 : notW a = false) (h2 : SR 14069245235905429504 < SR a) (h3 : SR a < SR 4845873199050653696) (h4 : a ≠ 9223372036854775808) : (WholeG a).2 = true := by
  unfold notW at h1
  rw [Bool.or_eq_false_iff] at h1
  obtain ⟨hn, h1⟩ := h1
  have h1 : SR a = SR (TruncG a) := Decidable.not_not.mp (of_decide_eq_false h1)
  have hl : ¬ 9218868437227405312 < sz a := by rw [← nan_iff', hn]; decide
  have szn := sz_nonneg hu
  have hf : sz a < 9218868437227405312 := by
    have s1 : SR 14069245235905429504 = -4845873199050653696 := by unfold SR; rw [lo_facts.2.2, lo_facts.2.1]; rfl
    have s2 : SR 4845873199050653696 = 4845873199050653696 := hi_pos.SR
    rw [s1] at h2
    rw [s2] at h3
    unfold SR at h2 h3
    cases hg : ngb a
    · rw [hg, if_neg (by decide)] at h3; omega
    · rw [hg, if_pos rfl] at h2; omega
  have T := trunc_of hu hf
  have hsz : sz a = sz (TruncG a) := by unfold SR at h1; rw [T.ng] at h1; split at h1 <;> omega
  have hv : V a = WP a * U := by rw [V_sz hu T.u hsz, T.val]
  rw [← SV_SR lo_facts.1 hu, SV_lo] at h2
  rw [← SV_SR hu hi_pos.u, SV_hi] at h3
  have hb : WP a < 9007199254740992 := by
    have : V a < 9007199254740992 * U := by
      have := SV_abs a
      generalize 9007199254740992 * U = b at *
      omega
    rw [hv] at this
    exact Nat.lt_of_mul_lt_mul_right this
  obtain ⟨k, hk⟩ : ∃ k : Int, (if ngb a then -((WP a : Nat) : Int) else ((WP a : Nat) : Int)) = k := ⟨_, rfl⟩
  have k0 : -9007199254740992 < k := by rw [← hk]; split <;> omega
  have k1 : k < 9007199254740992 := by rw [← hk]; split <;> omega
  have e : SV a = SV (FromIntG k) := by
    rw [SV_FromInt k0 k1, ← hk]
    unfold SV
    rw [hv]
    split
    · rw [Int.natCast_mul, Int.neg_mul]
    · rw [Int.natCast_mul]
  have fu := FromInt_u64 k0 k1
  have m1 := SV_SR hu fu
  have m2 := SV_SR fu hu
  have hSR : SR a = SR (FromIntG k) := by rw [e] at m1 m2; omega
  by_cases z : SR a = 0
  · have z2 : sz a = 0 := by unfold SR at z; split at z <;> omega
    have := sz_eq hu
    have l0 := hu.lo
    have l1 := hu.hi
    have : a = 0 := by omega
    subst this
    decide
  · have := SR_inj hu fu hSR z
    rw [this, Whole_FromInt k k0 k1]
end Fp
namespace Fp
open Go Go.RowKit Ieee
set_option linter.unusedVariables false
set_option linter.unusedSimpArgs false
/-- the whole part, by the opened number. -/
theorem WP_open {a : Int} (hu : U64 a) (hz : ¬ sz a = 0) : (oexp a ≤ 0 → WP a = (oman a).toNat / 2 ^ (-oexp a).toNat) ∧ (0 ≤ oexp a → WP a = (oman a).toNat * 2 ^ (oexp a).toNat) := by
  have hv := V_open hu hz
  have he := oexp_bd hu
  have hP := hP
  have p := Nat.two_pow_pos 64
  unfold WP
  have e0 : V a / U = V a * 2 ^ 64 / (U * 2 ^ 64) := (Nat.mul_div_mul_right _ _ p).symm
  rw [e0, hv]
  unfold U
  rw [← Nat.pow_add]
  generalize (oman a).toNat = X
  constructor
  · intro h
    obtain ⟨s, hs⟩ : ∃ s, (-oexp a).toNat = s := ⟨_, rfl⟩
    obtain ⟨A, hA⟩ : ∃ s, (oexp a + 1138).toNat = s := ⟨_, rfl⟩
    rw [hs, hA, show P1074 + 64 = s + A by omega, Nat.pow_add, Nat.mul_div_mul_right _ _ (Nat.two_pow_pos A)]
  · intro h
    rw [show (oexp a + 1138).toNat = (oexp a).toNat + (P1074 + 64) by omega, Nat.pow_add, ← Nat.mul_assoc, Nat.mul_div_cancel _ (Nat.two_pow_pos _)]
theorem toU_WP {a : Int} (hu : U64 a) (hz : ¬ sz a = 0) : toU a = ((WP a % 4294967296 : Nat) : Int) := by
  obtain ⟨h1, h2⟩ := WP_open hu hz
  have o := opened hu hz
  have lo := o.lo
  have hi := o.hi
  have cp (k : Nat) : (2 : Int) ^ k = ((2 ^ k : Nat) : Int) := by rw [Int.natCast_pow]; rfl
  obtain ⟨X, hX⟩ := Int.eq_ofNat_of_zero_le (show 0 ≤ oman a by omega)
  rw [hX, Int.toNat_natCast] at h1 h2
  have hX2 : X < 18446744073709551616 := by omega
  unfold toU
  by_cases c : oexp a < 0
  · rw [if_pos c, h1 (by omega)]
    by_cases d : -64 < oexp a
    · rw [if_pos d, hX, cp, ← Int.natCast_ediv]
      rfl
    · rw [if_neg d]
      have : X / 2 ^ (-oexp a).toNat = 0 := by
        apply Nat.div_eq_of_lt
        have e64n : (2 : Nat) ^ 64 = 18446744073709551616 := by decide
        have : 2 ^ 64 ≤ 2 ^ (-oexp a).toNat := Nat.pow_le_pow_right (by omega) (by omega)
        omega
      rw [this]; rfl
  · rw [if_neg c, h2 (by omega), hX, cp, ← Int.natCast_mul, u64_wrap]
    have e32n : (2 : Nat) ^ 32 = 4294967296 := by decide
    have e64n : (2 : Nat) ^ 64 = 18446744073709551616 := by decide
    obtain ⟨k, hk⟩ : ∃ k, (oexp a).toNat = k := ⟨_, rfl⟩
    rw [hk]
    by_cases d : k ≤ 64
    · rw [Nat.min_eq_left d]
      generalize X * 2 ^ k = Y
      omega
    · rw [Nat.min_eq_right (by omega)]
      have e1 : X * 2 ^ k = X * 2 ^ (k - 32) * 4294967296 := by
        rw [Nat.mul_assoc, ← e32n, ← Nat.pow_add, show k - 32 + 32 = k by omega]
      rw [e1, Nat.mul_mod_left, e64n]
      omega
theorem c32_pos : Pos 4751297606875873280 := ⟨by decide, by decide⟩
theorem V_c32 : V 4751297606875873280 = 4294967296 * U := by
  rw [c32_pos.V]
  have e1 : (4751297606875873280 : Int).toNat = 4751297606875873280 := by omega
  have e2 : 4751297606875873280 % 4503599627370496 = 0 := by omega
  have e3 : 4751297606875873280 / 4503599627370496 - 1 = P1074 - 20 := by rw [hP]
  have e4 : (4503599627370496 : Nat) = 4294967296 * 2 ^ 20 := by decide
  rw [e1]
  unfold vr U
  rw [if_neg (by omega), e2, e3, Nat.add_zero, e4, Nat.mul_assoc, ← Nat.pow_add, show 20 + (P1074 - 20) = P1074 from rfl]
/-- what is left of the whole part, modulo 2^32, as a word. -/
structure Mod32 (a m : Int) : Prop where
  u : U64 m
  ng : ngb m = ngb a
  fin : sz m < 9218868437227405312
  val : V m = WP a % 4294967296 * U
theorem whole_lt (a : Int) : V a < 4294967296 * U ↔ WP a < 4294967296 := by
  unfold WP
  rw [Nat.div_lt_iff_lt_mul U_pos]
end Fp
