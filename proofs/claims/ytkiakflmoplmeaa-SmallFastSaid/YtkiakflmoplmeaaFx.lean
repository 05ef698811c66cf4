/- Plain facts: rounding does not fall where the number rises. -/
import Derived.Test.YtkiakflmoplmeaaFq
import Derived.Test.YtkiakflmoplmeaaFv
import Derived.Laws.FloatBits
namespace Fp
open Go Go.RowKit Ieee
set_option linter.unusedVariables false
set_option linter.unusedSimpArgs false

theorem rne_mono {n m d : Nat} (h : n ≤ m) : rne n false d ≤ rne m false d := by
  rw [rne_if, rne_if]
  have hq := Nat.div_le_div_right (c := 2 ^ d) h
  have e1 := Nat.div_add_mod n (2 ^ d)
  have e2 := Nat.div_add_mod m (2 ^ d)
  rcases Nat.lt_or_ge (n / 2 ^ d) (m / 2 ^ d) with g | g
  · split <;> split <;> omega
  · have e : n / 2 ^ d = m / 2 ^ d := Nat.le_antisymm hq g
    rw [e] at e1 ⊢
    generalize 2 ^ d * (m / 2 ^ d) = z at *
    generalize n % 2 ^ d = r at *
    generalize m % 2 ^ d = t at *
    generalize m / 2 ^ d = q at *
    generalize 2 ^ d = D at *
    have hr : r ≤ t := by omega
    by_cases c1 : D < 2 * r ∨ D = 2 * r ∧ (false = true ∨ q % 2 = 1)
    · rw [if_pos c1, if_pos]
      · exact Nat.le_refl _
      · rcases c1 with c | ⟨c, c2⟩
        · left; omega
        · rcases Nat.lt_or_ge r t with k | k
          · left; omega
          · right; exact ⟨by omega, c2⟩
    · rw [if_neg c1]; split <;> omega

def lastP (n : Nat) (p : Int) : Int := max (p + n.log2 - 52) (-1074)
def rungN (n : Nat) (p : Int) : Nat := if n = 0 then 0 else min ((lastP n p + 1074).toNat * 2 ^ 52 + rne (n * 2 ^ (p - lastP n p).toNat) false (lastP n p - p).toNat) double.infRung
theorem nearest_rung (s : Bool) (n : Nat) (p : Int) : double.nearest s n p = double.word s (rungN n p) := by
  by_cases h : n = 0
  · subst h; rw [Format.nearest, if_pos rfl, rungN, if_pos rfl]
  · rw [nearest_eq _ _ _ h]; unfold near2 rungN lastP; rw [if_neg h]
theorem rungN_le (n : Nat) (p : Int) : rungN n p ≤ 9218868437227405312 := by
  rw [← infRung_d]; unfold rungN; split
  · exact Nat.zero_le _
  · exact Nat.min_le_right _ _
theorem kept_hi (n : Nat) (p : Int) (hn : n ≠ 0) : rne (n * 2 ^ (p - lastP n p).toNat) false (lastP n p - p).toNat ≤ 2 ^ 53 := by
  have h1 := log2_hi hn
  have hL : p + n.log2 - 52 ≤ lastP n p := Int.le_max_left _ _
  generalize lastP n p = L at *
  have hb : n * 2 ^ (p - L).toNat / 2 ^ (L - p).toNat < 2 ^ 53 := by
    apply Nat.div_lt_of_lt_mul
    rw [← Nat.pow_add]
    have h2 : n * 2 ^ (p - L).toNat < 2 ^ (n.log2 + 1) * 2 ^ (p - L).toNat := Nat.mul_lt_mul_of_pos_right h1 (Nat.two_pow_pos _)
    rw [← Nat.pow_add] at h2
    exact Nat.lt_of_lt_of_le h2 (Nat.pow_le_pow_right (by omega) (by omega))
  have := rne_le (n * 2 ^ (p - L).toNat) false (L - p).toNat
  omega
theorem kept_lo (n : Nat) (p : Int) (hn : n ≠ 0) (h : -1074 < lastP n p) : 2 ^ 52 ≤ rne (n * 2 ^ (p - lastP n p).toNat) false (lastP n p - p).toNat := by
  have h1 := log2_lo hn
  have hL : lastP n p = p + n.log2 - 52 := by unfold lastP at *; omega
  generalize lastP n p = L at *
  have hb : 2 ^ 52 ≤ n * 2 ^ (p - L).toNat / 2 ^ (L - p).toNat := by
    rw [Nat.le_div_iff_mul_le (Nat.two_pow_pos _), ← Nat.pow_add]
    have h2 : 2 ^ n.log2 * 2 ^ (p - L).toNat ≤ n * 2 ^ (p - L).toNat := Nat.mul_le_mul_right _ h1
    rw [← Nat.pow_add] at h2
    exact Nat.le_trans (Nat.pow_le_pow_right (by omega) (by omega)) h2
  exact Nat.le_trans hb (le_rne _ _ _)
theorem min_mono {a b : Nat} (h : a ≤ b) (c : Nat) : min a c ≤ min b c := by omega
theorem kept_step (A B : Nat) (L M : Int) (k1 : A ≤ 9007199254740992) (k2 : 4503599627370496 ≤ B) (g : L < M) (h : -1074 ≤ L) : (L + 1074).toNat * 4503599627370496 + A ≤ (M + 1074).toNat * 4503599627370496 + B := by omega
theorem rung_mono {n m : Nat} (p : Int) (h : n ≤ m) : rungN n p ≤ rungN m p := by
  by_cases hn : n = 0
  · rw [rungN, if_pos hn]; exact Nat.zero_le _
  · have hm : m ≠ 0 := by omega
    have hl : n.log2 ≤ m.log2 := (le_log2' hm).2 (Nat.le_trans (log2_lo hn) h)
    have hL : lastP n p ≤ lastP m p := by unfold lastP; omega
    unfold rungN
    rw [if_neg hn, if_neg hm]
    have key : (lastP n p + 1074).toNat * 2 ^ 52 + rne (n * 2 ^ (p - lastP n p).toNat) false (lastP n p - p).toNat ≤ (lastP m p + 1074).toNat * 2 ^ 52 + rne (m * 2 ^ (p - lastP m p).toNat) false (lastP m p - p).toNat := by
      rcases Int.lt_or_le (lastP n p) (lastP m p) with g | g
      · have k1 := kept_hi n p hn
        have k2 := kept_lo m p hm (by have : -1074 ≤ lastP n p := Int.le_max_right _ _; omega)
        have : -1074 ≤ lastP n p := Int.le_max_right _ _
        have e53 : (2 : Nat) ^ 53 = 9007199254740992 := by decide
        have e52 : (2 : Nat) ^ 52 = 4503599627370496 := by decide
        rw [e53] at k1
        rw [e52] at k2 ⊢
        exact kept_step _ _ _ _ k1 k2 g this
      · have e : lastP n p = lastP m p := Int.le_antisymm hL g
        rw [e]
        exact Nat.add_le_add_left (rne_mono (Nat.mul_le_mul_right _ h)) _
    exact min_mono key _
/-- what stands behind a rounded whole number, with its sign. -/
def NT (s : Bool) (T p : Int) : Int := ((double.nearest (if T = 0 then s else decide (T < 0)) T.natAbs p : Nat) : Int)
theorem NT_facts (s : Bool) (T p : Int) : U64 (NT s T p) ∧ isNaN (NT s T p) = false ∧ SR (NT s T p) = if T < 0 then -(rungN T.natAbs p : Int) else (rungN T.natAbs p : Int) := by
  unfold NT
  have hr := rungN_le T.natAbs p
  rw [nearest_rung]
  have hw := word_int (if T = 0 then s else decide (T < 0)) (rungN T.natAbs p) (by omega)
  obtain ⟨h1, h2, h3⟩ := hw
  refine ⟨h1, word_num _ _ (by rw [infRung_d]; exact hr), ?_⟩
  unfold SR
  rw [h2, h3]
  by_cases h0 : T = 0
  · subst h0
    have : rungN (0 : Int).natAbs p = 0 := by rw [rungN, Int.natAbs_zero, if_pos rfl]
    rw [this, if_pos rfl]
    cases s <;> rfl
  · rw [if_neg h0]
    by_cases hn : T < 0
    · rw [if_pos hn, decide_eq_true hn, if_pos rfl]
    · rw [if_neg hn, decide_eq_false hn, if_neg (by decide)]
theorem NT_mono (s t : Bool) {T U p : Int} (h : T ≤ U) : SR (NT s T p) ≤ SR (NT t U p) := by
  rw [(NT_facts s T p).2.2, (NT_facts t U p).2.2]
  by_cases h1 : T < 0
  · rw [if_pos h1]
    by_cases h2 : U < 0
    · rw [if_pos h2]
      have := rung_mono (n := U.natAbs) (m := T.natAbs) p (by omega)
      omega
    · rw [if_neg h2]; omega
  · rw [if_neg h1, if_neg (by omega)]
    have := rung_mono (n := T.natAbs) (m := U.natAbs) p (by omega)
    omega
/-- Less is the order of the bits with their signs. -/
theorem LessG_SR {a b : Int} (ha : U64 a) (hb : U64 b) (na : isNaN a = false) (nb : isNaN b = false) : LessG a b = decide (SR a < SR b) := by
  rw [← Less_ok ha hb, order_SR ha hb na nb]
  rcases cmp_cases (SR a) (SR b) with ⟨h, e⟩ | ⟨h, e⟩ | ⟨h, e⟩
  · rw [e, decide_eq_true h]; rfl
  · rw [e, decide_eq_false (by omega)]; rfl
  · rw [e, decide_eq_false (by omega)]; rfl
end Fp
namespace Fp
open Go Go.RowKit Ieee
set_option linter.unusedVariables false
set_option linter.unusedSimpArgs false

theorem sum_comm (x y : Datum) : x.sum y = y.sum x := by
  cases x <;> cases y <;> simp only [Datum.sum]
  · rename_i s m i t n j
    rw [Int.min_comm, Int.add_comm, Bool.and_comm]
  · rename_i s t
    by_cases h : s = t
    · subst h; rfl
    · rw [if_neg h, if_neg (fun g => h g.symm)]
theorem product_comm (x y : Datum) : x.product y = y.product x := by
  cases x <;> cases y <;> simp only [Datum.product]
  all_goals first
    | done
    | rw [Bool.xor_comm, Nat.mul_comm, Int.add_comm]
    | rw [Bool.xor_comm]
theorem add_comm' {a b : Int} (ha : U64 a) (hb : U64 b) : AddG a b = AddG b a := by
  rw [add_ok ha hb, add_ok hb ha, Format.add, Format.add, sum_comm]
theorem mul_comm' {a b : Int} (ha : U64 a) (hb : U64 b) : MulG a b = MulG b a := by
  rw [mul_ok ha hb, mul_ok hb ha, Format.mul, Format.mul, product_comm]
theorem add_nan {a b : Int} (h : isNaN a = true) : AddG a b = 9221120237041090560 := by simp [AddG, h]
theorem rem_nan {a b : Int} (h : isNaN a = true) : RemG b a = 9221120237041090560 := by simp [RemG, h]
theorem equal_nan {a b : Int} (h : isNaN a = true) : EqualG a b = false := by simp [EqualG, h]

/-- a finite one. -/
def Fin' (a : Int) : Prop := sz a < 9218868437227405312
theorem fin_of {a : Int} (hn : isNaN a = false) (hi : isInf a = false) : Fin' a := by
  have h1 : ¬ 9218868437227405312 < sz a := by rw [← nan_iff']; simp [hn]
  have h2 : ¬ sz a = 9218868437227405312 := by rw [← inf_iff]; simp [hi]
  unfold Fin'; omega
theorem fin_num {a : Int} (h : Fin' a) : isNaN a = false ∧ isInf a = false := by
  unfold Fin' at h
  constructor
  · rw [Bool.eq_false_iff]; intro c; rw [nan_iff'] at c; omega
  · rw [Bool.eq_false_iff]; intro c; rw [inf_iff] at c; omega
theorem SV_abs (a : Int) : (SV a).natAbs = V a := by unfold SV; split <;> omega

theorem add_total {a c : Int} (ha : U64 a) (hc : U64 c) (fa : Fin' a) (fc : Fin' c) : AddG a c = NT (ngb a && ngb c) (SV a + SV c) (-1074) := by
  rw [add_ok ha hc, Format.add, read_fin ha fa, read_fin hc fc]
  have pa := pl_bd ha
  have pc := pl_bd hc
  simp only [Datum.sum, Option.map_some, Format.write, ofO]
  unfold NT
  generalize hb : min (pl a) (pl c) = base
  have e1 := signed_SV (ngb a) (mant a).toNat (pl a) base (by omega) (by omega)
  have e2 := signed_SV (ngb c) (mant c).toNat (pl c) base (by omega) (by omega)
  have E1 : signed (ngb a) (mant a).toNat (pl a - base).toNat * ((2 ^ (base + 1074).toNat : Nat) : Int) = SV a := e1
  have E2 : signed (ngb c) (mant c).toNat (pl c - base).toNat * ((2 ^ (base + 1074).toNat : Nat) : Int) = SV c := e2
  rw [near_total _ _ base (-1074) (by omega), show base - -1074 = base + 1074 by omega, Int.add_mul, E1, E2]
  have hs : SV a + SV c = (signed (ngb a) (mant a).toNat (pl a - base).toNat + signed (ngb c) (mant c).toNat (pl c - base).toNat) * ((2 ^ (base + 1074).toNat : Nat) : Int) := by rw [Int.add_mul, E1, E2]
  have hp : (0 : Int) < ((2 ^ (base + 1074).toNat : Nat) : Int) := by have := Nat.two_pow_pos (base + 1074).toNat; omega
  generalize signed (ngb a) (mant a).toNat (pl a - base).toNat + signed (ngb c) (mant c).toNat (pl c - base).toNat = t at *
  generalize ((2 ^ (base + 1074).toNat : Nat) : Int) = P at *
  congr 2
  by_cases h0 : t = 0
  · have : SV a + SV c = 0 := by rw [hs, h0, Int.zero_mul]
    rw [if_pos h0, if_pos this]
  · have n0 : SV a + SV c ≠ 0 := by rw [hs]; exact Int.mul_ne_zero h0 (by omega)
    rw [if_neg h0, if_neg n0, decide_eq_decide, hs]
    constructor
    · intro g; exact Int.mul_neg_of_neg_of_pos g hp
    · intro g
      rcases Int.lt_or_le t 0 with k | k
      · exact k
      · have := Int.mul_nonneg k (Int.le_of_lt hp); omega
theorem mul_total {a c : Int} (ha : U64 a) (hc : U64 c) (fa : Fin' a) (fc : Fin' c) : MulG a c = NT (ngb a ^^ ngb c) (SV a * SV c) (-2148) := by
  rw [mul_ok ha hc, Format.mul, read_fin ha fa, read_fin hc fc]
  have pa := pl_bd ha
  have pc := pl_bd hc
  simp only [Datum.product, Option.map_some, Format.write, ofO]
  unfold NT
  rw [Int.natAbs_mul, SV_abs, SV_abs]
  have e : V a * V c = (mant a).toNat * (mant c).toNat * 2 ^ ((pl a + 1074).toNat + (pl c + 1074).toNat) := by
    unfold V; rw [Nat.mul_mul_mul_comm, ← Nat.pow_add]
  rw [e, nearest_scale, show -2148 + (((pl a + 1074).toNat + (pl c + 1074).toNat : Nat) : Int) = pl a + pl c by omega]
  by_cases h0 : SV a * SV c = 0
  · rw [if_pos h0]
  · rw [if_neg h0]
    have ha0 : SV a ≠ 0 := fun g => h0 (by rw [g, Int.zero_mul])
    have hc0 : SV c ≠ 0 := fun g => h0 (by rw [g, Int.mul_zero])
    have hs : (ngb a ^^ ngb c) = decide (SV a * SV c < 0) := by
      have va : 0 < V a := by have := SV_abs a; omega
      have vc : 0 < V c := by have := SV_abs c; omega
      have vv : (0 : Int) < V a * V c := Int.mul_pos (by omega) (by omega)
      unfold SV
      cases ngb a <;> cases ngb c <;> simp only [Bool.false_eq_true, if_false, if_true]
      · rw [decide_eq_false (by omega)]; rfl
      · rw [Int.mul_neg, decide_eq_true (by omega)]; rfl
      · rw [Int.neg_mul, decide_eq_true (by omega)]; rfl
      · rw [Int.neg_mul_neg, decide_eq_false (by omega)]; rfl
    rw [hs]
theorem SR_hi {a : Int} (ha : U64 a) (hn : isNaN a = false) : -9218868437227405312 ≤ SR a ∧ SR a ≤ 9218868437227405312 := by
  have h1 : ¬ 9218868437227405312 < sz a := by rw [← nan_iff']; simp [hn]
  have := sz_nonneg ha
  unfold SR; split <;> omega
theorem less_parts {a b : Int} (ha : U64 a) (hb : U64 b) (h : LessG a b = true) : isNaN a = false ∧ isNaN b = false ∧ SR a < SR b := by
  cases na : isNaN a
  · cases nb : isNaN b
    · rw [LessG_SR ha hb na nb] at h; exact ⟨rfl, rfl, of_decide_eq_true h⟩
    · simp [LessG, nb] at h
  · simp [LessG, na] at h
theorem less_not {a b : Int} (ha : U64 a) (hb : U64 b) (h : isNaN a = false → isNaN b = false → SR b ≤ SR a) : LessG a b = false := by
  cases hl : LessG a b
  · rfl
  · obtain ⟨h1, h2, h3⟩ := less_parts ha hb hl
    have := h h1 h2; omega
theorem NaN_u64 : U64 9221120237041090560 := ⟨by decide, by decide⟩
theorem add_u64 {a c : Int} (ha : U64 a) (hc : U64 c) : U64 (AddG a c) := by
  rw [add_ok ha hc]
  cases h : double.add a.toNat c.toNat with
  | none => exact NaN_u64
  | some r =>
    have := Format.add_lt double h
    have e : (2 : Nat) ^ double.width = 18446744073709551616 := by decide
    rw [e] at this
    exact ⟨by show (0 : Int) ≤ (r : Int); omega, by show (r : Int) < _; omega⟩
theorem mul_u64 {a c : Int} (ha : U64 a) (hc : U64 c) : U64 (MulG a c) := by
  rw [mul_ok ha hc]
  cases h : double.mul a.toNat c.toNat with
  | none => exact NaN_u64
  | some r =>
    have := Format.mul_lt double h
    have e : (2 : Nat) ^ double.width = 18446744073709551616 := by decide
    rw [e] at this
    exact ⟨by show (0 : Int) ≤ (r : Int); omega, by show (r : Int) < _; omega⟩
/-- sums do not fall where one part rises. -/
theorem add_mono {a b c : Int} (ha : U64 a) (hb : U64 b) (hc : U64 c) (h : LessG a b = true) (nc : isNaN c = false) (ic : isInf c = false) : LessG (AddG b c) (AddG a c) = false := by
  obtain ⟨na, nb, hl⟩ := less_parts ha hb h
  apply less_not (add_u64 hb hc) (add_u64 ha hc)
  intro n1 n2
  have fc := fin_of nc ic
  cases ib : isInf b
  · cases ia : isInf a
    · rw [add_total ha hc (fin_of na ia) fc, add_total hb hc (fin_of nb ib) fc]
      have := (SV_SR ha hb).2 hl
      exact NT_mono _ _ (by omega)
    · have e : AddG a c = a := by
        have : (c == Go.bits .xor .u64 a 9223372036854775808) = false := by
          rw [beq_eq_false_iff_ne]; intro g
          have k := (flip_facts ha).2.1
          rw [← g, inf_iff.1 ia] at k
          have := fc; unfold Fin' at this; omega
        simp [AddG, na, nc, ia, this]
      have si := inf_iff.1 ia
      have bb := SR_hi hb nb
      have : SR a = -9218868437227405312 := by
        unfold SR; rw [si]
        split
        · rfl
        · rename_i g; have : SR a = 9218868437227405312 := by unfold SR; rw [if_neg g, si]
          omega
      rw [e, this]
      exact (SR_hi (add_u64 hb hc) n1).1
  · have e : AddG b c = b := by
      have : (c == Go.bits .xor .u64 b 9223372036854775808) = false := by
        rw [beq_eq_false_iff_ne]; intro g
        have k := (flip_facts hb).2.1
        rw [← g, inf_iff.1 ib] at k
        have := fc; unfold Fin' at this; omega
      simp [AddG, nb, nc, ib, this]
    have si := inf_iff.1 ib
    have bb := SR_hi ha na
    have : SR b = 9218868437227405312 := by
      unfold SR; rw [si]
      split
      · rename_i g; have : SR b = -9218868437227405312 := by unfold SR; rw [if_pos g, si]
        omega
      · rfl
    rw [e, this]
    exact (SR_hi (add_u64 ha hc) n2).2
end Fp
namespace Fp
open Go Go.RowKit Ieee
set_option linter.unusedVariables false
set_option linter.unusedSimpArgs false

theorem SR_zero : SR 0 = 0 := by decide +kernel
theorem zero_u64 : U64 0 := ⟨by decide, by decide⟩
theorem SV_zero : SV 0 = 0 := by decide +kernel
theorem inf_facts : U64 9218868437227405312 ∧ SR 9218868437227405312 = 9218868437227405312 := by
  have h : U64 9218868437227405312 := ⟨by decide, by decide⟩
  refine ⟨h, ?_⟩
  unfold SR ngb
  rw [sz_eq h, decide_eq_false (by omega), if_neg (by decide)]
  omega
theorem ninf_facts : U64 18442240474082181120 ∧ SR 18442240474082181120 = -9218868437227405312 := by
  have h : U64 18442240474082181120 := ⟨by decide, by decide⟩
  refine ⟨h, ?_⟩
  unfold SR ngb
  rw [sz_eq h, decide_eq_true (by omega), if_pos rfl]
  omega
theorem sgn_inf : sgnG true 9218868437227405312 = 18442240474082181120 := by
  rw [sgn_eq (by decide) (by decide), if_pos rfl]; omega
theorem less_zero {c : Int} (hc : U64 c) (h : LessG 0 c = true) : isNaN c = false ∧ ngb c = false ∧ isZ c = false ∧ 0 < SV c := by
  obtain ⟨h1, h2, h3⟩ := less_parts zero_u64 hc h
  rw [SR_zero] at h3
  have h4 := (SV_SR zero_u64 hc).2 (by rw [SR_zero]; exact h3)
  rw [SV_zero] at h4
  refine ⟨h2, ?_, ?_, h4⟩
  · have := sz_nonneg hc
    unfold SR at h3
    cases hn : ngb c
    · rfl
    · rw [hn, if_pos rfl] at h3; omega
  · rw [Bool.eq_false_iff]; intro g
    rw [isZ_iff] at g
    unfold SR at h3; rw [g] at h3
    split at h3 <;> omega
/-- products with one above 0 do not fall where the other part rises. -/
theorem mul_mono {a b c : Int} (ha : U64 a) (hb : U64 b) (hc : U64 c) (h : LessG a b = true) (ic : isInf c = false) (hp : LessG 0 c = true) : LessG (MulG b c) (MulG a c) = false := by
  obtain ⟨na, nb, hl⟩ := less_parts ha hb h
  obtain ⟨nc, gc, zc, vc⟩ := less_zero hc hp
  apply less_not (mul_u64 hb hc) (mul_u64 ha hc)
  intro n1 n2
  have fc := fin_of nc ic
  cases ib : isInf b
  · cases ia : isInf a
    · rw [mul_total ha hc (fin_of na ia) fc, mul_total hb hc (fin_of nb ib) fc]
      have := (SV_SR ha hb).2 hl
      exact NT_mono _ _ (Int.mul_le_mul_of_nonneg_right (by omega) (by omega))
    · have si := inf_iff.1 ia
      have bb := SR_hi hb nb
      have ga : ngb a = true := by
        cases g : ngb a
        · have : SR a = 9218868437227405312 := by unfold SR; rw [g, if_neg (by decide), si]
          omega
        · rfl
      have e : MulG a c = 18442240474082181120 := by
        have X := ngX_eq ha hc
        rw [ga, gc] at X
        have : MulG a c = sgnG (ngX a c) 9218868437227405312 := by simp [MulG, na, nc, ia, ic, zc]
        rw [this, X]; exact sgn_inf
      rw [e, ninf_facts.2]
      exact (SR_hi (mul_u64 hb hc) n1).1
  · have si := inf_iff.1 ib
    have bb := SR_hi ha na
    have gb : ngb b = false := by
      cases g : ngb b
      · rfl
      · have : SR b = -9218868437227405312 := by unfold SR; rw [g, if_pos rfl, si]
        omega
    have e : MulG b c = 9218868437227405312 := by
      have X := ngX_eq hb hc
      rw [gb, gc] at X
      have : MulG b c = sgnG (ngX b c) 9218868437227405312 := by simp [MulG, nb, nc, ib, ic, zc]
      rw [this, X]; rfl
    rw [e, inf_facts.2]
    exact (SR_hi (mul_u64 ha hc) n2).2
theorem neg_num {a : Int} (ha : U64 a) (h : isNaN a = false) : isNaN (negG a) = false ∧ sz (negG a) = sz a ∧ ngb (negG a) = (!ngb a) ∧ U64 (negG a) := by
  obtain ⟨f1, f2, f3⟩ := flip_facts ha
  have e : negG a = Go.bits .xor .u64 a 9223372036854775808 := by unfold negG; rw [h]; rfl
  rw [e]
  refine ⟨?_, f2, f3, f1⟩
  rw [Bool.eq_false_iff] at h ⊢
  intro c; apply h; rw [nan_iff'] at c ⊢; omega
theorem neg_neg' {a : Int} (ha : U64 a) (h : isNaN a = false) : negG (negG a) = a := by
  obtain ⟨f1, f2, f3, f4⟩ := neg_num ha h
  have e : negG a = Go.bits .xor .u64 a 9223372036854775808 := by unfold negG; rw [h]; rfl
  have key : ∀ b, isNaN b = false → negG b = Go.bits .xor .u64 b 9223372036854775808 := fun b hb => if_neg (by rw [hb]; decide)
  have e2 := key _ f1
  rw [e2, xorS f4, e, xorS ha]
  have := ha.lo
  have := ha.hi
  split <;> split <;> omega
theorem V_sz {a b : Int} (ha : U64 a) (hb : U64 b) (h : sz a = sz b) : V a = V b := by rw [V_vr ha, V_vr hb, h]
theorem sub_self' {a : Int} (ha : U64 a) (h : isNaN a = false) (hi : isInf a = false) : SubG a a = 0 := by
  obtain ⟨f1, f2, f3, f4⟩ := neg_num ha h
  have fa := fin_of h hi
  have fn : Fin' (negG a) := by unfold Fin' at *; omega
  unfold SubG
  rw [add_total ha f4 fa fn]
  have : SV a + SV (negG a) = 0 := by
    unfold SV; rw [f3, V_sz f4 ha f2]
    cases ngb a <;> simp <;> omega
  rw [this, f3]
  cases ngb a <;> decide +kernel
theorem sub_sub' {a : Int} (ha : U64 a) (h : isNaN a = false) : SubG 0 (SubG 0 a) = AddG a 0 := by
  obtain ⟨f1, f2, f3, f4⟩ := neg_num ha h
  have z0 : isZ 0 = true := by decide +kernel
  have n0 : isNaN 0 = false := by decide +kernel
  have i0 : isInf 0 = false := by decide +kernel
  cases hz : isZ a
  · have e1 : ∀ b, isNaN b = false → isZ b = false → AddG 0 b = b := by
      intro b hn hb; simp [AddG, z0, n0, i0, hn, hb]
    have e2 : AddG a 0 = a := by
      have : ((0 : Int) == Go.bits .xor .u64 a 9223372036854775808) = false := by
        rw [beq_eq_false_iff_ne]; intro g
        have k := (flip_facts ha).2.1
        have z := isZ_iff.1 z0
        rw [← g, z] at k
        rw [isZ_iff.2 k.symm] at hz; cases hz
      simp [AddG, z0, n0, i0, h, hz, this]
    have nz : isZ (negG a) = false := by
      rw [Bool.eq_false_iff] at hz ⊢
      intro c; apply hz; rw [isZ_iff] at c ⊢; omega
    unfold SubG
    rw [e1 _ f1 nz, neg_neg' ha h, e1 _ h hz, e2]
  · have es := sz_eq ha
    have := isZ_iff.1 hz
    have := ha.lo
    have := ha.hi
    have ca : a = 0 ∨ a = 9223372036854775808 := by omega
    rcases ca with rfl | rfl <;> decide +kernel
theorem rem_self {a : Int} (ha : U64 a) (h : isNaN a = false) (hi : isInf a = false) (hz : isZ a = false) : EqualG (RemG a a) 0 = true := by
  have e : RemG a a = sgnG (ngb a) 0 := by
    have : RemG a a = if sz a < sz a then a else sgnG (ngb a) (NearG (oman a / 2048 * 2 ^ (oexp a - oexp a).toNat % (oman a / 2048)) (oexp a + 11) false) := by simp [RemG, h, hi, hz]
    rw [this, if_neg (by omega), Int.sub_self]
    rw [show (0 : Int).toNat = 0 from rfl, Int.pow_zero, Int.mul_one, Int.emod_self]
    rfl
  rw [e]
  cases ngb a <;> decide +kernel
theorem div_one {a : Int} (ha : U64 a) (h : isNaN a = false) : DivG a 4607182418800017408 = a := by
  have hO : U64 4607182418800017408 := ⟨by decide, by decide⟩
  have k1 : kindS 4607182418800017408 = 1 := by decide +kernel
  have gO : ngb 4607182418800017408 = false := by decide +kernel
  have oO : oman 4607182418800017408 = 9223372036854775808 := by decide +kernel
  have xO : oexp 4607182418800017408 = -63 := by decide +kernel
  have X := ngX_eq ha hO
  rw [gO, Bool.xor_false] at X
  rcases kind_cases a with ⟨ka, za⟩ | ⟨ka, za, fa⟩ | ⟨ka, ia⟩ | ⟨ka, na, na2⟩
  · have E : DivG a 4607182418800017408 = sgnG (ngX a 4607182418800017408) 0 := by simp [DivG, isNaN, isInf, isZ, ka, k1]
    rw [E, X]
    have := sgn_sz ha
    rw [za] at this; exact this
  · have E : DivG a 4607182418800017408 = divF (ngX a 4607182418800017408) (oman a) (oexp a) (oman 4607182418800017408) (oexp 4607182418800017408) := by simp [DivG, isNaN, isInf, isZ, ka, k1]
    have op := opened ha za
    have s := self_near ha za fa
    have o1 := op.lo
    have o2 := op.hi
    obtain ⟨x0, x1⟩ := oexp_bd ha
    rw [E, X, oO, xO]
    unfold divF
    rw [if_pos o1, Int.mul_ediv_cancel _ (by decide), Int.mul_emod_left]
    obtain ⟨n, hn⟩ := Int.eq_ofNat_of_zero_le (show 0 ≤ oman a by omega)
    rw [hn] at o1 o2 s ⊢
    rw [show ((0 : Int) != 0) = false from rfl, nearG_eq _ _ _ _ (by omega) (by omega) (by omega) (by omega)]
    rw [Int.toNat_natCast] at s
    rw [show oexp a - -63 - 64 + 1 = oexp a by omega]
    exact s
  · have E : DivG a 4607182418800017408 = sgnG (ngX a 4607182418800017408) 9218868437227405312 := by simp [DivG, isNaN, isInf, isZ, ka, k1]
    rw [E, X]
    have := sgn_sz ha
    rw [ia] at this; exact this
  · exfalso
    simp [isNaN, ka] at h
end Fp
