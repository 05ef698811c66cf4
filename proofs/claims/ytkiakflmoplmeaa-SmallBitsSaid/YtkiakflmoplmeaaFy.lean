/- Plain facts: the laws of sums and products of package soft. -/
import Derived.Test.YtkiakflmoplmeaaFx
import Derived.Test.YtkiakflmoplmeaaFv
import Derived.Laws.FloatBits
namespace Fp
open Go Go.RowKit Ieee
set_option linter.unusedVariables false
set_option linter.unusedSimpArgs false

theorem sum_comm (x y : Datum) : x.sum y = y.sum x := by
  cases x <;> cases y <;> simp only [Datum.sum]
  · rename_i s m i t n j
    rw [Int.min_comm, Int.add_comm, Bool.and_comm]
  · rename_i s t
    by_cases h : s = t
    · subst h; rfl
    · rw [if_neg h, if_neg (fun g => h g.symm)]
theorem product_comm (x y : Datum) : x.product y = y.product x := by
  cases x <;> cases y <;> simp only [Datum.product]
  all_goals first
    | done
    | rw [Bool.xor_comm, Nat.mul_comm, Int.add_comm]
    | rw [Bool.xor_comm]
theorem add_comm' {a b : Int} (ha : U64 a) (hb : U64 b) : AddG a b = AddG b a := by
  rw [add_ok ha hb, add_ok hb ha, Format.add, Format.add, sum_comm]
theorem mul_comm' {a b : Int} (ha : U64 a) (hb : U64 b) : MulG a b = MulG b a := by
  rw [mul_ok ha hb, mul_ok hb ha, Format.mul, Format.mul, product_comm]
theorem add_nan {a b : Int} (h : isNaN a = true) : AddG a b = 9221120237041090560 := by simp [AddG, h]
theorem rem_nan {a b : Int} (h : isNaN a = true) : RemG b a = 9221120237041090560 := by simp [RemG, h]
theorem equal_nan {a b : Int} (h : isNaN a = true) : EqualG a b = false := by simp [EqualG, h]

/-- a finite one. -/
def Fin' (a : Int) : Prop := sz a < 9218868437227405312
theorem fin_of {a : Int} (hn : isNaN a = false) (hi : isInf a = false) : Fin' a := by
  have h1 : ¬ 9218868437227405312 < sz a := by rw [← nan_iff']; simp [hn]
  have h2 : ¬ sz a = 9218868437227405312 := by rw [← inf_iff]; simp [hi]
  unfold Fin'; omega
theorem fin_num {a : Int} (h : Fin' a) : isNaN a = false ∧ isInf a = false := by
  unfold Fin' at h
  constructor
  · rw [Bool.eq_false_iff]; intro c; rw [nan_iff'] at c; omega
  · rw [Bool.eq_false_iff]; intro c; rw [inf_iff] at c; omega
theorem SV_abs (a : Int) : (SV a).natAbs = V a := by unfold SV; split <;> omega

theorem add_total {a c : Int} (ha : U64 a) (hc : U64 c) (fa : Fin' a) (fc : Fin' c) : AddG a c = NT (ngb a && ngb c) (SV a + SV c) (-1074) := by
  rw [add_ok ha hc, Format.add, read_fin ha fa, read_fin hc fc]
  have pa := pl_bd ha
  have pc := pl_bd hc
  simp only [Datum.sum, Option.map_some, Format.write, ofO]
  unfold NT
  generalize hb : min (pl a) (pl c) = base
  have e1 := signed_SV (ngb a) (mant a).toNat (pl a) base (by omega) (by omega)
  have e2 := signed_SV (ngb c) (mant c).toNat (pl c) base (by omega) (by omega)
  have E1 : signed (ngb a) (mant a).toNat (pl a - base).toNat * ((2 ^ (base + 1074).toNat : Nat) : Int) = SV a := e1
  have E2 : signed (ngb c) (mant c).toNat (pl c - base).toNat * ((2 ^ (base + 1074).toNat : Nat) : Int) = SV c := e2
  rw [near_total _ _ base (-1074) (by omega), show base - -1074 = base + 1074 by omega, Int.add_mul, E1, E2]
  have hs : SV a + SV c = (signed (ngb a) (mant a).toNat (pl a - base).toNat + signed (ngb c) (mant c).toNat (pl c - base).toNat) * ((2 ^ (base + 1074).toNat : Nat) : Int) := by rw [Int.add_mul, E1, E2]
  have hp : (0 : Int) < ((2 ^ (base + 1074).toNat : Nat) : Int) := by have := Nat.two_pow_pos (base + 1074).toNat; omega
  generalize signed (ngb a) (mant a).toNat (pl a - base).toNat + signed (ngb c) (mant c).toNat (pl c - base).toNat = t at *
  generalize ((2 ^ (base + 1074).toNat : Nat) : Int) = P at *
  congr 2
  by_cases h0 : t = 0
  · have : SV a + SV c = 0 := by rw [hs, h0, Int.zero_mul]
    rw [if_pos h0, if_pos this]
  · have n0 : SV a + SV c ≠ 0 := by rw [hs]; exact Int.mul_ne_zero h0 (by omega)
    rw [if_neg h0, if_neg n0, decide_eq_decide, hs]
    constructor
    · intro g; exact Int.mul_neg_of_neg_of_pos g hp
    · intro g
      rcases Int.lt_or_le t 0 with k | k
      · exact k
      · have := Int.mul_nonneg k (Int.le_of_lt hp); omega
theorem mul_total {a c : Int} (ha : U64 a) (hc : U64 c) (fa : Fin' a) (fc : Fin' c) : MulG a c = NT (ngb a ^^ ngb c) (SV a * SV c) (-2148) := by
  rw [mul_ok ha hc, Format.mul, read_fin ha fa, read_fin hc fc]
  have pa := pl_bd ha
  have pc := pl_bd hc
  simp only [Datum.product, Option.map_some, Format.write, ofO]
  unfold NT
  rw [Int.natAbs_mul, SV_abs, SV_abs]
  have e : V a * V c = (mant a).toNat * (mant c).toNat * 2 ^ ((pl a + 1074).toNat + (pl c + 1074).toNat) := by
    unfold V; rw [Nat.mul_mul_mul_comm, ← Nat.pow_add]
  rw [e, nearest_scale, show -2148 + (((pl a + 1074).toNat + (pl c + 1074).toNat : Nat) : Int) = pl a + pl c by omega]
  by_cases h0 : SV a * SV c = 0
  · rw [if_pos h0]
  · rw [if_neg h0]
    have ha0 : SV a ≠ 0 := fun g => h0 (by rw [g, Int.zero_mul])
    have hc0 : SV c ≠ 0 := fun g => h0 (by rw [g, Int.mul_zero])
    have hs : (ngb a ^^ ngb c) = decide (SV a * SV c < 0) := by
      have va : 0 < V a := by have := SV_abs a; omega
      have vc : 0 < V c := by have := SV_abs c; omega
      have vv : (0 : Int) < V a * V c := Int.mul_pos (by omega) (by omega)
      unfold SV
      cases ngb a <;> cases ngb c <;> simp only [Bool.false_eq_true, if_false, if_true]
      · rw [decide_eq_false (by omega)]; rfl
      · rw [Int.mul_neg, decide_eq_true (by omega)]; rfl
      · rw [Int.neg_mul, decide_eq_true (by omega)]; rfl
      · rw [Int.neg_mul_neg, decide_eq_false (by omega)]; rfl
    rw [hs]
theorem SR_hi {a : Int} (ha : U64 a) (hn : isNaN a = false) : -9218868437227405312 ≤ SR a ∧ SR a ≤ 9218868437227405312 := by
  have h1 : ¬ 9218868437227405312 < sz a := by rw [← nan_iff']; simp [hn]
  have := sz_nonneg ha
  unfold SR; split <;> omega
theorem less_parts {a b : Int} (ha : U64 a) (hb : U64 b) (h : LessG a b = true) : isNaN a = false ∧ isNaN b = false ∧ SR a < SR b := by
  cases na : isNaN a
  · cases nb : isNaN b
    · rw [LessG_SR ha hb na nb] at h; exact ⟨rfl, rfl, of_decide_eq_true h⟩
    · simp [LessG, nb] at h
  · simp [LessG, na] at h
theorem less_not {a b : Int} (ha : U64 a) (hb : U64 b) (h : isNaN a = false → isNaN b = false → SR b ≤ SR a) : LessG a b = false := by
  cases hl : LessG a b
  · rfl
  · obtain ⟨h1, h2, h3⟩ := less_parts ha hb hl
    have := h h1 h2; omega
theorem NaN_u64 : U64 9221120237041090560 := ⟨by decide, by decide⟩
theorem add_u64 {a c : Int} (ha : U64 a) (hc : U64 c) : U64 (AddG a c) := by
  rw [add_ok ha hc]
  cases h : double.add a.toNat c.toNat with
  | none => exact NaN_u64
  | some r =>
    have := Format.add_lt double h
    have e : (2 : Nat) ^ double.width = 18446744073709551616 := by decide
    rw [e] at this
    exact ⟨by show (0 : Int) ≤ (r : Int); omega, by show (r : Int) < _; omega⟩
theorem mul_u64 {a c : Int} (ha : U64 a) (hc : U64 c) : U64 (MulG a c) := by
  rw [mul_ok ha hc]
  cases h : double.mul a.toNat c.toNat with
  | none => exact NaN_u64
  | some r =>
    have := Format.mul_lt double h
    have e : (2 : Nat) ^ double.width = 18446744073709551616 := by decide
    rw [e] at this
    exact ⟨by show (0 : Int) ≤ (r : Int); omega, by show (r : Int) < _; omega⟩
/-- sums do not fall where one part rises. -/
theorem add_mono {a b c : Int} (ha : U64 a) (hb : U64 b) (hc : U64 c) (h : LessG a b = true) (nc : isNaN c = false) (ic : isInf c = false) : LessG (AddG b c) (AddG a c) = false := by
  obtain ⟨na, nb, hl⟩ := less_parts ha hb h
  apply less_not (add_u64 hb hc) (add_u64 ha hc)
  intro n1 n2
  have fc := fin_of nc ic
  cases ib : isInf b
  · cases ia : isInf a
    · rw [add_total ha hc (fin_of na ia) fc, add_total hb hc (fin_of nb ib) fc]
      have := (SV_SR ha hb).2 hl
      exact NT_mono _ _ (by omega)
    · have e : AddG a c = a := by
        have : (c == Go.bits .xor .u64 a 9223372036854775808) = false := by
          rw [beq_eq_false_iff_ne]; intro g
          have k := (flip_facts ha).2.1
          rw [← g, inf_iff.1 ia] at k
          have := fc; unfold Fin' at this; omega
        simp [AddG, na, nc, ia, this]
      have si := inf_iff.1 ia
      have bb := SR_hi hb nb
      have : SR a = -9218868437227405312 := by
        unfold SR; rw [si]
        split
        · rfl
        · rename_i g; have : SR a = 9218868437227405312 := by unfold SR; rw [if_neg g, si]
          omega
      rw [e, this]
      exact (SR_hi (add_u64 hb hc) n1).1
  · have e : AddG b c = b := by
      have : (c == Go.bits .xor .u64 b 9223372036854775808) = false := by
        rw [beq_eq_false_iff_ne]; intro g
        have k := (flip_facts hb).2.1
        rw [← g, inf_iff.1 ib] at k
        have := fc; unfold Fin' at this; omega
      simp [AddG, nb, nc, ib, this]
    have si := inf_iff.1 ib
    have bb := SR_hi ha na
    have : SR b = 9218868437227405312 := by
      unfold SR; rw [si]
      split
      · rename_i g; have : SR b = -9218868437227405312 := by unfold SR; rw [if_pos g, si]
        omega
      · rfl
    rw [e, this]
    exact (SR_hi (add_u64 ha hc) n2).2
end Fp
