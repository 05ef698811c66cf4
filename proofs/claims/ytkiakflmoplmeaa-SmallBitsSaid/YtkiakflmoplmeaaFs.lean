/- Plain facts: Mul, Div of package soft are the model's. -/
import Derived.Test.YtkiakflmoplmeaaFp
import Derived.Test.YtkiakflmoplmeaaFr
namespace Fp
open Go Go.RowKit Ieee
set_option linter.unusedVariables false
set_option linter.unusedSimpArgs false

theorem top_bit {n : Nat} (h : n < 18446744073709551616) : n.testBit 63 = decide (9223372036854775808 ≤ (n : Int)) := by
  rw [Nat.testBit_eq_decide_div_mod_eq]
  have e : (2 : Nat) ^ 63 = 9223372036854775808 := by decide
  rw [e]
  by_cases c : 9223372036854775808 ≤ (n : Int)
  · rw [decide_eq_true c, decide_eq_true (by omega)]
  · rw [decide_eq_false c, decide_eq_false (by omega)]
theorem and_top (k : Nat) : k &&& 2 ^ 63 = if k.testBit 63 then 2 ^ 63 else 0 := by
  apply Nat.eq_of_testBit_eq
  intro j
  rw [Nat.testBit_and, Nat.testBit_two_pow]
  by_cases hj : 63 = j
  · subst hj
    cases hb : k.testBit 63
    · rw [if_neg (by decide), Nat.zero_testBit]; rfl
    · rw [if_pos rfl, Nat.testBit_two_pow]; rfl
  · cases hb : k.testBit 63
    · rw [if_neg (by decide), Nat.zero_testBit, decide_eq_false hj, Bool.and_false]
    · rw [if_pos rfl, Nat.testBit_two_pow, decide_eq_false hj, Bool.and_false]
theorem ngX_eq {a b : Int} (ha : U64 a) (hb : U64 b) : ngX a b = (ngb a ^^ ngb b) := by
  have a0 := ha.lo
  have a1 := ha.hi
  have b0 := hb.lo
  have b1 := hb.hi
  obtain ⟨n, rfl⟩ := Int.eq_ofNat_of_zero_le a0
  obtain ⟨m, rfl⟩ := Int.eq_ofNat_of_zero_le b0
  have hx : n ^^^ m < 2 ^ 64 := Nat.xor_lt_two_pow (by omega) (by omega)
  have e1 := bits_xor64 n m (by omega) (by omega)
  have e2 := bits_and64 (n ^^^ m) (2 ^ 63) hx (by decide)
  unfold ngX ngb
  rw [e1]
  rw [← e63] at e2
  rw [e2, and_top, Nat.testBit_xor, top_bit (by omega), top_bit (by omega)]
  rw [← Int.natCast_zero]
  have p63 : (2 : Nat) ^ 63 ≠ 0 := by decide
  generalize (2 : Nat) ^ 63 = p at p63
  clear e1 e2 hx
  cases decide (9223372036854775808 ≤ (n : Int)) <;> cases decide (9223372036854775808 ≤ (m : Int)) <;> simp [p63]

theorem mulF_eq (ng : Bool) (X Y : Nat) (x y : Int) (X0 : 9223372036854775808 ≤ X) (X1 : X < 18446744073709551616) (Y0 : 9223372036854775808 ≤ Y) (Y1 : Y < 18446744073709551616) (h0 : -2000 ≤ x) (h1 : x ≤ 2000) (h2 : -2000 ≤ y) (h3 : y ≤ 2000) :
    mulF ng X x Y y = ((near2 ng (X * Y) false (x + y) : Nat) : Int) := by
  have lo : 9223372036854775808 * 9223372036854775808 ≤ X * Y := Nat.mul_le_mul X0 Y0
  have hi : X * Y < 18446744073709551616 * 18446744073709551616 := Nat.mul_lt_mul_of_lt_of_lt X1 Y1
  unfold mulF mhi mlo
  rw [← Int.natCast_mul]
  generalize X * Y = P at *
  by_cases c : (P : Int) / 18446744073709551616 < 9223372036854775808
  · rw [if_pos c]
    have n0 : 9223372036854775808 ≤ P / 9223372036854775808 := by omega
    have n1 : P / 9223372036854775808 < 18446744073709551616 := by omega
    have e1 : Go.bits .or .u64 (IntKind.u64.wrap ((P : Int) / 18446744073709551616 * 2)) ((P : Int) % 18446744073709551616 / 9223372036854775808) = ((P / 9223372036854775808 : Nat) : Int) := by
      have w : IntKind.u64.wrap ((P : Int) / 18446744073709551616 * 2) = ((P / 18446744073709551616 * 2 : Nat) : Int) := by rw [u64_wrap]; omega
      have w2 : (P : Int) % 18446744073709551616 / 9223372036854775808 = ((P % 18446744073709551616 / 9223372036854775808 : Nat) : Int) := by omega
      rw [w, w2, bits_or64 _ _ (by omega) (by omega)]
      have := Nat.two_pow_add_eq_or_of_lt (i := 1) (b := P % 18446744073709551616 / 9223372036854775808) (by omega) (P / 18446744073709551616)
      rw [Nat.pow_one, Nat.mul_comm 2] at this
      rw [← this]; omega
    have e2 : (IntKind.u64.wrap ((P : Int) % 18446744073709551616 * 2) != 0) = decide (P % 9223372036854775808 ≠ 0) := by
      rw [u64_wrap, Bool.eq_iff_iff, bne_iff_ne, decide_eq_true_iff]; omega
    rw [e1, e2, nearG_eq ng _ _ _ n0 n1 (by omega) (by omega)]
    have m := near2_merge ng (P / 9223372036854775808) (P % 9223372036854775808) 63 false (x + y) (by omega) (by omega)
    rw [show P / 9223372036854775808 * 2 ^ 63 + P % 9223372036854775808 = P by omega, Bool.false_or] at m
    rw [m]
    congr 2; omega
  · rw [if_neg c]
    have n0 : 9223372036854775808 ≤ P / 18446744073709551616 := by omega
    have n1 : P / 18446744073709551616 < 18446744073709551616 := by omega
    have e1 : (P : Int) / 18446744073709551616 = ((P / 18446744073709551616 : Nat) : Int) := by omega
    have e2 : ((P : Int) % 18446744073709551616 != 0) = decide (P % 18446744073709551616 ≠ 0) := by
      rw [Bool.eq_iff_iff, bne_iff_ne, decide_eq_true_iff]; omega
    rw [e1, e2, nearG_eq ng _ _ _ n0 n1 (by omega) (by omega)]
    have m := near2_merge ng (P / 18446744073709551616) (P % 18446744073709551616) 64 false (x + y) (by omega) (by omega)
    rw [show P / 18446744073709551616 * 2 ^ 64 + P % 18446744073709551616 = P by omega, Bool.false_or] at m
    rw [m]
    congr 2

/-- an opened number's parts in plain numbers. -/
theorem parts {a : Int} (hu : U64 a) (hz : ¬ sz a = 0) : ∃ l : Nat, oman a = (((mant a).toNat * 2 ^ l : Nat) : Int) ∧ oexp a = pl a - l ∧ 11 ≤ l ∧ l ≤ 63 ∧ (mant a).toNat ≠ 0 ∧ (mant a).toNat < 9007199254740992 := by
  have op := opened hu hz
  have h1 := op.eq
  have h2 := op.ex
  have h3 := op.l0
  have h5 := op.l1
  have h4 := op.pos
  have h6 := op.small
  refine ⟨(lz (mant a)).toNat, ?_, by omega, by omega, by omega, by omega, by omega⟩
  rw [h1, cpow, Int.natCast_mul, show (((mant a).toNat : Nat) : Int) = mant a by omega]

theorem mul_ok {a b : Int} (ha : U64 a) (hb : U64 b) : MulG a b = ofO (double.mul a.toNat b.toNat) := by
  have X := ngX_eq ha hb
  unfold Format.mul
  rcases kind_cases a with ⟨ka, za⟩ | ⟨ka, za, fa⟩ | ⟨ka, ia⟩ | ⟨ka, na, na2⟩
  · have ra := read_fin ha (by omega)
    obtain ⟨ma, pa⟩ := zero_mant ha za
    rcases kind_cases b with ⟨kb, zb⟩ | ⟨kb, zb, fb⟩ | ⟨kb, ib⟩ | ⟨kb, nb, nb2⟩
    · have rb := read_fin hb (by omega)
      have E : MulG a b = sgnG (ngX a b) 0 := by simp [MulG, isNaN, isInf, isZ, ka, kb]
      rw [E, X, ra, rb, ma]
      simp only [Datum.product, Nat.zero_mul, Option.map_some, Format.write, ofO]
      rw [Format.nearest, if_pos rfl]
      exact sgn_word _ 0 (by decide)
    · have rb := read_fin hb fb
      have E : MulG a b = sgnG (ngX a b) 0 := by simp [MulG, isNaN, isInf, isZ, ka, kb]
      rw [E, X, ra, rb, ma]
      simp only [Datum.product, Nat.zero_mul, Option.map_some, Format.write, ofO]
      rw [Format.nearest, if_pos rfl]
      exact sgn_word _ 0 (by decide)
    · have rb := read_inf hb ib
      have E : MulG a b = 9221120237041090560 := by simp [MulG, isNaN, isInf, isZ, ka, kb]
      rw [E, ra, rb, ma]; rfl
    · obtain ⟨t, rb⟩ := read_nan hb nb nb2
      have E : MulG a b = 9221120237041090560 := by simp [MulG, isNaN, isInf, isZ, ka, kb]
      rw [E, ra, rb]; rfl
  · have ra := read_fin ha fa
    obtain ⟨la, oa, xa, la0, la1, ma0, ma1⟩ := parts ha za
    rcases kind_cases b with ⟨kb, zb⟩ | ⟨kb, zb, fb⟩ | ⟨kb, ib⟩ | ⟨kb, nb, nb2⟩
    · have rb := read_fin hb (by omega)
      obtain ⟨mb, pb⟩ := zero_mant hb zb
      have E : MulG a b = sgnG (ngX a b) 0 := by simp [MulG, isNaN, isInf, isZ, ka, kb]
      rw [E, X, ra, rb, mb]
      simp only [Datum.product, Nat.mul_zero, Option.map_some, Format.write, ofO]
      rw [Format.nearest, if_pos rfl]
      exact sgn_word _ 0 (by decide)
    · have rb := read_fin hb fb
      have opa := opened ha za
      have opb := opened hb zb
      have a1 := opa.lo
      have a2 := opa.hi
      have b1 := opb.lo
      have b2 := opb.hi
      obtain ⟨xa0, xa1⟩ := oexp_bd ha
      obtain ⟨xb0, xb1⟩ := oexp_bd hb
      obtain ⟨lb, ob, xb, lb0, lb1, mb0, mb1⟩ := parts hb zb
      have E : MulG a b = mulF (ngX a b) (oman a) (oexp a) (oman b) (oexp b) := by simp [MulG, isNaN, isInf, isZ, ka, kb]
      rw [E, X, ra, rb]
      rw [oa] at a1 a2 ⊢
      rw [ob] at b1 b2 ⊢
      rw [mulF_eq _ _ _ _ _ (by omega) (by omega) (by omega) (by omega) (by omega) (by omega) (by omega) (by omega)]
      simp only [Datum.product, Option.map_some, Format.write, ofO]
      rw [nearest_eq _ _ _ (Nat.mul_ne_zero ma0 mb0), Nat.mul_mul_mul_comm, ← Nat.pow_add, near2_scale _ _ _ _ (Nat.mul_ne_zero ma0 mb0)]
      congr 2; omega
    · have rb := read_inf hb ib
      have E : MulG a b = sgnG (ngX a b) 9218868437227405312 := by simp [MulG, isNaN, isInf, isZ, ka, kb]
      rw [E, X, ra, rb]
      simp only [Datum.product]
      rw [if_neg ma0]
      simp only [Option.map_some, Format.write, ofO]
      rw [infRung_d, Bool.xor_comm]
      exact sgn_word _ 9218868437227405312 (by decide)
    · obtain ⟨t, rb⟩ := read_nan hb nb nb2
      have E : MulG a b = 9221120237041090560 := by simp [MulG, isNaN, isInf, isZ, ka, kb]
      rw [E, ra, rb]; rfl
  · have ra := read_inf ha ia
    rcases kind_cases b with ⟨kb, zb⟩ | ⟨kb, zb, fb⟩ | ⟨kb, ib⟩ | ⟨kb, nb, nb2⟩
    · have rb := read_fin hb (by omega)
      obtain ⟨mb, pb⟩ := zero_mant hb zb
      have E : MulG a b = 9221120237041090560 := by simp [MulG, isNaN, isInf, isZ, ka, kb]
      rw [E, ra, rb, mb]; rfl
    · have rb := read_fin hb fb
      obtain ⟨lb, ob, xb, lb0, lb1, mb0, mb1⟩ := parts hb zb
      have E : MulG a b = sgnG (ngX a b) 9218868437227405312 := by simp [MulG, isNaN, isInf, isZ, ka, kb]
      rw [E, X, ra, rb]
      simp only [Datum.product]
      rw [if_neg mb0]
      simp only [Option.map_some, Format.write, ofO]
      rw [infRung_d]
      exact sgn_word _ 9218868437227405312 (by decide)
    · have rb := read_inf hb ib
      have E : MulG a b = sgnG (ngX a b) 9218868437227405312 := by simp [MulG, isNaN, isInf, isZ, ka, kb]
      rw [E, X, ra, rb]
      simp only [Datum.product, Option.map_some, Format.write, ofO]
      rw [infRung_d]
      exact sgn_word _ 9218868437227405312 (by decide)
    · obtain ⟨t, rb⟩ := read_nan hb nb nb2
      have E : MulG a b = 9221120237041090560 := by simp [MulG, isNaN, isInf, isZ, ka, kb]
      rw [E, ra, rb]; rfl
  · obtain ⟨t, ra⟩ := read_nan ha na na2
    have E : MulG a b = 9221120237041090560 := by simp [MulG, isNaN, isInf, isZ, ka]
    rw [E, ra]
    simp [Datum.product, ofO]
end Fp
