/- Plain facts: Div of package soft is the model's. -/
import Derived.Test.YtkiakflmoplmeaaFs
namespace Fp
open Go Go.RowKit Ieee
set_option linter.unusedVariables false
set_option linter.unusedSimpArgs false

/-- a quotient's rounding does not hang on how many digits it was reckoned to. -/
theorem ratio_step (ng : Bool) (A B K j : Nat) (e : Int) (hB : 0 < B) (h : 2 ^ 53 ≤ A * 2 ^ K / B) :
    near2 ng (A * 2 ^ (K + j) / B) (decide (A * 2 ^ (K + j) % B ≠ 0)) (e - ((K + j : Nat) : Int)) = near2 ng (A * 2 ^ K / B) (decide (A * 2 ^ K % B ≠ 0)) (e - (K : Int)) := by
  have e1 : A * 2 ^ (K + j) = (A * 2 ^ K % B) * 2 ^ j + B * ((A * 2 ^ K / B) * 2 ^ j) := by
    have := Nat.div_add_mod (A * 2 ^ K) B
    rw [Nat.pow_add, ← Nat.mul_assoc, ← Nat.mul_assoc, ← Nat.add_mul, Nat.add_comm, this]
  rw [e1, Nat.add_mul_div_left _ _ hB, Nat.add_mul_mod_self_left]
  have hr := Nat.mod_lt (A * 2 ^ K) hB
  generalize A * 2 ^ K / B = q at *
  generalize A * 2 ^ K % B = r at *
  have ht : r * 2 ^ j / B < 2 ^ j := Nat.div_lt_of_lt_mul (Nat.mul_lt_mul_of_pos_right hr (Nat.two_pow_pos j))
  have m := near2_merge ng q (r * 2 ^ j / B) j (decide (r * 2 ^ j % B ≠ 0)) (e - ((K + j : Nat) : Int)) h ht
  rw [Nat.add_comm (r * 2 ^ j / B), m]
  have eb : (decide (r * 2 ^ j % B ≠ 0) || decide (r * 2 ^ j / B ≠ 0)) = decide (r ≠ 0) := by
    have dm := Nat.div_add_mod (r * 2 ^ j) B
    have hp := Nat.two_pow_pos j
    by_cases hr0 : r = 0
    · subst hr0; simp
    · rw [decide_eq_true hr0]
      have : r * 2 ^ j ≠ 0 := Nat.mul_ne_zero hr0 (by omega)
      by_cases c : r * 2 ^ j % B = 0
      · by_cases d : r * 2 ^ j / B = 0
        · rw [c, d, Nat.mul_zero] at dm; omega
        · simp [d]
      · simp [c]
  rw [eb]
  congr 1; omega
theorem ratio (ng : Bool) (A B K L : Nat) (e : Int) (hB : 0 < B) (h : 2 ^ 53 ≤ A * 2 ^ K / B) (h' : 2 ^ 53 ≤ A * 2 ^ L / B) :
    near2 ng (A * 2 ^ K / B) (decide (A * 2 ^ K % B ≠ 0)) (e - (K : Int)) = near2 ng (A * 2 ^ L / B) (decide (A * 2 ^ L % B ≠ 0)) (e - (L : Int)) := by
  rcases Nat.le_total K L with g | g
  · have := ratio_step ng A B K (L - K) e hB h
    rw [show K + (L - K) = L by omega] at this
    exact this.symm
  · have := ratio_step ng A B L (K - L) e hB h'
    rw [show L + (K - L) = K by omega] at this
    exact this
/-- the quotient of two opened ones, as of their mantissas. -/
theorem open_ratio (ng : Bool) (m n la lb k : Nat) (i j : Int) (hn : 0 < n) (hk : lb ≤ la + k) (q : Nat) (hq : q = m * 2 ^ la * 2 ^ k / (n * 2 ^ lb)) (r : Nat) (hr : r = m * 2 ^ la * 2 ^ k % (n * 2 ^ lb)) :
    q = m * 2 ^ (la + k - lb) / n ∧ near2 ng q (decide (r ≠ 0)) (i - la - (j - lb) - k) = near2 ng (m * 2 ^ (la + k - lb) / n) (decide (m * 2 ^ (la + k - lb) % n ≠ 0)) (i - j - ((la + k - lb : Nat) : Int)) := by
  have e : m * 2 ^ la * 2 ^ k = m * 2 ^ (la + k - lb) * 2 ^ lb := by
    rw [Nat.mul_assoc, Nat.mul_assoc, ← Nat.pow_add, ← Nat.pow_add]; congr 2; omega
  have hp := Nat.two_pow_pos lb
  rw [e, Nat.mul_div_mul_right _ _ hp] at hq
  rw [e, Nat.mul_mod_mul_right] at hr
  subst hq hr
  refine ⟨rfl, ?_⟩
  have eb : decide (m * 2 ^ (la + k - lb) % n * 2 ^ lb ≠ 0) = decide (m * 2 ^ (la + k - lb) % n ≠ 0) := by
    rw [decide_eq_decide]
    constructor
    · intro h c; rw [c, Nat.zero_mul] at h; exact h rfl
    · intro h; exact Nat.mul_ne_zero h (by omega)
  rw [eb]
  congr 1; omega
theorem divF_eq (ng : Bool) (X Y : Nat) (x y : Int) (X0 : 9223372036854775808 ≤ X) (X1 : X < 18446744073709551616) (Y0 : 9223372036854775808 ≤ Y) (Y1 : Y < 18446744073709551616) (h0 : -2000 ≤ x) (h1 : x ≤ 2000) (h2 : -2000 ≤ y) (h3 : y ≤ 2000) :
    ∃ k : Nat, (k = 63 ∨ k = 64) ∧ 2 ^ 63 ≤ X * 2 ^ k / Y ∧ divF ng X x Y y = ((near2 ng (X * 2 ^ k / Y) (decide (X * 2 ^ k % Y ≠ 0)) (x - y - k) : Nat) : Int) := by
  have e63n : (2 : Nat) ^ 63 = 9223372036854775808 := by decide
  have e64n : (2 : Nat) ^ 64 = 18446744073709551616 := by decide
  unfold divF
  by_cases c : (Y : Int) ≤ X
  · rw [if_pos c]
    have q0 : 9223372036854775808 ≤ X * 9223372036854775808 / Y := by
      rw [Nat.le_div_iff_mul_le (by omega)]; omega
    have q1 : X * 9223372036854775808 / Y < 18446744073709551616 := by
      apply Nat.div_lt_of_lt_mul; omega
    refine ⟨63, .inl rfl, by rw [e63n]; exact q0, ?_⟩
    rw [e63n]
    have w1 : (X : Int) * 9223372036854775808 / Y = ((X * 9223372036854775808 / Y : Nat) : Int) := by
      rw [Int.natCast_ediv, Int.natCast_mul]; rfl
    have w2 : ((X : Int) * 9223372036854775808 % Y != 0) = decide (X * 9223372036854775808 % Y ≠ 0) := by
      have : (X : Int) * 9223372036854775808 % Y = ((X * 9223372036854775808 % Y : Nat) : Int) := by rw [Int.natCast_emod, Int.natCast_mul]; rfl
      rw [this, Bool.eq_iff_iff, bne_iff_ne, decide_eq_true_iff]; omega
    rw [w1, w2, nearG_eq ng _ _ _ q0 q1 (by omega) (by omega)]
    congr 2; omega
  · rw [if_neg c]
    have q0 : 9223372036854775808 ≤ X * 18446744073709551616 / Y := by
      rw [Nat.le_div_iff_mul_le (by omega)]; omega
    have q1 : X * 18446744073709551616 / Y < 18446744073709551616 := by
      apply Nat.div_lt_of_lt_mul; omega
    refine ⟨64, .inr rfl, by rw [e63n, e64n]; exact q0, ?_⟩
    rw [e64n]
    have w1 : (X : Int) * 18446744073709551616 / Y = ((X * 18446744073709551616 / Y : Nat) : Int) := by
      rw [Int.natCast_ediv, Int.natCast_mul]; rfl
    have w2 : ((X : Int) * 18446744073709551616 % Y != 0) = decide (X * 18446744073709551616 % Y ≠ 0) := by
      have : (X : Int) * 18446744073709551616 % Y = ((X * 18446744073709551616 % Y : Nat) : Int) := by rw [Int.natCast_emod, Int.natCast_mul]; rfl
      rw [this, Bool.eq_iff_iff, bne_iff_ne, decide_eq_true_iff]; omega
    rw [w1, w2, nearG_eq ng _ _ _ q0 q1 (by omega) (by omega)]
    congr 2
/-- the model's quotient of two numbers. -/
theorem model_ratio (ng : Bool) (m n : Nat) (i j : Int) (hm : m ≠ 0) (hn : n ≠ 0) (h53 : m < 9007199254740992) :
    2 ^ 53 ≤ m * 2 ^ (54 + n.log2 - m.log2) / n ∧ double.nearest ng (2 * (m <<< (54 + n.log2 - m.log2) / n) + (m <<< (54 + n.log2 - m.log2) % n != 0).toNat) (i - j - ((54 + n.log2 - m.log2 : Nat) : Int) - 1) =
      near2 ng (m * 2 ^ (54 + n.log2 - m.log2) / n) (decide (m * 2 ^ (54 + n.log2 - m.log2) % n ≠ 0)) (i - j - ((54 + n.log2 - m.log2 : Nat) : Int)) := by
  have a1 := log2_lo hm
  have a2 : m.log2 < 53 := (log2_lt' hm).2 (by omega)
  have b1 := log2_hi hn
  rw [Nat.shiftLeft_eq]
  generalize hk : 54 + n.log2 - m.log2 = k at *
  have h : 2 ^ 53 ≤ m * 2 ^ k / n := by
    rw [Nat.le_div_iff_mul_le (by omega)]
    have c1 : 2 ^ m.log2 * 2 ^ k ≤ m * 2 ^ k := Nat.mul_le_mul_right _ a1
    have c2 : 2 ^ 53 * n ≤ 2 ^ 53 * 2 ^ (n.log2 + 1) := Nat.mul_le_mul_left _ (Nat.le_of_lt b1)
    rw [← Nat.pow_add] at c1 c2
    rw [show m.log2 + k = 53 + (n.log2 + 1) by omega] at c1
    exact Nat.le_trans c2 c1
  refine ⟨h, ?_⟩
  generalize m * 2 ^ k / n = q at *
  generalize m * 2 ^ k % n = r at *
  rw [nearest_eq _ _ _ (by omega)]
  have hs : (r != 0).toNat < 2 ^ 1 := by cases (r != 0) <;> decide
  have mm := near2_merge ng q (r != 0).toNat 1 false (i - j - k - 1) h hs
  rw [Nat.pow_one, Nat.mul_comm q 2] at mm
  rw [mm, Bool.false_or]
  congr 1
  · by_cases c : r = 0
    · subst c; rfl
    · have : (r != 0) = true := by simp [c]
      rw [this, decide_eq_true c]; rfl
  · omega
theorem div_ok {a b : Int} (ha : U64 a) (hb : U64 b) : DivG a b = ofO (double.div a.toNat b.toNat) := by
  have X := ngX_eq ha hb
  unfold Format.div
  rw [show double.fractionBits + 2 = 54 from rfl]
  rcases kind_cases a with ⟨ka, za⟩ | ⟨ka, za, fa⟩ | ⟨ka, ia⟩ | ⟨ka, na, na2⟩
  · have ra := read_fin ha (by omega)
    obtain ⟨ma, pa⟩ := zero_mant ha za
    rcases kind_cases b with ⟨kb, zb⟩ | ⟨kb, zb, fb⟩ | ⟨kb, ib⟩ | ⟨kb, nb, nb2⟩
    · have rb := read_fin hb (by omega)
      obtain ⟨mb, pb⟩ := zero_mant hb zb
      have E : DivG a b = 9221120237041090560 := by simp [DivG, isNaN, isInf, isZ, ka, kb]
      rw [E, ra, rb, ma, mb]; rfl
    · have rb := read_fin hb fb
      obtain ⟨lb, ob, xb, lb0, lb1, mb0, mb1⟩ := parts hb zb
      have E : DivG a b = sgnG (ngX a b) 0 := by simp [DivG, isNaN, isInf, isZ, ka, kb]
      rw [E, X, ra, rb, ma]
      simp only [Datum.quotient]
      rw [if_neg mb0]
      have z1 : 0 <<< (54 + (mant b).toNat.log2 - Nat.log2 0) / (mant b).toNat = 0 := by rw [Nat.zero_shiftLeft, Nat.zero_div]
      have z2 : 0 <<< (54 + (mant b).toNat.log2 - Nat.log2 0) % (mant b).toNat = 0 := by rw [Nat.zero_shiftLeft, Nat.zero_mod]
      simp only [Option.map_some, Format.write, ofO]
      rw [z1, z2]
      rw [Format.nearest, if_pos (by decide)]
      exact sgn_word _ 0 (by decide)
    · have rb := read_inf hb ib
      have E : DivG a b = sgnG (ngX a b) 0 := by simp [DivG, isNaN, isInf, isZ, ka, kb]
      rw [E, X, ra, rb]
      simp only [Datum.quotient, Option.map_some, Format.write, ofO]
      rw [Format.nearest, if_pos rfl]
      exact sgn_word _ 0 (by decide)
    · obtain ⟨t, rb⟩ := read_nan hb nb nb2
      have E : DivG a b = 9221120237041090560 := by simp [DivG, isNaN, isInf, isZ, ka, kb]
      rw [E, ra, rb]; rfl
  · have ra := read_fin ha fa
    obtain ⟨la, oa, xa, la0, la1, ma0, ma1⟩ := parts ha za
    rcases kind_cases b with ⟨kb, zb⟩ | ⟨kb, zb, fb⟩ | ⟨kb, ib⟩ | ⟨kb, nb, nb2⟩
    · have rb := read_fin hb (by omega)
      obtain ⟨mb, pb⟩ := zero_mant hb zb
      have E : DivG a b = sgnG (ngX a b) 9218868437227405312 := by simp [DivG, isNaN, isInf, isZ, ka, kb]
      rw [E, X, ra, rb, mb]
      simp only [Datum.quotient]
      rw [if_pos trivial, if_neg ma0]
      simp only [Option.map_some, Format.write, ofO]
      rw [infRung_d]
      exact sgn_word _ 9218868437227405312 (by decide)
    · have rb := read_fin hb fb
      have opa := opened ha za
      have opb := opened hb zb
      have a1 := opa.lo
      have a2 := opa.hi
      have b1 := opb.lo
      have b2 := opb.hi
      obtain ⟨xa0, xa1⟩ := oexp_bd ha
      obtain ⟨xb0, xb1⟩ := oexp_bd hb
      obtain ⟨lb, ob, xb, lb0, lb1, mb0, mb1⟩ := parts hb zb
      have E : DivG a b = divF (ngX a b) (oman a) (oexp a) (oman b) (oexp b) := by simp [DivG, isNaN, isInf, isZ, ka, kb]
      rw [E, X, ra, rb]
      rw [oa] at a1 a2 ⊢
      rw [ob] at b1 b2 ⊢
      obtain ⟨k, hk, hq, e⟩ := divF_eq (ngb a ^^ ngb b) ((mant a).toNat * 2 ^ la) ((mant b).toNat * 2 ^ lb) (oexp a) (oexp b) (by omega) (by omega) (by omega) (by omega) (by omega) (by omega) (by omega) (by omega)
      rw [e, xa, xb]
      obtain ⟨q1, q2⟩ := open_ratio (ngb a ^^ ngb b) (mant a).toNat (mant b).toNat la lb k (pl a) (pl b) (by omega) (by omega) _ rfl _ rfl
      rw [q2]
      rw [q1] at hq
      obtain ⟨h1, h2⟩ := model_ratio (ngb a ^^ ngb b) (mant a).toNat (mant b).toNat (pl a) (pl b) ma0 mb0 ma1
      simp only [Datum.quotient]
      rw [if_neg mb0]
      simp only [Option.map_some, Format.write, ofO]
      rw [h2, ratio (ngb a ^^ ngb b) (mant a).toNat (mant b).toNat (la + k - lb) _ (pl a - pl b) (by omega) (Nat.le_trans (Nat.pow_le_pow_right (by omega) (by omega)) hq) h1]
    · have rb := read_inf hb ib
      have E : DivG a b = sgnG (ngX a b) 0 := by simp [DivG, isNaN, isInf, isZ, ka, kb]
      rw [E, X, ra, rb]
      simp only [Datum.quotient, Option.map_some, Format.write, ofO]
      rw [Format.nearest, if_pos rfl]
      exact sgn_word _ 0 (by decide)
    · obtain ⟨t, rb⟩ := read_nan hb nb nb2
      have E : DivG a b = 9221120237041090560 := by simp [DivG, isNaN, isInf, isZ, ka, kb]
      rw [E, ra, rb]; rfl
  · have ra := read_inf ha ia
    rcases kind_cases b with ⟨kb, zb⟩ | ⟨kb, zb, fb⟩ | ⟨kb, ib⟩ | ⟨kb, nb, nb2⟩
    · have rb := read_fin hb (by omega)
      have E : DivG a b = sgnG (ngX a b) 9218868437227405312 := by simp [DivG, isNaN, isInf, isZ, ka, kb]
      rw [E, X, ra, rb]
      simp only [Datum.quotient, Option.map_some, Format.write, ofO]
      rw [infRung_d]
      exact sgn_word _ 9218868437227405312 (by decide)
    · have rb := read_fin hb fb
      have E : DivG a b = sgnG (ngX a b) 9218868437227405312 := by simp [DivG, isNaN, isInf, isZ, ka, kb]
      rw [E, X, ra, rb]
      simp only [Datum.quotient, Option.map_some, Format.write, ofO]
      rw [infRung_d]
      exact sgn_word _ 9218868437227405312 (by decide)
    · have rb := read_inf hb ib
      have E : DivG a b = 9221120237041090560 := by simp [DivG, isNaN, isInf, isZ, ka, kb]
      rw [E, ra, rb]; rfl
    · obtain ⟨t, rb⟩ := read_nan hb nb nb2
      have E : DivG a b = 9221120237041090560 := by simp [DivG, isNaN, isInf, isZ, ka, kb]
      rw [E, ra, rb]; rfl
  · obtain ⟨t, ra⟩ := read_nan ha na na2
    have E : DivG a b = 9221120237041090560 := by simp [DivG, isNaN, isInf, isZ, ka]
    rw [E, ra]
    simp [Datum.quotient, ofO]
end Fp
