/- Plain facts: the sums of package soft are the model's. -/
import Derived.Test.YtkiakflmoplmeaaFl
import Derived.Test.YtkiakflmoplmeaaFe
namespace Fp
open Go Go.RowKit Ieee
set_option linter.unusedVariables false
set_option linter.unusedSimpArgs false

/-- what Of makes of an operation: its bits, or the one NaN. -/
def ofO (o : Option Nat) : Int := match o with | none => 9221120237041090560 | some r => (r : Int)

theorem W_eq {a : Int} (hu : U64 a) (hz : ¬ sz a = 0) : (oman a).toNat * 2 ^ (oexp a + 1138).toNat = V a * 2 ^ 64 := by
  have op := opened hu hz
  have h1 := op.eq
  have h2 := op.ex
  have h3 := op.l0
  have h5 := op.l1
  have h4 := op.pos
  have hp := pl_bd hu
  unfold V
  generalize lz (mant a) = l at *
  generalize mant a = m at *
  obtain ⟨n, rfl⟩ := Int.eq_ofNat_of_zero_le (Int.le_of_lt h4)
  have e1 : (oman a).toNat = n * 2 ^ l.toNat := by
    rw [h1, cpow, ← Int.natCast_mul, Int.toNat_natCast]
  rw [e1, Int.toNat_natCast, Nat.mul_assoc, ← Nat.pow_add, Nat.mul_assoc, ← Nat.pow_add]
  congr 2; omega

theorem V_mono {a b : Int} (ha : U64 a) (hb : U64 b) (h : sz a ≤ sz b) : V a ≤ V b := by
  rw [V_vr ha, V_vr hb]
  have a0 := sz_nonneg ha
  have b0 := sz_nonneg hb
  rcases Nat.lt_or_ge (sz a).toNat (sz b).toNat with g | g
  · exact Nat.le_of_lt (vr_lt g)
  · have : (sz a).toNat = (sz b).toNat := by omega
    rw [this]; exact Nat.le_refl _

theorem oexp_mono {a b : Int} (ha : U64 a) (hb : U64 b) (hz : ¬ sz a = 0) (h : sz a ≤ sz b) : oexp a ≤ oexp b := by
  have a0 := sz_nonneg ha
  have hzb : ¬ sz b = 0 := by omega
  have oa := opened ha hz
  have ob := opened hb hzb
  have w := Nat.mul_le_mul_right (2 ^ 64) (V_mono ha hb h)
  rw [← W_eq ha hz, ← W_eq hb hzb] at w
  have x1 := oexp_bd ha
  have x2 := oexp_bd hb
  have l1 := oa.lo
  have l2 := ob.hi
  obtain ⟨p, hp⟩ : ∃ p, oexp a + 1138 = p := ⟨_, rfl⟩
  rw [hp] at w
  rcases Int.lt_or_le (oexp b) (oexp a) with g | g
  · exfalso
    have e : 2 ^ ((oexp b + 1138).toNat + 1) ≤ 2 ^ p.toNat := Nat.pow_le_pow_right (by omega) (by omega)
    rw [Nat.pow_succ] at e
    have hK := Nat.two_pow_pos (oexp b + 1138).toNat
    have a1 : 9223372036854775808 * 2 ^ p.toNat ≤ (oman a).toNat * 2 ^ p.toNat := Nat.mul_le_mul_right _ (by omega)
    have a2 : (oman b).toNat * 2 ^ (oexp b + 1138).toNat < 18446744073709551616 * 2 ^ (oexp b + 1138).toNat := Nat.mul_lt_mul_of_pos_right (by omega) hK
    omega
  · exact g

/-- the opened one in units of the other's place. -/
theorem open_le {a b : Int} (ha : U64 a) (hb : U64 b) (hz : ¬ sz b = 0) (h : sz b ≤ sz a) : (oman b).toNat ≤ (oman a).toNat * 2 ^ (oexp a - oexp b).toNat := by
  have b0 := sz_nonneg hb
  have hza : ¬ sz a = 0 := by omega
  have m := oexp_mono hb ha hz h
  have w := Nat.mul_le_mul_right (2 ^ 64) (V_mono hb ha h)
  rw [← W_eq ha hza, ← W_eq hb hz] at w
  have x1 := oexp_bd ha
  have x2 := oexp_bd hb
  have e : (oexp a + 1138).toNat = (oexp a - oexp b).toNat + (oexp b + 1138).toNat := by omega
  rw [e, Nat.pow_add, ← Nat.mul_assoc] at w
  exact Nat.le_of_mul_le_mul_right w (Nat.two_pow_pos _)

/-- a finite word's number, moved down to a lower place y. -/
theorem signed_open {a : Int} (hu : U64 a) (hz : ¬ sz a = 0) (s : Bool) (base y : Int) (h1 : base ≤ pl a) (h2 : y ≤ base) (h3 : y ≤ oexp a) :
    signed s (mant a).toNat (pl a - base).toNat * ((2 ^ (base - y).toNat : Nat) : Int) = if s then -(((oman a).toNat * 2 ^ (oexp a - y).toNat : Nat) : Int) else (((oman a).toNat * 2 ^ (oexp a - y).toNat : Nat) : Int) := by
  have op := opened hu hz
  have g1 := op.eq
  have g2 := op.ex
  have g3 := op.l0
  have g4 := op.pos
  generalize lz (mant a) = l at *
  generalize mant a = m at *
  obtain ⟨n, rfl⟩ := Int.eq_ofNat_of_zero_le (Int.le_of_lt g4)
  have e1 : (oman a).toNat = n * 2 ^ l.toNat := by
    rw [g1, cpow, ← Int.natCast_mul, Int.toNat_natCast]
  rw [e1, Int.toNat_natCast]
  have e2 : n * 2 ^ l.toNat * 2 ^ (oexp a - y).toNat = n * 2 ^ (pl a - base).toNat * 2 ^ (base - y).toNat := by
    rw [Nat.mul_assoc, ← Nat.pow_add, Nat.mul_assoc, ← Nat.pow_add]; congr 2; omega
  rw [e2]
  unfold signed
  rw [Nat.shiftLeft_eq]
  cases s
  · simp only [Bool.false_eq_true, if_false]; rw [← Int.natCast_mul]
  · simp only [if_true]; rw [Int.neg_mul, ← Int.natCast_mul]

theorem near_total (sg : Bool) (total : Int) (base y : Int) (h : y ≤ base) : double.nearest sg total.natAbs base = double.nearest sg (total * ((2 ^ (base - y).toNat : Nat) : Int)).natAbs y := by
  rw [Int.natAbs_mul, Int.natAbs_natCast, nearest_scale]
  congr 1; omega

/-- the sum of two finite ones that are not 0, the second one no greater. -/
theorem sum_big {a b : Int} (ha : U64 a) (hb : U64 b) (fa : sz a < 9218868437227405312) (fb : sz b < 9218868437227405312) (za : ¬ sz a = 0) (zb : ¬ sz b = 0) (h : sz b ≤ sz a) (total base : Int)
    (hb1 : base ≤ pl a) (hb2 : base ≤ pl b) (hb3 : oexp b ≤ base) (ht : total = signed (ngb a) (mant a).toNat (pl a - base).toNat + signed (ngb b) (mant b).toNat (pl b - base).toNat) :
    ((double.nearest (if total = 0 then (ngb a && ngb b) else decide (total < 0)) total.natAbs base : Nat) : Int) = addG (ngb a) (oman a) (oexp a) (ngb b) (oman b) (oexp b) := by
  have m := oexp_mono hb ha zb h
  have oa := opened ha za
  have ob := opened hb zb
  have le := open_le ha hb zb h
  have x1 := oexp_bd ha
  have x2 := oexp_bd hb
  have hc : (0 : Int) < ((2 ^ (base - oexp b).toNat : Nat) : Int) := by have := Nat.two_pow_pos (base - oexp b).toNat; omega
  have T : total * ((2 ^ (base - oexp b).toNat : Nat) : Int) = (if ngb a then -(((oman a).toNat * 2 ^ (oexp a - oexp b).toNat : Nat) : Int) else (((oman a).toNat * 2 ^ (oexp a - oexp b).toNat : Nat) : Int)) + (if ngb b then -((oman b).toNat : Int) else ((oman b).toNat : Int)) := by
    rw [ht, Int.add_mul, signed_open ha za _ _ _ hb1 hb3 m, signed_open hb zb _ _ _ hb2 hb3 (Int.le_refl _)]
    have : (oexp b - oexp b).toNat = 0 := by omega
    rw [this, Nat.pow_zero, Nat.mul_one]
  have s0 : total = 0 ↔ total * ((2 ^ (base - oexp b).toNat : Nat) : Int) = 0 := by
    rw [Int.mul_eq_zero]; constructor
    · exact fun h => .inl h
    · rintro (h | h)
      · exact h
      · omega
  have s1 : total < 0 ↔ total * ((2 ^ (base - oexp b).toNat : Nat) : Int) < 0 := by
    have : total * ((2 ^ (base - oexp b).toNat : Nat) : Int) < 0 * ((2 ^ (base - oexp b).toNat : Nat) : Int) ↔ total < 0 := Int.mul_lt_mul_right hc
    rw [Int.zero_mul] at this; exact this.symm
  rw [near_total _ _ _ (oexp b) hb3]
  have hdec : decide (total < 0) = decide (total * ((2 ^ (base - oexp b).toNat : Nat) : Int) < 0) := by
    by_cases c : total < 0
    · rw [decide_eq_true c, decide_eq_true (s1.1 c)]
    · rw [decide_eq_false c, decide_eq_false (fun g => c (s1.2 g))]
  have hite : (if total = 0 then (ngb a && ngb b) else decide (total < 0)) = if total * ((2 ^ (base - oexp b).toNat : Nat) : Int) = 0 then (ngb a && ngb b) else decide (total * ((2 ^ (base - oexp b).toNat : Nat) : Int) < 0) := by
    by_cases c : total = 0
    · rw [if_pos c, if_pos (s0.1 c)]
    · rw [if_neg c, if_neg (fun g => c (s0.2 g)), hdec]
  rw [hite]
  generalize total * ((2 ^ (base - oexp b).toNat : Nat) : Int) = t at *
  have a1 := oa.lo
  have a2 := oa.hi
  have b1 := ob.lo
  have b2 := ob.hi
  have b3 := ob.lower
  obtain ⟨X, hX⟩ := Int.eq_ofNat_of_zero_le (show 0 ≤ oman a by omega)
  obtain ⟨Y, hY⟩ := Int.eq_ofNat_of_zero_le (show 0 ≤ oman b by omega)
  rw [hX, hY] at T
  rw [hX, hY, Int.toNat_natCast, Int.toNat_natCast] at le
  rw [Int.toNat_natCast, Int.toNat_natCast] at T
  rw [hX, hY]
  have pos : 0 < X * 2 ^ (oexp a - oexp b).toNat := Nat.mul_pos (by omega) (Nat.two_pow_pos _)
  have same := addG_same (ngb a) X Y (oexp a) (oexp b) (by omega) (by omega) (by omega) (by omega) m (by omega) (by omega)
  have diff := addG_diff (ngb a) X Y (oexp a) (oexp b) (by omega) (by omega) (by omega) (by omega) (by omega) m (by omega) (by omega) le
  generalize X * 2 ^ (oexp a - oexp b).toNat = Z at *
  cases hna : ngb a <;> cases hnb : ngb b <;> rw [hna, hnb] at T <;> rw [hna] at same diff <;> simp only [Bool.false_eq_true, if_false, if_true, Bool.not_false, Bool.not_true] at T same diff
  · rw [same, if_neg (by omega), decide_eq_false (by omega), nearest_eq _ _ _ (by omega)]
    congr 2; omega
  · rw [diff]
    by_cases c : Z - Y = 0
    · rw [if_pos (by omega), if_pos c]
      have : t.natAbs = 0 := by omega
      rw [this]; unfold Format.nearest; rw [if_pos rfl]; rfl
    · rw [if_neg (by omega), if_neg c, decide_eq_false (by omega), nearest_eq _ _ _ (by omega)]
      congr 2; omega
  · rw [diff]
    by_cases c : Z - Y = 0
    · rw [if_pos (by omega), if_pos c]
      have : t.natAbs = 0 := by omega
      rw [this]; unfold Format.nearest; rw [if_pos rfl]; rfl
    · rw [if_neg (by omega), if_neg c, decide_eq_true (by omega), nearest_eq _ _ _ (by omega)]
      congr 2; omega
  · rw [same, if_neg (by omega), decide_eq_true (by omega), nearest_eq _ _ _ (by omega)]
    congr 2; omega
end Fp
