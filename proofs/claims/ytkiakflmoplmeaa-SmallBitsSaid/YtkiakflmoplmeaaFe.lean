/- Plain facts: the sums of package soft, of two opened forms, are the nearest ones. -/
import Derived.Test.YtkiakflmoplmeaaFd
namespace Fp
open Go Go.RowKit Ieee
set_option linter.unusedVariables false
set_option linter.unusedSimpArgs false

theorem dec_ne_zero (n : Nat) : (((n % 2 : Nat) : Int) == 1) = decide (n % 2 ≠ 0) := by
  rcases Nat.mod_two_eq_zero_or_one n with h | h <;> rw [h] <;> rfl

theorem lessG_nat (Y d : Nat) (far : Int) (hf : far.toNat = d) : lessG (Y : Int) far = ((Y / 2 ^ d : Nat) : Int) := by
  unfold lessG; rw [hf, cpow, ← Int.natCast_ediv]
theorem lostG_nat (Y d : Nat) (far : Int) (hf : far.toNat = d) (hY : Y < 18446744073709551616) : lostG (Y : Int) far = decide (Y % 2 ^ d ≠ 0) := by
  unfold lostG
  rw [lessG_nat Y d far hf, hf, cpow, ← Int.natCast_mul]
  have h1 := Nat.div_add_mod Y (2 ^ d)
  have h2 : Y / 2 ^ d * 2 ^ d ≤ Y := Nat.div_mul_le_self _ _
  rw [u64_id ⟨Int.natCast_nonneg _, by omega⟩]
  rw [Nat.mul_comm] at h1
  by_cases hr : Y % 2 ^ d = 0
  · rw [decide_eq_false (by simp [hr]), bne_eq_false_iff_eq]; omega
  · rw [decide_eq_true hr, bne_iff_ne]; omega

theorem addS_core (neg : Bool) (X q : Nat) (lost : Bool) (x : Int) (h0 : 9223372036854775808 ≤ X) (h1 : X < 18446744073709551616) (hq : q < 18446744073709551616) (hx0 : -6000 ≤ x) (hx1 : x ≤ 6000) :
    addS neg (X : Int) x (q : Int) lost = ((near2 neg (X + q) lost x : Nat) : Int) := by
  unfold addS aca alo
  by_cases hc : X + q < 18446744073709551616
  · have e1 : (((X : Int) + q) / 18446744073709551616 == 0) = true := by rw [beq_iff_eq]; omega
    have e2 : ((X : Int) + q) % 18446744073709551616 = ((X + q : Nat) : Int) := by omega
    rw [if_pos e1, e2, nearG_eq neg _ x lost (by omega) hc (by omega) (by omega)]
  · have e1 : ¬ (((X : Int) + q) / 18446744073709551616 == 0) = true := by rw [beq_iff_eq]; omega
    have e2 : ((X : Int) + q) % 18446744073709551616 = ((X + q - 18446744073709551616 : Nat) : Int) := by omega
    rw [if_neg e1, e2, and_one _ (by omega), dec_ne_zero]
    have e3 : ((X + q - 18446744073709551616 : Nat) : Int) / 2 = (((X + q - 18446744073709551616) / 2 : Nat) : Int) := by omega
    have e4 := or_high ((X + q - 18446744073709551616) / 2) 63 63 (by omega) (by omega) (by omega)
    rw [← e63] at e4
    rw [e3, e4]
    have e5 : (X + q - 18446744073709551616) / 2 + 2 ^ 63 = (X + q) / 2 := by omega
    have e6 : (X + q - 18446744073709551616) % 2 = (X + q) % 2 := by omega
    rw [e5, e6, nearG_eq neg _ (x + 1) _ (by omega) (by omega) (by omega) (by omega)]
    have m := near2_merge neg ((X + q) / 2) ((X + q) % 2) 1 lost x (by omega) (by omega)
    have e7 : (X + q) / 2 * 2 ^ 1 + (X + q) % 2 = X + q := by omega
    rw [e7] at m
    rw [m]; rfl

theorem addD_core (neg : Bool) (X q : Nat) (lost : Bool) (x : Int) (h0 : 9223372036854775808 ≤ X) (h1 : X < 18446744073709551616) (hq : q ≤ X) (hl : lost = true → q ≤ 4503599627370496) (hx0 : -6000 ≤ x) (hx1 : x ≤ 6000) :
    addD neg (X : Int) x (q : Int) lost = if X - q - lost.toNat = 0 then 0 else ((near2 neg (X - q - lost.toNat) lost x : Nat) : Int) := by
  have hM : subM (X : Int) (q : Int) lost = ((X - q - lost.toNat : Nat) : Int) := by
    unfold subM
    cases lost
    · simp only [Bool.toNat_false, Bool.false_eq_true, if_false]
      rw [u64_id ⟨by omega, by omega⟩]; omega
    · have := hl rfl
      simp only [Bool.toNat_true, if_true]
      rw [u64_id (x := (X : Int) - q) ⟨by omega, by omega⟩, u64_id ⟨by omega, by omega⟩]; omega
  unfold addD
  rw [hM]
  have hsm : X - q - lost.toNat < 18446744073709551616 := by omega
  have big : lost = true → 4611686018427387904 ≤ X - q - lost.toNat := fun h => by have := hl h; subst h; simp only [Bool.toNat_true]; omega
  generalize X - q - lost.toNat = M at *
  by_cases hz : M = 0
  · subst hz; rw [if_pos (by decide), if_pos rfl]
  · rw [if_neg (by rw [beq_iff_eq]; omega), if_neg hz]
    have hu : U64 (M : Int) := ⟨by omega, by omega⟩
    have hlz := lz_eq hu (by omega)
    rw [Int.toNat_natCast] at hlz
    have g1 : M.log2 < 64 := (Nat.log2_lt hz).2 (by omega)
    have g2 := log2_lo hz
    have g3 := log2_hi hz
    have hK := Nat.two_pow_pos (63 - M.log2)
    have e63' : 2 ^ M.log2 * 2 ^ (63 - M.log2) = 9223372036854775808 := by rw [← Nat.pow_add, show M.log2 + (63 - M.log2) = 63 from by omega]
    have lo : 9223372036854775808 ≤ M * 2 ^ (63 - M.log2) := by
      have := Nat.mul_le_mul_right (2 ^ (63 - M.log2)) g2; omega
    have hi : M * 2 ^ (63 - M.log2) < 18446744073709551616 := by
      have := Nat.mul_lt_mul_of_pos_right g3 hK
      rw [Nat.pow_succ, Nat.mul_comm (2 ^ M.log2) 2, Nat.mul_assoc, e63'] at this; omega
    have elz : (lz (M : Int)).toNat = 63 - M.log2 := by omega
    have es : shlG (M : Int) = ((M * 2 ^ (63 - M.log2) : Nat) : Int) := by
      unfold shlG
      rw [elz, cpow, ← Int.natCast_mul, u64_id ⟨Int.natCast_nonneg _, by omega⟩]
    rw [es, nearG_eq neg _ _ lost lo hi (by omega) (by omega)]
    have ex : x - lz (M : Int) + ((63 - M.log2 : Nat) : Int) = x := by omega
    cases lost
    · rw [near2_scale neg M (63 - M.log2) _ hz, ex]
    · have := big rfl
      have m := near2_merge neg M 0 (63 - M.log2) true (x - lz (M : Int)) (by omega) hK
      rw [Nat.add_zero, ex] at m
      rw [m]; rfl

/-- the value of a signed sum, in units of the lower place -/
theorem same_sum (X Y d : Nat) : X * 2 ^ d + Y = (X + Y / 2 ^ d) * 2 ^ d + Y % 2 ^ d := by
  have := Nat.div_add_mod Y (2 ^ d)
  rw [Nat.add_mul, Nat.mul_comm (Y / 2 ^ d)]; omega

theorem addG_same (neg : Bool) (X Y : Nat) (x y : Int) (h0 : 9223372036854775808 ≤ X) (h1 : X < 18446744073709551616) (hY0 : Y ≠ 0) (hY : Y < 18446744073709551616) (hd : y ≤ x) (hx0 : -6000 ≤ x) (hx1 : x ≤ 6000) :
    addG neg (X : Int) x neg (Y : Int) y = ((near2 neg (X * 2 ^ (x - y).toNat + Y) false y : Nat) : Int) := by
  unfold addG
  rw [if_pos (by simp)]
  generalize hd' : (x - y).toNat = d
  have ex : y + (d : Int) = x := by omega
  have hr := Nat.mod_lt Y (Nat.two_pow_pos d)
  have key : near2 neg (X * 2 ^ d + Y) false y = near2 neg (X + Y / 2 ^ d) (decide (Y % 2 ^ d ≠ 0)) x := by
    have m := near2_merge neg (X + Y / 2 ^ d) (Y % 2 ^ d) d false y (Nat.le_trans (show 2 ^ 53 ≤ X by omega) (Nat.le_add_right _ _)) hr
    rw [← same_sum, ex, Bool.false_or] at m
    exact m
  rw [key]
  have hq : Y / 2 ^ d ≤ Y := Nat.div_le_self _ _
  by_cases hc : x - y < 64
  · rw [if_pos hc, lessG_nat Y d _ hd', lostG_nat Y d _ hd' hY]
    exact addS_core neg X _ _ x h0 h1 (by omega) hx0 hx1
  · rw [if_neg hc]
    have hp : 2 ^ 64 ≤ 2 ^ d := Nat.pow_le_pow_right (by omega) (by omega)
    have q0 : Y / 2 ^ d = 0 := Nat.div_eq_of_lt (by omega)
    have r0 : Y % 2 ^ d = Y := Nat.mod_eq_of_lt (by omega)
    rw [q0, r0, decide_eq_true hY0]
    exact addS_core neg X 0 true x h0 h1 (by omega) hx0 hx1

theorem addG_diff (neg : Bool) (X Y : Nat) (x y : Int) (h0 : 9223372036854775808 ≤ X) (h1 : X < 18446744073709551616) (hY0 : Y ≠ 0) (hY : Y < 18446744073709551616) (hYl : Y % 2048 = 0) (hd : y ≤ x) (hx0 : -6000 ≤ x) (hx1 : x ≤ 6000)
    (hge : Y ≤ X * 2 ^ (x - y).toNat) :
    addG neg (X : Int) x (!neg) (Y : Int) y = if X * 2 ^ (x - y).toNat - Y = 0 then 0 else ((near2 neg (X * 2 ^ (x - y).toNat - Y) false y : Nat) : Int) := by
  unfold addG
  rw [if_neg (by simp)]
  generalize hd' : (x - y).toNat = d at *
  have ex : y + (d : Int) = x := by omega
  have hp := Nat.two_pow_pos d
  have hr := Nat.mod_lt Y hp
  have hdm := Nat.div_add_mod Y (2 ^ d)
  rw [Nat.mul_comm] at hdm
  -- both ways of taking the parts
  have parts : (if x - y < 64 then addD neg (X : Int) x (lessG (Y : Int) (x - y)) (lostG (Y : Int) (x - y)) else addD neg (X : Int) x 0 true) = addD neg (X : Int) x ((Y / 2 ^ d : Nat) : Int) (decide (Y % 2 ^ d ≠ 0)) := by
    by_cases hc : x - y < 64
    · rw [if_pos hc, lessG_nat Y d _ hd', lostG_nat Y d _ hd' hY]
    · rw [if_neg hc]
      have hp : 2 ^ 64 ≤ 2 ^ d := Nat.pow_le_pow_right (by omega) (by omega)
      have q0 : Y / 2 ^ d = 0 := Nat.div_eq_of_lt (by omega)
      have r0 : Y % 2 ^ d = Y := Nat.mod_eq_of_lt (by omega)
      rw [q0, r0, decide_eq_true hY0]; rfl
  rw [parts]
  have hqX : Y / 2 ^ d ≤ X := by
    have : Y / 2 ^ d * 2 ^ d ≤ X * 2 ^ d := by omega
    exact Nat.le_of_mul_le_mul_right this hp
  generalize hq : Y / 2 ^ d = q at *
  generalize hrr : Y % 2 ^ d = r at *
  by_cases hr0 : r = 0
  · subst hr0
    have dr : decide ((0 : Nat) ≠ 0) = false := by decide
    rw [dr, addD_core neg X q false x h0 h1 hqX (by simp) hx0 hx1]
    have eY : X * 2 ^ d - Y = (X - q) * 2 ^ d := by rw [Nat.mul_sub_right_distrib]; omega
    rw [eY]
    simp only [Bool.toNat_false, Nat.sub_zero]
    by_cases hz : X - q = 0
    · rw [hz]; simp
    · rw [if_neg hz, if_neg (Nat.mul_ne_zero hz (by omega)), near2_scale neg _ d y hz, ex]
  · have dr : decide (r ≠ 0) = true := decide_eq_true hr0
    -- the places that are lost lie deep
    have hd12 : 12 ≤ d := by
      rcases Nat.lt_or_ge d 12 with hlt | hge'
      · exfalso; apply hr0
        have : 2 ^ d ∣ Y := by
          have h2 : 2 ^ d ∣ 2 ^ 11 := Nat.pow_dvd_pow 2 (by omega)
          have h3 : 2 ^ 11 ∣ Y := Nat.dvd_of_mod_eq_zero hYl
          exact Nat.dvd_trans h2 h3
        rw [← hrr]; exact Nat.mod_eq_zero_of_dvd this
      · exact hge'
    have hq52 : q ≤ 4503599627370496 := by
      have : Y / 2 ^ d ≤ Y / 2 ^ 12 := Nat.div_le_div_left (Nat.pow_le_pow_right (by omega) hd12) (by decide)
      omega
    rw [dr, addD_core neg X q true x h0 h1 hqX (fun _ => hq52) hx0 hx1]
    simp only [Bool.toNat_true]
    have hM : 4611686018427387904 ≤ X - q - 1 := by omega
    have eY : X * 2 ^ d - Y = (X - q - 1) * 2 ^ d + (2 ^ d - r) := by
      have e1 : (X - q - 1) * 2 ^ d = X * 2 ^ d - q * 2 ^ d - 2 ^ d := by rw [Nat.mul_sub_right_distrib, Nat.mul_sub_right_distrib, Nat.one_mul]
      have e2 : (X - q) * 2 ^ d = X * 2 ^ d - q * 2 ^ d := Nat.mul_sub_right_distrib _ _ _
      have e3 : 1 * 2 ^ d ≤ (X - q) * 2 ^ d := Nat.mul_le_mul_right _ (by omega)
      omega
    have m := near2_merge neg (X - q - 1) (2 ^ d - r) d false y (by omega) (by omega)
    rw [← eY, ex, Bool.false_or, decide_eq_true (show 2 ^ d - r ≠ 0 by omega)] at m
    have hne : X * 2 ^ d - Y ≠ 0 := by omega
    rw [if_neg (by omega), if_neg hne, m]
end Fp
