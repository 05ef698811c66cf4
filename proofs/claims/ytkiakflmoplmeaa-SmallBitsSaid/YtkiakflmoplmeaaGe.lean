/- Plain facts: the document's Near, cut by cut. -/
import Derived.Test.YtkiakflmoplmeaaGd
namespace Fp
open Go Go.RowKit Ieee
set_option linter.unusedVariables false
set_option linter.unusedSimpArgs false
/-- far below the last place: nought. -/
theorem near2_gone (M : Nat) (H : Bool) (X : Int) (hM : M ≠ 0) (h1 : M < 18446744073709551616) (hc : 64 < lastP M X - X) : near2 false M H X = double.word false 0 := by
  have e65 : (2 : Nat) ^ 65 = 36893488147419103232 := by decide
  have hz : 0 = rne (M * 2 ^ (X - lastP M X).toNat) H (lastP M X - X).toNat := by
    rw [show (X - lastP M X).toNat = 0 by omega, Nat.pow_zero, Nat.mul_one]
    obtain ⟨d, hd⟩ : ∃ d, (lastP M X - X).toNat = d := ⟨_, rfl⟩
    rw [hd]
    have hp2 : 2 ^ 65 ≤ 2 ^ d := Nat.pow_le_pow_right (by omega) (by omega)
    rw [e65] at hp2
    rw [rne_if, Nat.mod_eq_of_lt (by omega), Nat.div_eq_of_lt (by omega), if_neg (by omega)]
  rw [near_again false M H X hM 0 hz, if_pos rfl]
/-- rounding, as the document spells it: whole, rest, middle. -/
def upR (rest middle whole : Int) (H : Bool) : Bool := decide (middle < rest) || (decide (rest = middle) && (H || decide (whole % 2 = 1)))
theorem rne_up (M d : Nat) (H : Bool) (h0 : 1 ≤ d) : rne M H d = M / 2 ^ d + (if upR ((M % 2 ^ d : Nat) : Int) ((2 ^ (d - 1) : Nat) : Int) ((M / 2 ^ d : Nat) : Int) H then 1 else 0) := by
  have e : 2 ^ d = 2 * 2 ^ (d - 1) := by rw [← Nat.pow_succ']; congr 1; omega
  rw [rne_if]
  unfold upR
  generalize M / 2 ^ d = q
  generalize M % 2 ^ d = r
  rw [e]
  generalize 2 ^ (d - 1) = m
  by_cases c : (2 * m < 2 * r ∨ (2 * m = 2 * r ∧ (H = true ∨ q % 2 = 1)))
  · rw [if_pos c]
    have : (decide ((m : Int) < r) || (decide ((r : Int) = m) && (H || decide ((q : Int) % 2 = 1)))) = true := by
      rcases c with c | ⟨c, g⟩
      · rw [decide_eq_true (show (m : Int) < r by omega)]; rfl
      · rw [decide_eq_true (show (r : Int) = m by omega)]
        rcases g with g | g
        · rw [g]; simp
        · rw [decide_eq_true (show (q : Int) % 2 = 1 by omega)]; simp
    rw [this, if_pos rfl]
  · rw [if_neg c]
    have : (decide ((m : Int) < r) || (decide ((r : Int) = m) && (H || decide ((q : Int) % 2 = 1)))) = false := by
      rw [decide_eq_false (show ¬ (m : Int) < r by omega), Bool.false_or]
      by_cases g : r = m
      · have g1 : ¬ (H = true ∨ q % 2 = 1) := fun k => c (.inr ⟨by omega, k⟩)
        have g2 : H = false := by cases H; rfl; exact absurd (.inl rfl) g1
        rw [g2, decide_eq_false (show ¬ (q : Int) % 2 = 1 by omega)]; simp
      · rw [decide_eq_false (show ¬ (r : Int) = m by omega)]; rfl
    rw [this]; simp
end Fp
