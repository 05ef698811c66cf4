/- Plain facts: each word that can be is of just one kind. -/
import Derived.Test.YtkiakflmoplmeaaFj
namespace Fp
open Go Go.RowKit Ieee
set_option linter.unusedVariables false
set_option linter.unusedSimpArgs false
/-- one kind at most: whether it is right; a number; an object; a text; a small one; a tagged whole number -/
structure Kind (a : Int) (r n two three sm one : Bool) : Prop where
  r : RightG a = r
  n : (BitsG a).2 = n
  two : tg a 65530 = two
  three : tg a 65532 = three
  sm : (decide (18445336698825998336 ≤ a) && decide (a ≤ 18445336698825998340)) = sm
  one : tg a 65529 = one
theorem tg_top {a t : Int} (h : ¬ a / 281474976710656 = t) : tg a t = false := by rw [tg_not]; intro g; apply h; omega
theorem sm_top {a : Int} (h : ¬ a / 281474976710656 = 65531) : (decide (18445336698825998336 ≤ a) && decide (a ≤ 18445336698825998340)) = false := by
  by_cases h1 : 18445336698825998336 ≤ a
  · have : ¬ a ≤ 18445336698825998340 := by omega
    rw [decide_eq_false this, Bool.and_false]
  · rw [decide_eq_false h1, Bool.false_and]
theorem bits_wrong {a : Int} (h : RightG a = false) (h1 : tg a 65529 = false) : (BitsG a).2 = false := by
  unfold BitsG; rw [if_neg (by simp [h1]), if_neg (by simp [h])]
theorem bits_tagged {a : Int} (h1 : tg a 65529 = false) (h2 : 65529 ≤ a / 281474976710656) (h3 : a / 281474976710656 ≤ 65532) : (BitsG a).2 = false := by
  unfold BitsG; rw [if_neg (by simp [h1])]
  split
  · rw [if_pos ⟨h2, h3⟩]
  · rfl
theorem bits_num {a : Int} (h : RightG a = true) (h1 : tg a 65529 = false) (h2 : ¬ (65529 ≤ a / 281474976710656 ∧ a / 281474976710656 ≤ 65532)) : BitsG a = (a, true) := by
  unfold BitsG; rw [if_neg (by simp [h1]), if_pos h, if_neg h2]
theorem wI_of_tg {a : Int} (hu : U64 a) (h : tg a 65529 = true) : wI (pI a 65529) = a := by
  have h1 := (tg_iff a 65529).1 h
  unfold pI
  rw [if_pos h, wI_eq]
  unfold wrap32
  have := hu.lo; have := hu.hi
  omega
theorem kinds {a : Int} (hu : U64 a) :
    Kind a false false false false false false ∨ Kind a true true false false false false ∨ Kind a true true false false false true ∨ Kind a true false true false false false ∨ Kind a true false false true false false ∨ Kind a true false false false true false := by
  by_cases t1 : a / 281474976710656 = 65529
  · have r := right_tag (t := 65529) (.inl rfl) hu t1
    have two := tg_top (a := a) (t := 65530) (by omega)
    have three := tg_top (a := a) (t := 65532) (by omega)
    have sm := sm_top (a := a) (by omega)
    cases h : tg a 65529
    · have r' : RightG a = false := by rw [r]; exact h
      exact .inl ⟨r', bits_wrong r' h, two, three, sm, h⟩
    · have r' : RightG a = true := by rw [r]; exact h
      exact .inr (.inr (.inl ⟨r', by unfold BitsG; rw [if_pos h], two, three, sm, h⟩))
  · have one := tg_top t1
    by_cases t2 : a / 281474976710656 = 65530
    · have r := right_tag (t := 65530) (.inr (.inl rfl)) hu t2
      have n := bits_tagged one (by omega) (by omega)
      have three := tg_top (a := a) (t := 65532) (by omega)
      have sm := sm_top (a := a) (by omega)
      cases h : tg a 65530
      · exact .inl ⟨by rw [r]; exact h, n, h, three, sm, one⟩
      · exact .inr (.inr (.inr (.inl ⟨by rw [r]; exact h, n, h, three, sm, one⟩)))
    · have two := tg_top t2
      by_cases t3 : a / 281474976710656 = 65532
      · have r := right_tag (t := 65532) (.inr (.inr rfl)) hu t3
        have n := bits_tagged one (by omega) (by omega)
        have sm := sm_top (a := a) (by omega)
        cases h : tg a 65532
        · exact .inl ⟨by rw [r]; exact h, n, two, h, sm, one⟩
        · exact .inr (.inr (.inr (.inr (.inl ⟨by rw [r]; exact h, n, two, h, sm, one⟩))))
      · have three := tg_top t3
        by_cases t4 : a / 281474976710656 = 65531
        · have r := right_small t4
          have n := bits_tagged one (by omega) (by omega)
          have g : decide (18445336698825998336 ≤ a) = true := decide_eq_true (by omega)
          cases h : decide (a ≤ 18445336698825998340)
          · exact .inl ⟨by rw [r]; exact h, n, two, three, by rw [h, Bool.and_false], one⟩
          · exact .inr (.inr (.inr (.inr (.inr ⟨by rw [r]; exact h, n, two, three, by rw [g, h]; rfl, one⟩))))
        · have sm := sm_top t4
          cases h : RightG a
          · exact .inl ⟨h, bits_wrong h one, two, three, sm, one⟩
          · exact .inr (.inl ⟨h, by rw [bits_num h one (by omega)], two, three, sm, one⟩)
end Fp
