/- Plain facts: every operation on two whole numbers, at once and in full. -/
import Derived.Test.YtkiakflmoplmeaaHg
namespace Fp
open Go Go.RowKit Ieee
set_option linter.unusedVariables false
set_option linter.unusedSimpArgs false
theorem V_int {x : Int} (x0 : -2147483648 ≤ x) (x1 : x < 2147483648) : V (FromIntG x) = x.natAbs * U := WP_FromInt (by omega) (by omega)
theorem quick_rem {x y : Int} (x0 : -2147483648 ≤ x) (x1 : x < 2147483648) (y0 : -2147483648 ≤ y) (y1 : y < 2147483648) :
    quick (NumberG (RemG (FromIntG x) (FromIntG y))) = if y = 0 then (0, false) else some32 (x.tmod y) (decide (x < 0)) := by
  have ux := FromInt_u64 (n := x) (by omega) (by omega)
  have uy := FromInt_u64 (n := y) (by omega) (by omega)
  have fx := FromInt_fin (k := x) (by omega) (by omega)
  have fy := FromInt_fin (k := y) (by omega) (by omega)
  have vx := V_int x0 x1
  have vy := V_int y0 y1
  by_cases hy : y = 0
  · subst hy
    rw [if_pos rfl, FromInt_zero]
    have z : isZ 0 = true := by decide +kernel
    have e : RemG (FromIntG x) 0 = 9221120237041090560 := by unfold RemG; rw [z]; exact if_pos (by simp)
    rw [e]; decide +kernel
  · rw [if_neg hy]
    have zy : ¬ sz (FromIntG y) = 0 := fun c => by
      have := (V_zero_iff uy).2 c
      rw [vy] at this
      rcases Nat.mul_eq_zero.1 this with g | g
      · omega
      · exact absurd g (Nat.ne_of_gt U_pos)
    have hlt : sz (FromIntG x) < sz (FromIntG y) ↔ x.natAbs < y.natAbs := by
      have px : Pos (sz (FromIntG x)) := ⟨sz_nonneg ux, fx⟩
      have py : Pos (sz (FromIntG y)) := ⟨sz_nonneg uy, fy⟩
      rw [← px.lt py, V_sz px.u ux px.sz, V_sz py.u uy py.sz, vx, vy]
      exact Nat.mul_lt_mul_right U_pos
    have na : (x.tmod y).natAbs = x.natAbs % y.natAbs := Int.natAbs_tmod _ _
    have nb : (x.tmod y).natAbs ≤ x.natAbs := by rw [na]; exact Nat.mod_le _ _
    have ng : 0 ≤ x → 0 ≤ x.tmod y := fun h => Int.tmod_nonneg _ h
    have nl : x ≤ 0 → x.tmod y ≤ 0 := fun h => by
      have h1 : 0 ≤ (-x).tmod y := Int.tmod_nonneg _ (by omega)
      rw [Int.neg_tmod] at h1; omega
    by_cases hs : sz (FromIntG x) < sz (FromIntG y)
    · have hm := hlt.1 hs
      have e : RemG (FromIntG x) (FromIntG y) = FromIntG x := by
        have zb : isZ (FromIntG y) = false := by rw [Bool.eq_false_iff]; intro c; rw [isZ_iff] at c; exact zy c
        unfold RemG
        rw [(fin_num fx).1, (fin_num fy).1, (fin_num fx).2, zb, if_neg (by decide), if_pos hs]
      have hr : x.tmod y = x := by
        rw [Nat.mod_eq_of_lt hm] at na
        rcases Int.lt_or_le x 0 with c | c
        · have := nl (by omega); omega
        · have := ng c; omega
      rw [e, hr]
      unfold some32
      have : (x == 0 && decide (x < 0)) = false := by
        by_cases z : x = 0
        · rw [decide_eq_false (show ¬ x < 0 by omega), Bool.and_false]
        · rw [beq_eq_false_iff_ne.2 z, Bool.false_and]
      rw [this, if_neg (by decide)]
      exact quick_whole (by omega) (by omega)
    · rw [rem_word ux uy fx fy zy (by omega), vx, vy, Nat.mul_mod_mul_right, FromInt_ng (by omega) (by omega), ← na]
      obtain ⟨t, ht⟩ : ∃ t, x.tmod y = t := ⟨_, rfl⟩
      rw [ht] at nb ng nl ⊢
      have hw : sgnG (decide (x < 0)) ((rungN (t.natAbs * U) (-1074) : Nat) : Int) = NT (decide (x < 0)) (t * (U : Int)) (-1074) := by
        unfold NT
        have hs2 : (if t * (U : Int) = 0 then decide (x < 0) else decide (t * (U : Int) < 0)) = decide (x < 0) := by
          obtain ⟨m1, m2⟩ := mul_pos_iff (k := t) U_pos
          by_cases z : t * (U : Int) = 0
          · rw [if_pos z]
          · rw [if_neg z]
            refine decide_eq_decide.2 ?_
            rw [m2]
            have : t ≠ 0 := fun c => z (m1.2 c)
            constructor
            · intro g
              rcases Int.lt_or_le x 0 with c | c
              · exact c
              · have := ng c; omega
            · intro g
              have := nl (by omega); omega
        rw [hs2, Int.natAbs_mul, Int.natAbs_natCast, nearest_rung]
        have hb := rungN_le (t.natAbs * U) (-1074)
        exact sgn_word _ _ (by omega)
      rw [hw, NT_whole _ (by omega) (by omega)]
      unfold some32
      by_cases z : t = 0
      · rw [if_pos z, z]
        cases decide (x < 0)
        · rw [if_neg (by decide)]
          have := quick_whole (k := 0) (by decide) (by decide)
          rw [FromInt_zero] at this
          exact this
        · rw [if_pos (by decide)]
          exact quick_minus
      · rw [if_neg z, beq_eq_false_iff_ne.2 z, Bool.false_and, if_neg (by decide)]
        exact quick_whole (by omega) (by omega)
theorem tests_ints {op x y : Int} (x0 : -2147483648 ≤ x) (x1 : x < 2147483648) (y0 : -2147483648 ≤ y) (y1 : y < 2147483648) : testsI op (FromIntG x) (FromIntG y) = if op = 35 then wB (decide (y ≤ x)) else if op = 33 then wB (decide (x ≤ y)) else if op = 34 then wB (decide (y < x)) else wB (decide (x < y)) := by
  have ux := FromInt_u64 (n := x) (by omega) (by omega)
  have uy := FromInt_u64 (n := y) (by omega) (by omega)
  have fx := FromInt_fin (k := x) (by omega) (by omega)
  have fy := FromInt_fin (k := y) (by omega) (by omega)
  have l1 := less_whole (m := x) (n := y) (by omega) (by omega) (by omega) (by omega)
  have l2 := less_whole (m := y) (n := x) (by omega) (by omega) (by omega) (by omega)
  obtain ⟨o1, o2, o3⟩ := order_laws ux uy (fin_num fx).1 (fin_num fy).1
  rw [l1, l2] at o2 o3
  have t : ∀ (e l : Bool), (if e = true then (18445336698825998339 : Int) else wB l) = wB (e || l) := fun e l => by cases e <;> rfl
  unfold testsI
  rw [l1, l2, t, t, o2, o3]
  have e1 : (!decide (y < x)) = decide (x ≤ y) := by
    by_cases c : y < x
    · rw [decide_eq_true c, decide_eq_false (by omega)]; rfl
    · rw [decide_eq_false c, decide_eq_true (by omega)]; rfl
  have e2 : (!decide (x < y)) = decide (y ≤ x) := by
    by_cases c : x < y
    · rw [decide_eq_true c, decide_eq_false (by omega)]; rfl
    · rw [decide_eq_false c, decide_eq_true (by omega)]; rfl
  rw [e1, e2]
/-- what is done at once is what is done in full, wherever that is whole or a truth. -/
theorem fast_quick {op x y : Int} (x0 : -2147483648 ≤ x) (x1 : x < 2147483648) (y0 : -2147483648 ≤ y) (y1 : y < 2147483648) (h0 : 21 ≤ op) (h1 : op ≤ 35) : fastI op x y = quick (slowI op (FromIntG x) (FromIntG y)) := by
  have : op = 21 ∨ op = 22 ∨ op = 23 ∨ op = 24 ∨ op = 25 ∨ op = 26 ∨ op = 27 ∨ op = 28 ∨ op = 29 ∨ op = 30 ∨ op = 31 ∨ op = 32 ∨ op = 33 ∨ op = 34 ∨ op = 35 := by omega
  have w := wrap32_bd (x * 2 ^ cnt y)
  have s := shift_bd (cnt y) x0 x1
  have u := ushift_bd (cnt y) x
  have b1 := bits_wrap .and x y
  have b2 := bits_wrap .or x y
  have b3 := bits_wrap .xor x y
  have i1 := I32_back x0 x1
  have i2 := I32_back y0 y1
  unfold fastI slowI
  rcases this with rfl | rfl | rfl | rfl | rfl | rfl | rfl | rfl | rfl | rfl | rfl | rfl | rfl | rfl | rfl <;> simp only [Int.reduceEq, if_false, reduceIte, Int.reduceLE]
  · rw [add_whole (by omega) (by omega) (by omega) (by omega), quick_whole (by omega) (by omega)]
  · rw [sub_whole (by omega) (by omega) (by omega) (by omega), quick_whole (by omega) (by omega)]
  · exact (quick_mul x0 x1 y0 y1).symm
  · exact (quick_div x0 x1 y0 y1).symm
  · exact (quick_rem x0 x1 y0 y1).symm
  · rw [i1, i2]; unfold bitsI; simp only [Int.reduceEq, if_false, reduceIte]; rw [num_int_word (by omega) (by omega), quick_int]
  · rw [i1, i2]; unfold bitsI; simp only [Int.reduceEq, if_false, reduceIte]; rw [num_int_word (by omega) (by omega), quick_int]
  · rw [i1, i2]; unfold bitsI; simp only [Int.reduceEq, if_false, reduceIte]; rw [near_int u.1, quick_whole (by omega) (by omega)]
  · rw [i1, i2]; unfold bitsI; simp only [Int.reduceEq, if_false, reduceIte]; rw [num_int_word (by omega) (by omega), quick_int]
  · rw [i1, i2]; unfold bitsI; simp only [Int.reduceEq, if_false, reduceIte]; rw [num_int_word (by omega) (by omega), quick_int]
  · rw [i1, i2]; unfold bitsI; simp only [Int.reduceEq, if_false, reduceIte]; rw [num_int_word (by omega) (by omega), quick_int]
  · rw [tests_ints x0 x1 y0 y1, if_neg (by decide), if_neg (by decide), if_neg (by decide), quick_wB]
  · rw [tests_ints x0 x1 y0 y1, if_neg (by decide), if_pos rfl, quick_wB]
  · rw [tests_ints x0 x1 y0 y1, if_neg (by decide), if_neg (by decide), if_pos rfl, quick_wB]
  · rw [tests_ints x0 x1 y0 y1, if_pos rfl, quick_wB]
/-- Fast, of whatever two words, by Slow. -/
theorem FastG_eq {op a b : Int} (ha : U64 a) (hb : U64 b) (h : (tg a 65529 && tg b 65529) = true) (h0 : 21 ≤ op) (h1 : op ≤ 35) : FastG op a b = quick (SlowG op a b) := by
  have h' := h
  rw [Bool.and_eq_true] at h
  obtain ⟨x0, x1⟩ := pI_bd a 65529
  obtain ⟨y0, y1⟩ := pI_bd b 65529
  have e1 := wI_of_tg ha h.1
  have e2 := wI_of_tg hb h.2
  have s := slow_ints x0 x1 y0 y1 h0 h1
  rw [e1, e2] at s
  unfold FastG
  rw [if_pos h', fast_quick x0 x1 y0 y1 h0 h1, s]
end Fp
