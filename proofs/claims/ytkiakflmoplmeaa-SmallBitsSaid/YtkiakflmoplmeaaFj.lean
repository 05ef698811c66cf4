/- Plain facts: the word of a number, and back. -/
import Derived.Test.YtkiakflmoplmeaaFi
import Derived.Test.YtkiakflmoplmeaaFw
namespace Fp
open Go Go.RowKit Ieee
set_option linter.unusedVariables false
set_option linter.unusedSimpArgs false

theorem nan_iff (a : Int) : isNaN a = true ↔ 9218868437227405312 < sz a := by
  unfold isNaN
  rcases kind_cases a with ⟨h, g⟩ | ⟨h, g1, g2⟩ | ⟨h, g⟩ | ⟨h, g1, g2⟩ <;> rw [h] <;> simp <;> omega
theorem pI_bd (a t : Int) : -2147483648 ≤ pI a t ∧ pI a t < 2147483648 := by
  unfold pI; split
  · exact wrap32_bd _
  · omega
def canon (a : Int) : Int := if isNaN a = true then 9221120237041090560 else a
theorem C_u64 : U64 9221120237041090560 := ⟨by decide, by decide⟩
theorem C_nan : isNaN 9221120237041090560 = true := by rw [nan_iff, sz_eq C_u64]; decide
theorem C_num : NumberG 9221120237041090560 = 9221120237041090560 := if_pos C_nan
theorem canon_u64 {a : Int} (h : U64 a) : U64 (canon a) := by unfold canon; split; exact C_u64; exact h
theorem num_canon (a : Int) : NumberG (canon a) = NumberG a := by
  unfold canon
  by_cases h : isNaN a = true
  · rw [if_pos h, C_num, NumberG, if_pos h]
  · rw [if_neg h]

theorem not_nan_bd {a : Int} (hu : U64 a) (h : ¬ isNaN a = true) : a < 18442240474082181121 := by
  rw [nan_iff, sz_eq hu] at h
  have := hu.lo; have := hu.hi; omega
theorem not_nan_top {a : Int} (hu : U64 a) (h : ¬ isNaN a = true) : a / 281474976710656 < 65529 := by
  have := not_nan_bd hu h; omega

/-- a word that is its own number -/
theorem own_facts {a : Int} (hu : U64 a) (ht : a / 281474976710656 < 65529) (hn : NumberG a = a) : RightG a = true ∧ BitsG a = (a, true) := by
  have r : RightG a = true := by
    unfold RightG
    have c1 : ¬ (a / 281474976710656 == 65529 || (a / 281474976710656 == 65530 || a / 281474976710656 == 65532)) = true := by
      simp only [Bool.or_eq_true, beq_iff_eq]; omega
    have c2 : ¬ (a / 281474976710656 == 65531) = true := by rw [beq_iff_eq]; omega
    rw [if_neg c1, if_neg c2, hn]; exact beq_self_eq_true a
  refine ⟨r, ?_⟩
  have t : ¬ tg a 65529 = true := by rw [tg_iff]; omega
  unfold BitsG
  rw [if_neg t, if_pos r, if_neg (by omega)]

theorem bits_wI {k : Int} (h0 : -2147483648 ≤ k) (h1 : k < 2147483648) : BitsG (wI k) = (FromIntG k, true) := by
  unfold BitsG
  rw [if_pos (wI_tg k), wI_pI h0 h1]

theorem num_int {a : Int} (hn : ¬ isNaN a = true) (hw : (WholeG a).2 = true) (hk : is32 (WholeG a).1 = true) : NumberG a = wI (WholeG a).1 ∧ -2147483648 ≤ (WholeG a).1 ∧ (WholeG a).1 < 2147483648 := by
  have e : (WholeG a).1 = wrap32 (WholeG a).1 := beq_iff_eq.mp hk
  have b := wrap32_bd (WholeG a).1
  rw [← e] at b
  refine ⟨?_, b.1, b.2⟩
  unfold NumberG
  rw [if_neg hn, if_pos hw, if_pos hk, ← e]

theorem num_facts {a : Int} (hu : U64 a) : U64 (NumberG a) ∧ RightG (NumberG a) = true ∧ BitsG (NumberG a) = (canon a, true) := by
  by_cases hn : isNaN a = true
  · have e : NumberG a = 9221120237041090560 := if_pos hn
    have c : canon a = 9221120237041090560 := if_pos hn
    rw [e, c]
    obtain ⟨r, b⟩ := own_facts C_u64 (by decide) C_num
    exact ⟨C_u64, r, b⟩
  · have c : canon a = a := if_neg hn
    by_cases hw : (WholeG a).2 = true
    · by_cases hk : is32 (WholeG a).1 = true
      · obtain ⟨e, b0, b1⟩ := num_int hn hw hk
        rw [e, c]
        refine ⟨wI_u64 _, wI_right _, ?_⟩
        rw [bits_wI b0 b1, (FromInt_Whole hu hw).1]
      · have e : NumberG a = a := by unfold NumberG; rw [if_neg hn, if_pos hw, if_neg hk]
        obtain ⟨r, b⟩ := own_facts hu (not_nan_top hu hn) e
        rw [e, c]; exact ⟨hu, r, b⟩
    · have e : NumberG a = a := by unfold NumberG; rw [if_neg hn, if_neg hw]
      obtain ⟨r, b⟩ := own_facts hu (not_nan_top hu hn) e
      rw [e, c]; exact ⟨hu, r, b⟩

/-- two numbers have one word just if they are one. -/
theorem num_once {a b : Int} (ha : U64 a) (hb : U64 b) : (NumberG a == NumberG b) = (canon a == canon b) := by
  by_cases h : canon a = canon b
  · have e : NumberG a = NumberG b := by rw [← num_canon a, ← num_canon b, h]
    rw [beq_iff_eq.mpr h, beq_iff_eq.mpr e]
  · rw [beq_eq_false_iff_ne.mpr h, beq_eq_false_iff_ne.mpr]
    intro e
    apply h
    have h1 := (num_facts ha).2.2
    have h2 := (num_facts hb).2.2
    rw [e, h2] at h1
    exact (Prod.mk.inj h1).1.symm

/-- a whole number of 32 bits comes back. -/
theorem num_FromInt {n : Int} (h0 : -2147483648 ≤ n) (h1 : n < 2147483648) (hu : U64 (FromIntG n)) : NumberG (FromIntG n) = wI n := by
  have w := Whole_FromInt n (by omega) (by omega)
  have hn : ¬ isNaN (FromIntG n) = true := by
    intro h
    have : (WholeG (FromIntG n)).2 = false := by
      rw [nan_iff] at h
      unfold WholeG
      have hz : FromIntG n ≠ 0 := by intro e; rw [e, sz_eq ⟨by decide, by decide⟩] at h; simp at h
      rcases kind_cases (FromIntG n) with ⟨k, g⟩ | ⟨k, g1, g2⟩ | ⟨k, g⟩ | ⟨k, g1, g2⟩
      · omega
      · omega
      · omega
      · rw [if_neg hz, if_pos (by rw [k]; decide)]
    rw [w] at this
    simp at this
  have e : is32 (WholeG (FromIntG n)).1 = true := by
    rw [w]; unfold is32 wrap32; rw [beq_iff_eq]; show n = (n + 2147483648) % 4294967296 - 2147483648; omega
  have := (num_int hn (by rw [w]) e).1
  rw [w] at this
  exact this
theorem FromInt_u64 {n : Int} (h0 : -9007199254740992 < n) (h1 : n < 9007199254740992) : U64 (FromIntG n) := by
  by_cases hz : n = 0
  · subst hz; rw [FromInt_zero]; exact ⟨by decide, by decide⟩
  · rw [FromInt_eq n (by omega) (by omega) hz]
    have hm : n.natAbs ≠ 0 := by omega
    have hl : n.natAbs.log2 < 53 := (Nat.log2_lt hm).2 (by omega)
    exact (small_read (decide (n < 0)) n.natAbs 0 hm (by omega) (by omega) (by omega)).1
end Fp
