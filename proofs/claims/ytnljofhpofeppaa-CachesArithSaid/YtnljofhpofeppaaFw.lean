/- Plain facts on tagged words. -/
import Derived.Test.YtnljofhpofeppaaFg
import Derived.Test.YtnljofhpofeppaaFc
namespace Fp
open Go Go.RowKit
set_option linter.unusedVariables false
set_option linter.unusedSimpArgs false

theorem or_join (c b : Nat) (hc : c < 65536) (hb : b < 281474976710656) : bits .or .u64 ((281474976710656 * c : Nat) : Int) (b : Int) = ((281474976710656 * c + b : Nat) : Int) := by
  rw [bits_or64 _ _ (by omega) (by omega)]
  have h : b < 2 ^ 48 := by omega
  have := Nat.two_pow_add_eq_or_of_lt h c
  have e : 2 ^ 48 = 281474976710656 := by decide
  rw [e] at this
  rw [this]
theorem wI_eq (n : Int) : wI n = 18444773748872577024 + n % 4294967296 := by
  unfold wI
  obtain ⟨b, hb⟩ := Int.eq_ofNat_of_zero_le (show 0 ≤ n % 4294967296 by omega)
  have := or_join 65529 b (by omega) (by omega)
  have e : ((281474976710656 * 65529 : Nat) : Int) = 18444773748872577024 := by decide
  rw [e] at this
  rw [hb, this]; omega
theorem wO_eq (n : Int) (h0 : 0 ≤ n) (h1 : n < 4294967296) : Go.bits .or .u64 18445055223849287680 n = 18445055223849287680 + n := by
  obtain ⟨b, rfl⟩ := Int.eq_ofNat_of_zero_le h0
  have := or_join 65530 b (by omega) (by omega)
  have e : ((281474976710656 * 65530 : Nat) : Int) = 18445055223849287680 := by decide
  rw [e] at this
  rw [this]; omega
theorem wT_eq (n : Int) (h0 : 0 ≤ n) (h1 : n < 4294967296) : Go.bits .or .u64 18445618173802708992 n = 18445618173802708992 + n := by
  obtain ⟨b, rfl⟩ := Int.eq_ofNat_of_zero_le h0
  have := or_join 65532 b (by omega) (by omega)
  have e : ((281474976710656 * 65532 : Nat) : Int) = 18445618173802708992 := by decide
  rw [e] at this
  rw [this]; omega
theorem and_low (x : Int) (h0 : 0 ≤ x) (h1 : x < 18446744073709551616) : Go.bits .and .u64 x 65535 = x % 65536 := by
  obtain ⟨n, rfl⟩ := Int.eq_ofNat_of_zero_le h0
  have := and_mask n 16 (by omega) (by omega)
  have e : ((2 ^ 16 - 1 : Nat) : Int) = 65535 := by decide
  rw [e] at this
  rw [this]; omega
theorem tg_iff (a t : Int) : tg a t = true ↔ a / 4294967296 = t * 65536 := by simp [tg]
theorem tg_not (a t : Int) : tg a t = false ↔ ¬ a / 4294967296 = t * 65536 := by simp [tg]
theorem wrap32_eq (n : Int) (h0 : -2147483648 ≤ n) (h1 : n < 2147483648) : wrap32 (n % 4294967296) = n := by unfold wrap32; omega
/-- what can be, of the three tags -/
theorem right_tag {a t : Int} (ht : t = 65529 ∨ t = 65530 ∨ t = 65532) (ha : U64 a) (h : a / 281474976710656 = t) : RightG a = decide (a / 4294967296 = t * 65536) := by
  have h1 := ha.lo
  have h2 := ha.hi
  have hc : (a / 281474976710656 == 65529 || (a / 281474976710656 == 65530 || a / 281474976710656 == 65532)) = true := by
    rcases ht with rfl | rfl | rfl <;> simp [h]
  unfold RightG
  rw [if_pos hc, and_low _ (by omega) (by omega)]
  by_cases hx : a / 4294967296 = t * 65536
  · have : a / 4294967296 % 65536 = 0 := by omega
    rw [this, decide_eq_true hx]; rfl
  · rw [decide_eq_false hx]
    have : ¬ a / 4294967296 % 65536 = 0 := by omega
    exact beq_eq_false_iff_ne.mpr this
theorem right_small {a : Int} (h : a / 281474976710656 = 65531) : RightG a = decide (a ≤ 18445336698825998340) := by
  unfold RightG
  rw [h, if_neg (by decide), if_pos (by decide)]
theorem wI_u64 (n : Int) : U64 (wI n) := by rw [wI_eq]; exact ⟨by omega, by omega⟩
theorem wI_tg (n : Int) : tg (wI n) 65529 = true := by rw [tg_iff, wI_eq]; omega
theorem wI_pI {n : Int} (h0 : -2147483648 ≤ n) (h1 : n < 2147483648) : pI (wI n) 65529 = n := by
  unfold pI
  rw [if_pos (wI_tg n), wI_eq]
  have : (18444773748872577024 + n % 4294967296) % 4294967296 = n % 4294967296 := by omega
  rw [this, wrap32_eq n h0 h1]
theorem wI_right (n : Int) : RightG (wI n) = true := by
  rw [right_tag (t := 65529) (.inl rfl) (wI_u64 n) (by rw [wI_eq]; omega)]
  exact decide_eq_true (by rw [wI_eq]; omega)
theorem alive_right : RightG 18445336698825998336 = true := by rw [right_small (by decide)]; rfl
theorem tag_facts {t n : Int} (ht : t = 65530 ∨ t = 65532) (h0 : 0 ≤ n) (h1 : n < 4294967296) (x : Int) (hx : x = t * 281474976710656 + n) :
    U64 x ∧ tg x t = true ∧ pU x t = n ∧ RightG x = true ∧ (∀ u, u ≠ t → 0 ≤ u → u < 65536 → tg x u = false) := by
  have hu : U64 x := by rcases ht with rfl | rfl <;> exact ⟨by omega, by omega⟩
  have hd : x / 4294967296 = t * 65536 := by omega
  have htg : tg x t = true := (tg_iff x t).2 hd
  refine ⟨hu, htg, ?_, ?_, ?_⟩
  · unfold pU; rw [if_pos htg]; omega
  · rw [right_tag (t := t) (by rcases ht with rfl | rfl <;> simp) hu (by omega)]
    exact decide_eq_true hd
  · intro u hu1 hu2 hu3
    rw [tg_not]; omega
end Fp
namespace Fp
open Go Go.RowKit Ieee
set_option linter.unusedVariables false
set_option linter.unusedSimpArgs false

theorem nan_iff (a : Int) : isNaN a = true ↔ 9218868437227405312 < sz a := by
  unfold isNaN
  rcases kind_cases a with ⟨h, g⟩ | ⟨h, g1, g2⟩ | ⟨h, g⟩ | ⟨h, g1, g2⟩ <;> rw [h] <;> simp <;> omega
theorem pI_bd (a t : Int) : -2147483648 ≤ pI a t ∧ pI a t < 2147483648 := by
  unfold pI; split
  · exact wrap32_bd _
  · omega
def canon (a : Int) : Int := if isNaN a = true then 9221120237041090560 else a
theorem C_u64 : U64 9221120237041090560 := ⟨by decide, by decide⟩
theorem C_nan : isNaN 9221120237041090560 = true := by rw [nan_iff, sz_eq C_u64]; decide
theorem C_num : NumberG 9221120237041090560 = 9221120237041090560 := if_pos C_nan
theorem canon_u64 {a : Int} (h : U64 a) : U64 (canon a) := by unfold canon; split; exact C_u64; exact h
theorem num_canon (a : Int) : NumberG (canon a) = NumberG a := by
  unfold canon
  by_cases h : isNaN a = true
  · rw [if_pos h, C_num, NumberG, if_pos h]
  · rw [if_neg h]

theorem not_nan_bd {a : Int} (hu : U64 a) (h : ¬ isNaN a = true) : a < 18442240474082181121 := by
  rw [nan_iff, sz_eq hu] at h
  have := hu.lo; have := hu.hi; omega
theorem not_nan_top {a : Int} (hu : U64 a) (h : ¬ isNaN a = true) : a / 281474976710656 < 65529 := by
  have := not_nan_bd hu h; omega

/-- a word that is its own number -/
theorem own_facts {a : Int} (hu : U64 a) (ht : a / 281474976710656 < 65529) (hn : NumberG a = a) : RightG a = true ∧ BitsG a = (a, true) := by
  have r : RightG a = true := by
    unfold RightG
    have c1 : ¬ (a / 281474976710656 == 65529 || (a / 281474976710656 == 65530 || a / 281474976710656 == 65532)) = true := by
      simp only [Bool.or_eq_true, beq_iff_eq]; omega
    have c2 : ¬ (a / 281474976710656 == 65531) = true := by rw [beq_iff_eq]; omega
    rw [if_neg c1, if_neg c2, hn]; exact beq_self_eq_true a
  refine ⟨r, ?_⟩
  have t : ¬ tg a 65529 = true := by rw [tg_iff]; omega
  unfold BitsG
  rw [if_neg t, if_pos r, if_neg (by omega)]

theorem bits_wI {k : Int} (h0 : -2147483648 ≤ k) (h1 : k < 2147483648) : BitsG (wI k) = (FromIntG k, true) := by
  unfold BitsG
  rw [if_pos (wI_tg k), wI_pI h0 h1]

theorem num_int {a : Int} (hn : ¬ isNaN a = true) (hw : (WholeG a).2 = true) (hk : is32 (WholeG a).1 = true) : NumberG a = wI (WholeG a).1 ∧ -2147483648 ≤ (WholeG a).1 ∧ (WholeG a).1 < 2147483648 := by
  have e : (WholeG a).1 = wrap32 (WholeG a).1 := beq_iff_eq.mp hk
  have b := wrap32_bd (WholeG a).1
  rw [← e] at b
  refine ⟨?_, b.1, b.2⟩
  unfold NumberG
  rw [if_neg hn, if_pos hw, if_pos hk, ← e]

theorem num_facts {a : Int} (hu : U64 a) : U64 (NumberG a) ∧ RightG (NumberG a) = true ∧ BitsG (NumberG a) = (canon a, true) := by
  by_cases hn : isNaN a = true
  · have e : NumberG a = 9221120237041090560 := if_pos hn
    have c : canon a = 9221120237041090560 := if_pos hn
    rw [e, c]
    obtain ⟨r, b⟩ := own_facts C_u64 (by decide) C_num
    exact ⟨C_u64, r, b⟩
  · have c : canon a = a := if_neg hn
    by_cases hw : (WholeG a).2 = true
    · by_cases hk : is32 (WholeG a).1 = true
      · obtain ⟨e, b0, b1⟩ := num_int hn hw hk
        rw [e, c]
        refine ⟨wI_u64 _, wI_right _, ?_⟩
        rw [bits_wI b0 b1, (FromInt_Whole hu hw).1]
      · have e : NumberG a = a := by unfold NumberG; rw [if_neg hn, if_pos hw, if_neg hk]
        obtain ⟨r, b⟩ := own_facts hu (not_nan_top hu hn) e
        rw [e, c]; exact ⟨hu, r, b⟩
    · have e : NumberG a = a := by unfold NumberG; rw [if_neg hn, if_neg hw]
      obtain ⟨r, b⟩ := own_facts hu (not_nan_top hu hn) e
      rw [e, c]; exact ⟨hu, r, b⟩

/-- two numbers have one word just if they are one. -/
theorem num_once {a b : Int} (ha : U64 a) (hb : U64 b) : (NumberG a == NumberG b) = (canon a == canon b) := by
  by_cases h : canon a = canon b
  · have e : NumberG a = NumberG b := by rw [← num_canon a, ← num_canon b, h]
    rw [beq_iff_eq.mpr h, beq_iff_eq.mpr e]
  · rw [beq_eq_false_iff_ne.mpr h, beq_eq_false_iff_ne.mpr]
    intro e
    apply h
    have h1 := (num_facts ha).2.2
    have h2 := (num_facts hb).2.2
    rw [e, h2] at h1
    exact (Prod.mk.inj h1).1.symm

/-- a whole number of 32 bits comes back. -/
theorem num_FromInt {n : Int} (h0 : -2147483648 ≤ n) (h1 : n < 2147483648) (hu : U64 (FromIntG n)) : NumberG (FromIntG n) = wI n := by
  have w := Whole_FromInt n (by omega) (by omega)
  have hn : ¬ isNaN (FromIntG n) = true := by
    intro h
    have : (WholeG (FromIntG n)).2 = false := by
      rw [nan_iff] at h
      unfold WholeG
      have hz : FromIntG n ≠ 0 := by intro e; rw [e, sz_eq ⟨by decide, by decide⟩] at h; simp at h
      rcases kind_cases (FromIntG n) with ⟨k, g⟩ | ⟨k, g1, g2⟩ | ⟨k, g⟩ | ⟨k, g1, g2⟩
      · omega
      · omega
      · omega
      · rw [if_neg hz, if_pos (by rw [k]; decide)]
    rw [w] at this
    simp at this
  have e : is32 (WholeG (FromIntG n)).1 = true := by
    rw [w]; unfold is32 wrap32; rw [beq_iff_eq]; show n = (n + 2147483648) % 4294967296 - 2147483648; omega
  have := (num_int hn (by rw [w]) e).1
  rw [w] at this
  exact this
theorem FromInt_u64 {n : Int} (h0 : -9007199254740992 < n) (h1 : n < 9007199254740992) : U64 (FromIntG n) := by
  by_cases hz : n = 0
  · subst hz; rw [FromInt_zero]; exact ⟨by decide, by decide⟩
  · rw [FromInt_eq n (by omega) (by omega) hz]
    have hm : n.natAbs ≠ 0 := by omega
    have hl : n.natAbs.log2 < 53 := (Nat.log2_lt hm).2 (by omega)
    exact (small_read (decide (n < 0)) n.natAbs 0 hm (by omega) (by omega) (by omega)).1
end Fp
namespace Fp
open Go Go.RowKit Ieee
set_option linter.unusedVariables false
set_option linter.unusedSimpArgs false
/-- one kind at most: whether it is right; a number; an object; a text; a small one; a tagged whole number -/
structure Kind (a : Int) (r n two three sm one : Bool) : Prop where
  r : RightG a = r
  n : (BitsG a).2 = n
  two : tg a 65530 = two
  three : tg a 65532 = three
  sm : (decide (18445336698825998336 ≤ a) && decide (a ≤ 18445336698825998340)) = sm
  one : tg a 65529 = one
theorem tg_top {a t : Int} (h : ¬ a / 281474976710656 = t) : tg a t = false := by rw [tg_not]; intro g; apply h; omega
theorem sm_top {a : Int} (h : ¬ a / 281474976710656 = 65531) : (decide (18445336698825998336 ≤ a) && decide (a ≤ 18445336698825998340)) = false := by
  by_cases h1 : 18445336698825998336 ≤ a
  · have : ¬ a ≤ 18445336698825998340 := by omega
    rw [decide_eq_false this, Bool.and_false]
  · rw [decide_eq_false h1, Bool.false_and]
theorem bits_wrong {a : Int} (h : RightG a = false) (h1 : tg a 65529 = false) : (BitsG a).2 = false := by
  unfold BitsG; rw [if_neg (by simp [h1]), if_neg (by simp [h])]
theorem bits_tagged {a : Int} (h1 : tg a 65529 = false) (h2 : 65529 ≤ a / 281474976710656) (h3 : a / 281474976710656 ≤ 65532) : (BitsG a).2 = false := by
  unfold BitsG; rw [if_neg (by simp [h1])]
  split
  · rw [if_pos ⟨h2, h3⟩]
  · rfl
theorem bits_num {a : Int} (h : RightG a = true) (h1 : tg a 65529 = false) (h2 : ¬ (65529 ≤ a / 281474976710656 ∧ a / 281474976710656 ≤ 65532)) : BitsG a = (a, true) := by
  unfold BitsG; rw [if_neg (by simp [h1]), if_pos h, if_neg h2]
theorem wI_of_tg {a : Int} (hu : U64 a) (h : tg a 65529 = true) : wI (pI a 65529) = a := by
  have h1 := (tg_iff a 65529).1 h
  unfold pI
  rw [if_pos h, wI_eq]
  unfold wrap32
  have := hu.lo; have := hu.hi
  omega
theorem kinds {a : Int} (hu : U64 a) :
    Kind a false false false false false false ∨ Kind a true true false false false false ∨ Kind a true true false false false true ∨ Kind a true false true false false false ∨ Kind a true false false true false false ∨ Kind a true false false false true false := by
  by_cases t1 : a / 281474976710656 = 65529
  · have r := right_tag (t := 65529) (.inl rfl) hu t1
    have two := tg_top (a := a) (t := 65530) (by omega)
    have three := tg_top (a := a) (t := 65532) (by omega)
    have sm := sm_top (a := a) (by omega)
    cases h : tg a 65529
    · have r' : RightG a = false := by rw [r]; exact h
      exact .inl ⟨r', bits_wrong r' h, two, three, sm, h⟩
    · have r' : RightG a = true := by rw [r]; exact h
      exact .inr (.inr (.inl ⟨r', by unfold BitsG; rw [if_pos h], two, three, sm, h⟩))
  · have one := tg_top t1
    by_cases t2 : a / 281474976710656 = 65530
    · have r := right_tag (t := 65530) (.inr (.inl rfl)) hu t2
      have n := bits_tagged one (by omega) (by omega)
      have three := tg_top (a := a) (t := 65532) (by omega)
      have sm := sm_top (a := a) (by omega)
      cases h : tg a 65530
      · exact .inl ⟨by rw [r]; exact h, n, h, three, sm, one⟩
      · exact .inr (.inr (.inr (.inl ⟨by rw [r]; exact h, n, h, three, sm, one⟩)))
    · have two := tg_top t2
      by_cases t3 : a / 281474976710656 = 65532
      · have r := right_tag (t := 65532) (.inr (.inr rfl)) hu t3
        have n := bits_tagged one (by omega) (by omega)
        have sm := sm_top (a := a) (by omega)
        cases h : tg a 65532
        · exact .inl ⟨by rw [r]; exact h, n, two, h, sm, one⟩
        · exact .inr (.inr (.inr (.inr (.inl ⟨by rw [r]; exact h, n, two, h, sm, one⟩))))
      · have three := tg_top t3
        by_cases t4 : a / 281474976710656 = 65531
        · have r := right_small t4
          have n := bits_tagged one (by omega) (by omega)
          have g : decide (18445336698825998336 ≤ a) = true := decide_eq_true (by omega)
          cases h : decide (a ≤ 18445336698825998340)
          · exact .inl ⟨by rw [r]; exact h, n, two, three, by rw [h, Bool.and_false], one⟩
          · exact .inr (.inr (.inr (.inr (.inr ⟨by rw [r]; exact h, n, two, three, by rw [g, h]; rfl, one⟩))))
        · have sm := sm_top t4
          cases h : RightG a
          · exact .inl ⟨h, bits_wrong h one, two, three, sm, one⟩
          · exact .inr (.inl ⟨h, by rw [bits_num h one (by omega)], two, three, sm, one⟩)
end Fp
