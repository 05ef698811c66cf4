/- Plain facts on tagged words. -/
import Derived.Test.YtkiakflmoplmeaaFg
namespace Fp
open Go Go.RowKit
set_option linter.unusedVariables false
set_option linter.unusedSimpArgs false

theorem or_join (c b : Nat) (hc : c < 65536) (hb : b < 281474976710656) : bits .or .u64 ((281474976710656 * c : Nat) : Int) (b : Int) = ((281474976710656 * c + b : Nat) : Int) := by
  rw [bits_or64 _ _ (by omega) (by omega)]
  have h : b < 2 ^ 48 := by omega
  have := Nat.two_pow_add_eq_or_of_lt h c
  have e : 2 ^ 48 = 281474976710656 := by decide
  rw [e] at this
  rw [this]
theorem wI_eq (n : Int) : wI n = 18444773748872577024 + n % 4294967296 := by
  unfold wI
  obtain ⟨b, hb⟩ := Int.eq_ofNat_of_zero_le (show 0 ≤ n % 4294967296 by omega)
  have := or_join 65529 b (by omega) (by omega)
  have e : ((281474976710656 * 65529 : Nat) : Int) = 18444773748872577024 := by decide
  rw [e] at this
  rw [hb, this]; omega
theorem wO_eq (n : Int) (h0 : 0 ≤ n) (h1 : n < 4294967296) : Go.bits .or .u64 18445055223849287680 n = 18445055223849287680 + n := by
  obtain ⟨b, rfl⟩ := Int.eq_ofNat_of_zero_le h0
  have := or_join 65530 b (by omega) (by omega)
  have e : ((281474976710656 * 65530 : Nat) : Int) = 18445055223849287680 := by decide
  rw [e] at this
  rw [this]; omega
theorem wT_eq (n : Int) (h0 : 0 ≤ n) (h1 : n < 4294967296) : Go.bits .or .u64 18445618173802708992 n = 18445618173802708992 + n := by
  obtain ⟨b, rfl⟩ := Int.eq_ofNat_of_zero_le h0
  have := or_join 65532 b (by omega) (by omega)
  have e : ((281474976710656 * 65532 : Nat) : Int) = 18445618173802708992 := by decide
  rw [e] at this
  rw [this]; omega
theorem and_low (x : Int) (h0 : 0 ≤ x) (h1 : x < 18446744073709551616) : Go.bits .and .u64 x 65535 = x % 65536 := by
  obtain ⟨n, rfl⟩ := Int.eq_ofNat_of_zero_le h0
  have := and_mask n 16 (by omega) (by omega)
  have e : ((2 ^ 16 - 1 : Nat) : Int) = 65535 := by decide
  rw [e] at this
  rw [this]; omega
theorem tg_iff (a t : Int) : tg a t = true ↔ a / 4294967296 = t * 65536 := by simp [tg]
theorem tg_not (a t : Int) : tg a t = false ↔ ¬ a / 4294967296 = t * 65536 := by simp [tg]
theorem wrap32_eq (n : Int) (h0 : -2147483648 ≤ n) (h1 : n < 2147483648) : wrap32 (n % 4294967296) = n := by unfold wrap32; omega
/-- what can be, of the three tags -/
theorem right_tag {a t : Int} (ht : t = 65529 ∨ t = 65530 ∨ t = 65532) (ha : U64 a) (h : a / 281474976710656 = t) : RightG a = decide (a / 4294967296 = t * 65536) := by
  have h1 := ha.lo
  have h2 := ha.hi
  have hc : (a / 281474976710656 == 65529 || (a / 281474976710656 == 65530 || a / 281474976710656 == 65532)) = true := by
    rcases ht with rfl | rfl | rfl <;> simp [h]
  unfold RightG
  rw [if_pos hc, and_low _ (by omega) (by omega)]
  by_cases hx : a / 4294967296 = t * 65536
  · have : a / 4294967296 % 65536 = 0 := by omega
    rw [this, decide_eq_true hx]; rfl
  · rw [decide_eq_false hx]
    have : ¬ a / 4294967296 % 65536 = 0 := by omega
    exact beq_eq_false_iff_ne.mpr this
theorem right_small {a : Int} (h : a / 281474976710656 = 65531) : RightG a = decide (a ≤ 18445336698825998340) := by
  unfold RightG
  rw [h, if_neg (by decide), if_pos (by decide)]
theorem wI_u64 (n : Int) : U64 (wI n) := by rw [wI_eq]; exact ⟨by omega, by omega⟩
theorem wI_tg (n : Int) : tg (wI n) 65529 = true := by rw [tg_iff, wI_eq]; omega
theorem wI_pI {n : Int} (h0 : -2147483648 ≤ n) (h1 : n < 2147483648) : pI (wI n) 65529 = n := by
  unfold pI
  rw [if_pos (wI_tg n), wI_eq]
  have : (18444773748872577024 + n % 4294967296) % 4294967296 = n % 4294967296 := by omega
  rw [this, wrap32_eq n h0 h1]
theorem wI_right (n : Int) : RightG (wI n) = true := by
  rw [right_tag (t := 65529) (.inl rfl) (wI_u64 n) (by rw [wI_eq]; omega)]
  exact decide_eq_true (by rw [wI_eq]; omega)
theorem alive_right : RightG 18445336698825998336 = true := by rw [right_small (by decide)]; rfl
theorem tag_facts {t n : Int} (ht : t = 65530 ∨ t = 65532) (h0 : 0 ≤ n) (h1 : n < 4294967296) (x : Int) (hx : x = t * 281474976710656 + n) :
    U64 x ∧ tg x t = true ∧ pU x t = n ∧ RightG x = true ∧ (∀ u, u ≠ t → 0 ≤ u → u < 65536 → tg x u = false) := by
  have hu : U64 x := by rcases ht with rfl | rfl <;> exact ⟨by omega, by omega⟩
  have hd : x / 4294967296 = t * 65536 := by omega
  have htg : tg x t = true := (tg_iff x t).2 hd
  refine ⟨hu, htg, ?_, ?_, ?_⟩
  · unfold pU; rw [if_pos htg]; omega
  · rw [right_tag (t := t) (by rcases ht with rfl | rfl <;> simp) hu (by omega)]
    exact decide_eq_true hd
  · intro u hu1 hu2 hu3
    rw [tg_not]; omega
end Fp
