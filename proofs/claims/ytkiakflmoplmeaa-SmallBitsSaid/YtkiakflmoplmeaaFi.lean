/- Plain facts: Near, FromInt, Whole of package soft by the model's rounding; whole numbers come back. -/
import Derived.Test.YtkiakflmoplmeaaFh
namespace Fp
open Go Go.RowKit Ieee
set_option linter.unusedVariables false
set_option linter.unusedSimpArgs false

theorem shl_eq (M : Nat) (hz : M ≠ 0) (hM : M < 18446744073709551616) :
    shlG (M : Int) = ((M * 2 ^ (63 - M.log2) : Nat) : Int) ∧ 9223372036854775808 ≤ M * 2 ^ (63 - M.log2) ∧ M * 2 ^ (63 - M.log2) < 18446744073709551616 ∧ lz (M : Int) = ((63 - M.log2 : Nat) : Int) := by
  have hu : U64 (M : Int) := ⟨by omega, by omega⟩
  have hlz := lz_eq hu (by omega)
  rw [Int.toNat_natCast] at hlz
  have g1 : M.log2 < 64 := (Nat.log2_lt hz).2 (by omega)
  have g2 := log2_lo hz
  have g3 := log2_hi hz
  have hK := Nat.two_pow_pos (63 - M.log2)
  have e63' : 2 ^ M.log2 * 2 ^ (63 - M.log2) = 9223372036854775808 := by rw [← Nat.pow_add, show M.log2 + (63 - M.log2) = 63 from by omega]
  have lo : 9223372036854775808 ≤ M * 2 ^ (63 - M.log2) := by
    have := Nat.mul_le_mul_right (2 ^ (63 - M.log2)) g2; omega
  have hi : M * 2 ^ (63 - M.log2) < 18446744073709551616 := by
    have := Nat.mul_lt_mul_of_pos_right g3 hK
    rw [Nat.pow_succ, Nat.mul_comm (2 ^ M.log2) 2, Nat.mul_assoc, e63'] at this; omega
  have elz : (lz (M : Int)).toNat = 63 - M.log2 := by omega
  refine ⟨?_, lo, hi, by omega⟩
  unfold shlG
  rw [elz, cpow, ← Int.natCast_mul, u64_id ⟨Int.natCast_nonneg _, by omega⟩]

theorem nearN_false (M : Nat) (e : Int) (hz : M ≠ 0) (hM : M < 18446744073709551616) (h0 : -6000 ≤ e) (h1 : e ≤ 6000) :
    nearN (M : Int) e false = ((near2 false M false e : Nat) : Int) := by
  obtain ⟨es, lo, hi, el⟩ := shl_eq M hz hM
  have g1 : M.log2 < 64 := (Nat.log2_lt hz).2 (by omega)
  unfold nearN
  rw [if_neg (by simp), es, nearG_eq false _ _ false lo hi (by omega) (by omega), near2_scale _ _ _ _ hz]
  have : e - lz (M : Int) + ((63 - M.log2 : Nat) : Int) = e := by omega
  rw [this]

theorem nearN_true (M : Nat) (e : Int) (hz : M ≠ 0) (hM : M < 18446744073709551616) (h0 : -6000 ≤ e) (h1 : e ≤ 6000) :
    nearN (M : Int) e true = if M < 9223372036854775808 then ((near2 false (2 * M + 1) false (e - 1) : Nat) : Int) else ((near2 false M true e : Nat) : Int) := by
  obtain ⟨es, lo, hi, el⟩ := shl_eq M hz hM
  have g1 : M.log2 < 64 := (Nat.log2_lt hz).2 (by omega)
  have g2 := log2_lo hz
  have g3 := log2_hi hz
  unfold nearN
  by_cases hc : M < 9223372036854775808
  · have hl : M.log2 < 63 := (Nat.log2_lt hz).2 (by omega)
    rw [if_pos ⟨rfl, by omega⟩, if_pos hc]
    unfold orG
    have e1 : (lz (M : Int)).toNat - 1 = 62 - M.log2 := by omega
    have p2 : 2 ^ (62 - M.log2) * 2 = 2 ^ (63 - M.log2) := by rw [← Nat.pow_succ]; congr 1; omega
    have p3 : 2 ^ (62 - M.log2) ≤ 2 ^ 62 := Nat.pow_le_pow_right (by omega) (by omega)
    have hK := Nat.two_pow_pos (62 - M.log2)
    rw [es, e1, cpow, u64_id ⟨Int.natCast_nonneg _, by omega⟩, bits_or64 _ _ hi (by omega)]
    have hor : M * 2 ^ (63 - M.log2) ||| 2 ^ (62 - M.log2) = M * 2 ^ (63 - M.log2) + 2 ^ (62 - M.log2) := by
      have h := Nat.two_pow_add_eq_or_of_lt (i := 63 - M.log2) (b := 2 ^ (62 - M.log2)) (by omega) M
      rw [Nat.mul_comm M, ← h]
    rw [hor]
    have hM2 : M * 2 ^ (63 - M.log2) + 2 ^ (62 - M.log2) = (2 * M + 1) * 2 ^ (62 - M.log2) := by
      rw [Nat.add_mul, ← p2, Nat.one_mul]; congr 1
      rw [Nat.mul_comm (2 ^ (62 - M.log2)) 2, ← Nat.mul_assoc, Nat.mul_comm M 2]
    have hlt : (2 * M + 1) * 2 ^ (62 - M.log2) < 18446744073709551616 := by
      have h2 : 2 * M + 1 < 2 ^ (M.log2 + 2) := by rw [Nat.pow_succ]; omega
      have h3 := Nat.mul_lt_mul_of_pos_right h2 hK
      have h4 : 2 ^ (M.log2 + 2) * 2 ^ (62 - M.log2) = 18446744073709551616 := by rw [← Nat.pow_add, show M.log2 + 2 + (62 - M.log2) = 64 from by omega]
      omega
    rw [hM2, nearG_eq false _ _ false (by omega) hlt (by omega) (by omega), near2_scale _ _ _ _ (by omega)]
    have : e - lz (M : Int) + ((62 - M.log2 : Nat) : Int) = e - 1 := by omega
    rw [this]
  · have hl : M.log2 = 63 := log2_63 (by omega) hM
    rw [if_neg (by omega), if_neg hc, es]
    have : M * 2 ^ (63 - M.log2) = M := by rw [hl]; simp
    rw [this, el, hl, nearG_eq false M _ true (by omega) hM (by omega) (by omega)]
    simp

def rung (n : Nat) (h : Bool) (p : Int) : Nat :=
  min ((max (p + n.log2 - 52) (-1074) + 1074).toNat * 2 ^ 52 + rne (n * 2 ^ (p - max (p + n.log2 - 52) (-1074)).toNat) h (max (p + n.log2 - 52) (-1074) - p).toNat) double.infRung
theorem near2_word (neg : Bool) (n : Nat) (h : Bool) (p : Int) : near2 neg n h p = double.word neg (rung n h p) := by
  unfold near2 rung; exact Eq.refl _
theorem rung_le (n : Nat) (h : Bool) (p : Int) : rung n h p ≤ 9218868437227405312 := by
  unfold rung; rw [← infRung_d]; exact Nat.min_le_right _ _
theorem near2_neg (n : Nat) (h : Bool) (p : Int) : ((near2 true n h p : Nat) : Int) = sgnG true ((near2 false n h p : Nat) : Int) := by
  rw [near2_word, near2_word]
  have hlt : rung n h p < 9223372036854775808 := Nat.lt_of_le_of_lt (rung_le n h p) (by decide)
  generalize rung n h p = r at *
  have e : double.word false r = r := by unfold Format.word; simp
  rw [← sgn_word true r hlt, e]

/-- FromInt is the nearest. -/
theorem FromInt_eq (n : Int) (h0 : -9223372036854775808 ≤ n) (h1 : n < 9223372036854775808) (hz : n ≠ 0) :
    FromIntG n = ((near2 (decide (n < 0)) n.natAbs false 0 : Nat) : Int) := by
  have c0 : cl 0 = 0 := by decide
  have key : ∀ m : Nat, m ≠ 0 → m < 18446744073709551616 → NearG (m : Int) 0 false = ((near2 false m false 0 : Nat) : Int) := fun m hm hm2 => by
    unfold NearG
    rw [if_neg (by omega), c0, nearN_false m 0 hm hm2 (by omega) (by omega)]
  unfold FromIntG
  by_cases hn : n < 0
  · rw [if_pos hn, decide_eq_true hn]
    have e : IntKind.u64.wrap (-IntKind.u64.wrap n) = (n.natAbs : Int) := by rw [u64_wrap, u64_wrap]; omega
    rw [e, key _ (by omega) (by omega), near2_neg]
  · rw [if_neg hn, decide_eq_false hn]
    have e : n = (n.natAbs : Int) := by omega
    rw [e, key _ (by omega) (by omega)]
    simp
theorem FromInt_zero : FromIntG 0 = 0 := by decide

theorem wrap64_id {n : Int} (h0 : -9223372036854775808 ≤ n) (h1 : n < 9223372036854775808) : wrap64 n = n := by unfold wrap64; omega

theorem kind_some {a : Int} (hz : ¬ sz a = 0) (hf : sz a < 9218868437227405312) : kindS a = 1 := by rw [kindS, if_neg hz, if_pos hf]

theorem wholeV_eq {a q : Int} (h : oman a / 2 ^ (-oexp a).toNat = q) (h0 : 0 ≤ q) (h1 : q < 9007199254740992) : wholeV a = if ngb a = true then -q else q := by
  unfold wholeV
  rw [h]
  cases ngb a
  · simp only [Bool.false_eq_true, if_false]; exact wrap64_id (by omega) (by omega)
  · simp only [if_true]; rw [wrap64_id (n := q) (by omega) (by omega)]; exact wrap64_id (by omega) (by omega)
/-- Whole, of an opened form that is a whole number. -/
theorem whole_of {a : Int} (hu : U64 a) (hz : ¬ sz a = 0) (hf : sz a < 9218868437227405312) (m : Nat) (hm : m ≠ 0) (hm2 : m < 9007199254740992)
    (ho : oman a = ((m * 2 ^ (63 - m.log2) : Nat) : Int)) (he : oexp a = -((63 - m.log2 : Nat) : Int)) :
    WholeG a = (if ngb a then -(m : Int) else (m : Int), true) := by
  have hl : m.log2 < 53 := (Nat.log2_lt hm).2 (by omega)
  have ha : a ≠ 0 := by intro h; apply hz; rw [sz_eq hu, h]; rfl
  unfold WholeG
  have c3 : IntKind.u64.wrap (oman a * 2 ^ (64 + oexp a).toNat) = 0 := by
    have e1 : (64 + oexp a).toNat = m.log2 + 1 := by omega
    have e2 : m * 2 ^ (63 - m.log2) * 2 ^ (m.log2 + 1) = m * 18446744073709551616 := by
      rw [Nat.mul_assoc, ← Nat.pow_add, show 63 - m.log2 + (m.log2 + 1) = 64 from by omega]
    rw [e1, ho, cpow, ← Int.natCast_mul, e2, u64_wrap]
    omega
  rw [if_neg ha, if_neg (by simp [kind_some hz hf]), if_neg (by rw [c3]; omega)]
  have e1 : (-oexp a).toNat = 63 - m.log2 := by omega
  have e2 : oman a / 2 ^ (-oexp a).toNat = (m : Int) := by
    rw [e1, ho, cpow, ← Int.natCast_ediv, Nat.mul_div_cancel _ (Nat.two_pow_pos _)]
  rw [wholeV_eq e2 (by omega) (by omega)]

/-- a whole number below 2^53 in size, as a word, and back. -/
theorem Whole_FromInt (n : Int) (h0 : -9007199254740992 < n) (h1 : n < 9007199254740992) : WholeG (FromIntG n) = (n, true) := by
  by_cases hz : n = 0
  · subst hz; rw [FromInt_zero]; rfl
  · rw [FromInt_eq n (by omega) (by omega) hz]
    have hm : n.natAbs ≠ 0 := by omega
    have hl : n.natAbs.log2 < 53 := (Nat.log2_lt hm).2 (by omega)
    obtain ⟨hu, hn, hs, hf, ho, he⟩ := small_read (decide (n < 0)) n.natAbs 0 hm (by omega) (by omega) (by omega)
    rw [whole_of hu hs hf n.natAbs hm (by omega) ho (by omega), hn]
    by_cases hc : n < 0
    · rw [decide_eq_true hc, if_pos rfl]; congr 1; omega
    · rw [decide_eq_false hc, if_neg (by decide)]; congr 1; omega

/-- what Whole finds is the word's number. -/
theorem FromInt_Whole {a : Int} (hu : U64 a) (hw : (WholeG a).2 = true) : FromIntG (WholeG a).1 = a ∧ -9007199254740992 < (WholeG a).1 ∧ (WholeG a).1 < 9007199254740992 := by
  unfold WholeG at hw ⊢
  by_cases h0 : a = 0
  · rw [if_pos h0]; subst h0; exact ⟨FromInt_zero, by decide, by decide⟩
  · rw [if_neg h0] at hw ⊢
    by_cases hk : kindS a = 1
    · rw [if_neg (by simp [hk])] at hw ⊢
      by_cases hc : (oexp a + 63 < 0 ∨ 52 < oexp a + 63) ∨ IntKind.u64.wrap (oman a * 2 ^ (64 + oexp a).toNat) ≠ 0
      · rw [if_pos hc] at hw; simp at hw
      · rw [if_neg hc]
        have c1 : 0 ≤ oexp a + 63 ∧ oexp a + 63 ≤ 52 := by omega
        have c3 : IntKind.u64.wrap (oman a * 2 ^ (64 + oexp a).toNat) = 0 := Decidable.not_not.mp fun h => hc (.inr h)
        rcases kind_cases a with h | ⟨_, hz, hf⟩ | h | h <;> try (exfalso; omega)
        have op := opened hu hz
        have lo := op.lo
        have hi := op.hi
        obtain ⟨X, hX⟩ := Int.eq_ofNat_of_zero_le (show 0 ≤ oman a by omega)
        obtain ⟨s, hs⟩ : ∃ s : Nat, oexp a = -(s : Int) := ⟨(-oexp a).toNat, by omega⟩
        have hs2 : 11 ≤ s ∧ s ≤ 63 := by omega
        have e1 : (64 + oexp a).toNat = 64 - s := by omega
        have e2 : (-oexp a).toNat = s := by omega
        rw [e1, hX, wrap_shift X s (by omega)] at c3
        have hK := Nat.two_pow_pos (64 - s)
        have hS := Nat.two_pow_pos s
        have hmod : X % 2 ^ s = 0 := by
          rcases Nat.mul_eq_zero.1 (by omega : X % 2 ^ s * 2 ^ (64 - s) = 0) with h | h
          · exact h
          · omega
        have hdm := Nat.div_add_mod X (2 ^ s)
        rw [hmod, Nat.add_zero, Nat.mul_comm] at hdm
        have hk0 : X / 2 ^ s < 9007199254740992 := by
          have h11 : 2 ^ 11 ≤ 2 ^ s := Nat.pow_le_pow_right (by omega) hs2.1
          have := Nat.div_le_div_left h11 (by decide) (a := X)
          omega
        have hkp : X / 2 ^ s ≠ 0 := by
          intro h
          rw [h] at hdm; omega
        have e3 : oman a / 2 ^ (-oexp a).toNat = ((X / 2 ^ s : Nat) : Int) := by rw [e2, hX, cpow, ← Int.natCast_ediv]
        generalize X / 2 ^ s = q at *
        have hv := wholeV_eq e3 (by omega) (by omega)
        have hself := self_near hu hz hf
        rw [hX, Int.toNat_natCast, ← hdm, near2_scale _ _ _ _ hkp, hs] at hself
        have z : -(s : Int) + (s : Int) = 0 := by omega
        rw [z] at hself
        show FromIntG (wholeV a) = a ∧ _ ∧ _
        cases hng : ngb a
        · rw [hng] at hv hself
          simp only [Bool.false_eq_true, if_false] at hv
          rw [hv]
          refine ⟨?_, by omega, by omega⟩
          rw [FromInt_eq _ (by omega) (by omega) (by omega), decide_eq_false (by omega), Int.natAbs_natCast]
          exact hself
        · rw [hng] at hv hself
          simp only [if_true] at hv
          rw [hv]
          refine ⟨?_, by omega, by omega⟩
          rw [FromInt_eq _ (by omega) (by omega) (by omega), decide_eq_true (by omega), Int.natAbs_neg, Int.natAbs_natCast]
          exact hself
    · rw [if_pos hk] at hw; simp at hw
end Fp
