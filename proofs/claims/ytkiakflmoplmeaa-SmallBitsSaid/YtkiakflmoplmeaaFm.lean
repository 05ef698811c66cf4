/- Plain facts: which words are whole numbers, by the model's floor and by package soft. -/
import Derived.Test.YtkiakflmoplmeaaFl
import Derived.Test.YtkiakflmoplmeaaFj
import Derived.Laws.FloatArith
namespace Fp
open Go Go.RowKit Ieee
set_option linter.unusedVariables false
set_option linter.unusedSimpArgs false

theorem V_opened {a : Int} (hu : U64 a) (hz : ¬ sz a = 0) (h : 0 ≤ oexp a + 1074) : V a = (oman a).toNat * 2 ^ (oexp a + 1074).toNat := by
  have op := opened hu hz
  have h1 := op.eq
  have h2 := op.ex
  have h3 := op.l0
  have h4 := op.pos
  unfold V
  generalize lz (mant a) = l at *
  generalize mant a = m at *
  obtain ⟨n, rfl⟩ := Int.eq_ofNat_of_zero_le (Int.le_of_lt h4)
  have e1 : (oman a).toNat = n * 2 ^ l.toNat := by
    rw [h1, cpow, ← Int.natCast_mul, Int.toNat_natCast]
  rw [e1, Int.toNat_natCast, Nat.mul_assoc, ← Nat.pow_add]
  congr 2; omega

/-- 2^1074 -/
def P1074 : Nat := 1074
theorem hP : P1074 = 1074 := rfl
def U : Nat := 2 ^ P1074
theorem U_pos : 0 < U := Nat.two_pow_pos _

/-- a whole number's word: what it stands for. -/
theorem SV_FromInt {k : Int} (h0 : -9007199254740992 < k) (h1 : k < 9007199254740992) : SV (FromIntG k) = k * (U : Int) := by
  by_cases hz : k = 0
  · subst hz; rw [FromInt_zero, Int.zero_mul]; decide
  · have e := FromInt_eq k (by omega) (by omega) hz
    have hm : k.natAbs ≠ 0 := by omega
    have hl : k.natAbs.log2 < 53 := (Nat.log2_lt hm).2 (by omega)
    obtain ⟨hu, hn, hs, hf, ho, he⟩ := small_read (decide (k < 0)) k.natAbs 0 hm (by omega) (by omega) (by omega)
    rw [← e] at hu hn hs hf ho he
    have v := V_opened hu hs (by omega)
    have ee : (oexp (FromIntG k) + 1074).toNat = 1074 - (63 - k.natAbs.log2) := by omega
    have v2 : V (FromIntG k) = k.natAbs * U := by
      have := hP
      rw [v, ho, Int.toNat_natCast, ee, Nat.mul_assoc, ← Nat.pow_add]
      unfold U; congr 2; omega
    unfold SV
    rw [hn, v2]
    by_cases hc : k < 0
    · rw [decide_eq_true hc, if_pos rfl, Int.natCast_mul, ← Int.neg_mul]; congr 1; omega
    · rw [decide_eq_false hc, if_neg (by decide), Int.natCast_mul]; congr 1; omega

theorem FromInt_fin {k : Int} (h0 : -9007199254740992 < k) (h1 : k < 9007199254740992) : sz (FromIntG k) < 9218868437227405312 := by
  by_cases hz : k = 0
  · subst hz; rw [FromInt_zero, sz_eq ⟨by decide, by decide⟩]; decide
  · rw [FromInt_eq k (by omega) (by omega) hz]
    have hm : k.natAbs ≠ 0 := by omega
    have hl : k.natAbs.log2 < 53 := (Nat.log2_lt hm).2 (by omega)
    exact (small_read (decide (k < 0)) k.natAbs 0 hm (by omega) (by omega) (by omega)).2.2.2.1
theorem not_nan_of_fin {a : Int} (h : sz a < 9218868437227405312) : isNaN a = false := by
  rw [Bool.eq_false_iff]; intro g; rw [nan_iff'] at g; omega

/-- a number without parts below 1, made whole, whichever way. -/
theorem cut_exact (way : Toward) (hw : way ≠ .even) (s : Bool) (k d : Nat) (hk : k ≠ 0) : way.cut s (k * 2 ^ d) d = k := by
  have hl : (k * 2 ^ d).log2 = k.log2 + d := by simpa using log2_merge k 0 d hk (Nat.two_pow_pos _)
  unfold Toward.cut
  rw [hl, Nat.min_eq_left (by omega), Nat.shiftLeft_eq, Nat.one_mul]
  simp only [Nat.mul_mod_left, Nat.mul_div_cancel _ (Nat.two_pow_pos d)]
  cases way <;> simp_all
theorem cut_zero (way : Toward) (hw : way ≠ .even) (s : Bool) (n : Nat) : way.cut s n 0 = n := by
  unfold Toward.cut
  simp only [Nat.zero_min, Nat.shiftLeft_eq, Nat.pow_zero, Nat.mul_one, Nat.div_one, Nat.mod_one]
  cases way <;> simp_all

/-- the word of a whole number, made whole, is itself. -/
theorem integral_whole (way : Toward) (hw : way ≠ .even) {k : Int} (h0 : -9007199254740992 < k) (h1 : k < 9007199254740992) (hz : k ≠ 0) :
    (double.read (FromIntG k).toNat).integral way = .number (decide (k < 0)) k.natAbs 0 := by
  have hu := FromInt_u64 h0 h1
  have hf := FromInt_fin h0 h1
  have hv := SV_FromInt h0 h1
  have e := FromInt_eq k (by omega) (by omega) hz
  have hm : k.natAbs ≠ 0 := by omega
  have hl : k.natAbs.log2 < 53 := (Nat.log2_lt hm).2 (by omega)
  obtain ⟨_, hn, hs, _, _, _⟩ := small_read (decide (k < 0)) k.natAbs 0 hm (by omega) (by omega) (by omega)
  rw [← e] at hn hs
  generalize FromIntG k = a at *
  rw [read_eq hu, if_pos hf, hn]
  have hVk : V a = k.natAbs * U := by
    unfold SV at hv; rw [hn] at hv
    have hU := U_pos
    by_cases hc : k < 0
    · rw [decide_eq_true hc, if_pos rfl] at hv
      have e1 : (k.natAbs : Int) = -k := by omega
      have e2 : ((k.natAbs * U : Nat) : Int) = -(k * (U : Int)) := by rw [Int.natCast_mul, e1, Int.neg_mul]
      omega
    · rw [decide_eq_false hc, if_neg (by decide)] at hv
      have e1 : (k.natAbs : Int) = k := by omega
      have e2 : ((k.natAbs * U : Nat) : Int) = k * (U : Int) := by rw [Int.natCast_mul, e1]
      omega
  unfold V U at hVk
  have hp := pl_bd hu
  have hP := hP
  simp only [Datum.integral]
  congr 1
  rw [Nat.shiftLeft_eq]
  by_cases hc : 0 ≤ pl a
  · have e1 : (-pl a).toNat = 0 := by omega
    rw [e1, cut_zero way hw]
    have e2 : (pl a + 1074).toNat = (pl a).toNat + P1074 := by omega
    rw [e2, Nat.pow_add, ← Nat.mul_assoc] at hVk
    exact Nat.eq_of_mul_eq_mul_right (Nat.two_pow_pos P1074) hVk
  · have e1 : (pl a).toNat = 0 := by omega
    rw [e1, Nat.pow_zero, Nat.mul_one]
    obtain ⟨d, hd⟩ : ∃ d : Nat, -pl a = (d : Int) := ⟨(-pl a).toNat, by omega⟩
    have e2 : (-pl a).toNat = d := by omega
    have e3 : (pl a + 1074).toNat = P1074 - d := by omega
    have hd2 : d ≤ 1074 := by omega
    have e4 : (mant a).toNat = k.natAbs * 2 ^ d := by
      have e5 : 2 ^ P1074 = 2 ^ d * 2 ^ (P1074 - d) := by rw [← Nat.pow_add]; congr 1; omega
      rw [e3, e5, ← Nat.mul_assoc] at hVk
      exact Nat.eq_of_mul_eq_mul_right (Nat.two_pow_pos (P1074 - d)) hVk
    rw [e2, e4, cut_exact way hw _ _ _ hm]

theorem nearest_FromInt {k : Int} (h0 : -9007199254740992 < k) (h1 : k < 9007199254740992) (hz : k ≠ 0) :
    double.nearest (decide (k < 0)) k.natAbs 0 = (FromIntG k).toNat := by
  rw [nearest_eq _ _ _ (by omega), FromInt_eq k (by omega) (by omega) hz, Int.toNat_natCast]

theorem toInt_FromInt {k : Int} (h0 : -2147483648 ≤ k) (h1 : k < 2147483648) : floatToIntVal .f64 (FromIntG k).toNat .i32 = some k := by
  by_cases hz : k = 0
  · subst hz; rw [FromInt_zero]; decide
  · unfold floatToIntVal
    have e : FloatKind.f64.decode (FromIntG k).toNat = double.read (FromIntG k).toNat := rfl
    have e2 : (double.read (FromIntG k).toNat).toInt .zero = some k := by
      unfold Datum.toInt
      rw [integral_whole .zero (by decide) (by omega) (by omega) hz]
      simp only [signed, Nat.shiftLeft_eq, Nat.pow_zero, Nat.mul_one]
      by_cases hc : k < 0
      · rw [decide_eq_true hc, if_pos rfl]; congr 1; omega
      · rw [decide_eq_false hc, if_neg (by decide)]; congr 1; omega
    rw [e, e2]
    have b0 : IntKind.i32.min = -2147483648 := by decide
    have b1 : IntKind.i32.max = 2147483647 := by decide
    simp only [b0, b1]
    rw [if_pos ⟨by omega, by omega⟩]
end Fp
