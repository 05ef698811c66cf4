/- Plain facts: operations on bits of whole numbers. -/
import Derived.Test.YtkiakflmoplmeaaHc
namespace Fp
open Go Go.RowKit Ieee
set_option linter.unusedVariables false
set_option linter.unusedSimpArgs false
theorem u32_fin {a : Int} (ha : U64 a) (hf : sz a < 9218868437227405312) : ToUint32G a = if (ngb a && decide (WP a % 4294967296 ≠ 0)) = true then 4294967296 - ((WP a % 4294967296 : Nat) : Int) else ((WP a % 4294967296 : Nat) : Int) := by
  unfold ToUint32G
  by_cases z : sz a = 0
  · have k : (kindS a != 1) = true := by unfold kindS; rw [if_pos z]; decide
    have w : WP a = 0 := by unfold WP; rw [(V_zero_iff ha).2 z, Nat.zero_div]
    rw [if_pos k, w]
    simp
  · have k : (kindS a != 1) = false := by rw [kind_some z hf]; decide
    rw [if_neg (by rw [k]; decide), toU_WP ha z]
    have hr : WP a % 4294967296 < 4294967296 := Nat.mod_lt _ (by decide)
    generalize WP a % 4294967296 = r at *
    cases ngb a
    · simp
    · by_cases c : r = 0
      · subst c; simp
      · rw [if_pos rfl, decide_eq_true c, if_pos (show (true && true) = true from rfl)]; omega
theorem I32_back {m : Int} (h0 : -2147483648 ≤ m) (h1 : m < 2147483648) : I32 (FromIntG m) = m := by
  have fu := FromInt_u64 (n := m) (by omega) (by omega)
  have ff := FromInt_fin (k := m) (by omega) (by omega)
  have w : WP (FromIntG m) = m.natAbs := by
    unfold WP
    rw [WP_FromInt (by omega) (by omega)]
    exact Nat.mul_div_cancel _ U_pos
  unfold I32
  rw [u32_fin fu ff, w, FromInt_ng (by omega) (by omega), Nat.mod_eq_of_lt (by omega)]
  unfold wrap32
  by_cases c : m < 0
  · rw [decide_eq_true c, decide_eq_true (show m.natAbs ≠ 0 by omega), if_pos (show (true && true) = true from rfl)]; omega
  · rw [decide_eq_false c, Bool.false_and, if_neg (by decide)]; omega
theorem num_int_word {k : Int} (h0 : -2147483648 ≤ k) (h1 : k < 2147483648) : NumberG (FromIntG k) = wI k := num_FromInt h0 h1 (FromInt_u64 (by omega) (by omega))
/-- Slow, of two whole numbers' words. -/
theorem slow_ints {op x y : Int} (x0 : -2147483648 ≤ x) (x1 : x < 2147483648) (y0 : -2147483648 ≤ y) (y1 : y < 2147483648) (h0 : 21 ≤ op) (h1 : op ≤ 35) : SlowG op (wI x) (wI y) = slowI op (FromIntG x) (FromIntG y) := by
  unfold SlowG
  rw [bits_wI x0 x1, bits_wI y0 y1, if_pos ⟨rfl, rfl, h0, h1⟩]
theorem slowI_bits {op p q : Int} (h0 : 26 ≤ op) (h1 : op ≤ 31) : slowI op p q = NumberG (bitsI op (I32 p) (I32 q)) := by
  unfold slowI
  rw [if_neg (by omega), if_neg (by omega), if_neg (by omega), if_neg (by omega), if_neg (by omega), if_neg (by omega)]
theorem slow_bits {op x y : Int} (x0 : -2147483648 ≤ x) (x1 : x < 2147483648) (y0 : -2147483648 ≤ y) (y1 : y < 2147483648) (h0 : 26 ≤ op) (h1 : op ≤ 31) : SlowG op (wI x) (wI y) = NumberG (bitsI op x y) := by
  rw [slow_ints x0 x1 y0 y1 (by omega) (by omega), slowI_bits h0 h1, I32_back x0 x1, I32_back y0 y1]
theorem or_zero {x : Int} (x0 : -2147483648 ≤ x) (x1 : x < 2147483648) : Go.bits .or .i32 x 0 = x := by
  show IntKind.i32.wrap ((BitVec.ofInt 32 x ||| BitVec.ofInt 32 0).toNat : Nat) = x
  have e : BitVec.ofInt 32 x ||| BitVec.ofInt 32 0 = BitVec.ofInt 32 x := by
    rw [show BitVec.ofInt 32 0 = 0#32 from rfl, BitVec.or_zero]
  rw [e, IntKind.wrap_i32, BitVec.toNat_ofInt]
  omega
theorem and_31 (y : Int) : Go.bits .and .i32 y 31 = ((cnt y : Nat) : Int) := by
  have h127 : (BitVec.ofInt 32 31).toNat = 2 ^ 5 - 1 := by decide
  have key : (BitVec.ofInt 32 y &&& BitVec.ofInt 32 31).toNat = (y % ((2 ^ 32 : Nat) : Int)).toNat % 2 ^ 5 := by
    rw [BitVec.toNat_and, BitVec.toNat_ofInt, h127, Nat.and_two_pow_sub_one_eq_mod]
  show IntKind.i32.wrap ((BitVec.ofInt 32 y &&& BitVec.ofInt 32 31).toNat : Nat) = _
  rw [key, IntKind.wrap_i32]
  unfold cnt
  omega
/-- a number's own bits, read off by or with nought. -/
theorem slow_or {p : Int} (hp : U64 p) : SlowG 30 (NumberG p) (wI 0) = wI (I32 (canon p)) := by
  have e1 := (num_facts hp).2.2
  obtain ⟨b0, b1⟩ := I32_bd (canon p)
  have e2 := bits_wI (k := 0) (by decide) (by decide)
  have e3 : SlowG 30 (NumberG p) (wI 0) = slowI 30 (canon p) (FromIntG 0) := by
    unfold SlowG
    rw [e1, e2]
    exact if_pos ⟨rfl, rfl, by decide, by decide⟩
  have e : bitsI 30 (I32 (canon p)) 0 = FromIntG (Go.bits .or .i32 (I32 (canon p)) 0) := by
    unfold bitsI
    simp only [Int.reduceEq, if_false, reduceIte]
  rw [e3, slowI_bits (by decide) (by decide), I32_back (m := 0) (by decide) (by decide), e, or_zero b0 b1, num_int_word b0 b1]
theorem slow_and31 {y : Int} (y0 : -2147483648 ≤ y) (y1 : y < 2147483648) : SlowG 29 (wI y) (wI 31) = wI ((cnt y : Nat) : Int) := by
  have hc := cnt_bd y
  rw [slow_bits y0 y1 (by decide) (by decide) (by decide) (by decide)]
  have e : bitsI 29 y 31 = FromIntG (Go.bits .and .i32 y 31) := by
    unfold bitsI
    simp only [Int.reduceEq, if_false, reduceIte]
  rw [e, and_31, num_int_word (by omega) (by omega)]
theorem cnt_cnt (y : Int) : cnt ((cnt y : Nat) : Int) = cnt y := by unfold cnt; omega
theorem bitsI_cnt {op : Int} (x y : Int) (h : op = 26 ∨ op = 27 ∨ op = 28) : bitsI op x ((cnt y : Nat) : Int) = bitsI op x y := by
  unfold bitsI
  rw [cnt_cnt]
  rcases h with rfl | rfl | rfl <;> simp only [Int.reduceEq, if_false, reduceIte]
theorem slow_words {op p q : Int} (hp : U64 p) (hq : U64 q) (h0 : 26 ≤ op) (h1 : op ≤ 31) : SlowG op (NumberG p) (NumberG q) = NumberG (bitsI op (I32 (canon p)) (I32 (canon q))) := by
  rw [slow_num hp hq (by omega) (by omega), slowI_bits h0 h1]
end Fp
