/- Plain facts: what package small reckons does not hang on which NaN a word stands for; the document's shifts. -/
import Derived.Test.YtkiakflmoplmeaaHd
namespace Fp
open Go Go.RowKit Ieee
set_option linter.unusedVariables false
set_option linter.unusedSimpArgs false
theorem canon_num {a : Int} (h : isNaN a = false) : canon a = a := by unfold canon; rw [h, if_neg (by decide)]
theorem canon_nan {a : Int} (h : isNaN a = true) : canon a = 9221120237041090560 := by unfold canon; rw [if_pos h]
theorem isNaN_canon (a : Int) : isNaN (canon a) = isNaN a := by
  cases h : isNaN a
  · rw [canon_num h, h]
  · rw [canon_nan h]; exact C_nan
theorem add_nan' {a b : Int} (h : isNaN a = true ∨ isNaN b = true) : AddG a b = 9221120237041090560 := by
  rcases h with h | h <;> simp [AddG, h]
theorem sub_nan' {a b : Int} (h : isNaN a = true ∨ isNaN b = true) : SubG a b = 9221120237041090560 := by
  unfold SubG
  rcases h with h | h
  · exact add_nan' (.inl h)
  · refine add_nan' (.inr ?_)
    unfold negG; rw [if_pos h]; exact C_nan
theorem mul_nan' {a b : Int} (h : isNaN a = true ∨ isNaN b = true) : MulG a b = 9221120237041090560 := by
  rcases h with h | h <;> simp [MulG, h]
theorem rem_nan' {a b : Int} (h : isNaN a = true ∨ isNaN b = true) : RemG a b = 9221120237041090560 := by
  rcases h with h | h <;> simp [RemG, h]
theorem div_nan' {a b : Int} (h : isNaN a = true ∨ isNaN b = true) : DivG a b = 9221120237041090560 := by
  rcases h with h | h <;> simp [DivG, h]
theorem u32_nan {a : Int} (h : isNaN a = true) : ToUint32G a = 0 := by
  have := nan_iff'.1 h
  have k : (kindS a != 1) = true := by unfold kindS; rw [if_neg (by omega), if_neg (by omega)]; split <;> decide
  unfold ToUint32G
  rw [if_pos k]
theorem u32_canon (a : Int) : ToUint32G (canon a) = ToUint32G a := by
  cases h : isNaN a
  · rw [canon_num h]
  · rw [canon_nan h, u32_nan h, u32_nan C_nan]
theorem slowI_canon {op : Int} (p q : Int) : slowI op (canon p) (canon q) = slowI op p q := by
  have ei : I32 (canon p) = I32 p ∧ I32 (canon q) = I32 q := by unfold I32; rw [u32_canon, u32_canon]; exact ⟨rfl, rfl⟩
  by_cases h : isNaN p = true ∨ isNaN q = true
  · have k : isNaN (canon p) = true ∨ isNaN (canon q) = true := by rw [isNaN_canon, isNaN_canon]; exact h
    unfold slowI
    rw [add_nan' h, add_nan' k, sub_nan' h, sub_nan' k, mul_nan' h, mul_nan' k, div_nan' h, div_nan' k, rem_nan' h, rem_nan' k, ei.1, ei.2]
    unfold testsI
    rw [(less_nan h).1, (less_nan h).2, (less_nan k).1, (less_nan k).2, (less_nan h.symm).1, (less_nan h.symm).2, (less_nan k.symm).1, (less_nan k.symm).2]
  · rw [canon_num (by rw [Bool.eq_false_iff]; exact fun c => h (.inl c)), canon_num (by rw [Bool.eq_false_iff]; exact fun c => h (.inr c))]
theorem u32_bd {a : Int} (ha : U64 a) : 0 ≤ ToUint32G a ∧ ToUint32G a < 4294967296 := by
  rcases Int.lt_or_le (sz a) 9218868437227405312 with c | c
  · rw [u32_fin ha c]
    have hr : WP a % 4294967296 < 4294967296 := Nat.mod_lt _ (by decide)
    generalize WP a % 4294967296 = r at *
    split
    · rename_i h
      rw [Bool.and_eq_true] at h
      have := of_decide_eq_true h.2
      omega
    · omega
  · have z := sz_nonneg ha
    have k : (kindS a != 1) = true := by unfold kindS; rw [if_neg (by omega), if_neg (by omega)]; split <;> decide
    unfold ToUint32G
    rw [if_pos k]; omega
theorem cnt_u32 (a : Int) : cnt (wrap32 a) = (a % 32).toNat := by unfold cnt wrap32; congr 1; omega
theorem shl_eq32 (a : Int) (k : Nat) : wrap32 (a * 2 ^ k % 4294967296) = wrap32 (wrap32 a * 2 ^ k) := by
  have e : wrap32 a = a - 4294967296 * ((a + 2147483648) / 4294967296) := by unfold wrap32; omega
  have e2 : wrap32 a * 2 ^ k = a * 2 ^ k - 4294967296 * ((a + 2147483648) / 4294967296 * 2 ^ k) := by
    rw [e, Int.sub_mul, Int.mul_assoc]
  rw [e2]
  generalize a * 2 ^ k = x
  generalize (a + 2147483648) / 4294967296 * 2 ^ k = y
  unfold wrap32
  omega
theorem wrap32_mod {a : Int} (h0 : 0 ≤ a) (h1 : a < 4294967296) : wrap32 a % 4294967296 = a := by unfold wrap32; omega
theorem ofInt_wrap32 (a : Int) : BitVec.ofInt 32 (wrap32 a) = BitVec.ofInt 32 a := by
  apply BitVec.eq_of_toNat_eq
  rw [BitVec.toNat_ofInt, BitVec.toNat_ofInt]
  unfold wrap32
  omega
theorem and_32 (a b : Int) : wrap32 (Go.bits .and .u32 a b) = Go.bits .and .i32 (wrap32 a) (wrap32 b) := by
  show wrap32 (IntKind.u32.wrap ((BitVec.ofInt 32 a &&& BitVec.ofInt 32 b).toNat : Nat)) = IntKind.i32.wrap ((BitVec.ofInt 32 (wrap32 a) &&& BitVec.ofInt 32 (wrap32 b)).toNat : Nat)
  rw [ofInt_wrap32, ofInt_wrap32, IntKind.wrap_u32, IntKind.wrap_i32]
  unfold wrap32; omega
theorem or_32 (a b : Int) : wrap32 (Go.bits .or .u32 a b) = Go.bits .or .i32 (wrap32 a) (wrap32 b) := by
  show wrap32 (IntKind.u32.wrap ((BitVec.ofInt 32 a ||| BitVec.ofInt 32 b).toNat : Nat)) = IntKind.i32.wrap ((BitVec.ofInt 32 (wrap32 a) ||| BitVec.ofInt 32 (wrap32 b)).toNat : Nat)
  rw [ofInt_wrap32, ofInt_wrap32, IntKind.wrap_u32, IntKind.wrap_i32]
  unfold wrap32; omega
theorem xor_32 (a b : Int) : wrap32 (Go.bits .xor .u32 a b) = Go.bits .xor .i32 (wrap32 a) (wrap32 b) := by
  show wrap32 (IntKind.u32.wrap ((BitVec.ofInt 32 a ^^^ BitVec.ofInt 32 b).toNat : Nat)) = IntKind.i32.wrap ((BitVec.ofInt 32 (wrap32 a) ^^^ BitVec.ofInt 32 (wrap32 b)).toNat : Nat)
  rw [ofInt_wrap32, ofInt_wrap32, IntKind.wrap_u32, IntKind.wrap_i32]
  unfold wrap32; omega
end Fp
