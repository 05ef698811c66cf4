/- Plain facts: what package small reckons. -/
import Derived.Test.YtkiakflmoplmeaaFv
import Derived.Test.YtkiakflmoplmeaaFq
import Derived.Test.YtkiakflmoplmeaaFw
namespace Fp
open Go Go.RowKit
set_option linter.unusedVariables false
set_option linter.unusedSimpArgs false
def whole32 (n : Int) : Int × Bool := if (n != wrap32 n) = true then (0, false) else (wI (wrap32 n), true)
def some32 (n : Int) (minus : Bool) : Int × Bool := if ((n == 0) && minus) = true then (0, false) else whole32 n
/-- a count, modulo 32. -/
def cnt (y : Int) : Nat := (y % 32).toNat
/-- Fast, of two whole numbers. -/
def fastI (op x y : Int) : Int × Bool :=
  if op = 21 then whole32 (x + y) else if op = 22 then whole32 (x - y) else if op = 23 then some32 (x * y) (decide (x < 0) || decide (y < 0))
  else if op = 24 then (if y = 0 ∨ x.tmod y ≠ 0 then (0, false) else some32 (x.tdiv y) (decide (y < 0)))
  else if op = 25 then (if y = 0 then (0, false) else some32 (x.tmod y) (decide (x < 0)))
  else if op = 26 then (wI (wrap32 (x * 2 ^ cnt y)), true) else if op = 27 then (wI (x / 2 ^ cnt y), true) else if op = 28 then whole32 (x % 4294967296 / 2 ^ cnt y)
  else if op = 29 then (wI (Go.bits .and .i32 x y), true) else if op = 30 then (wI (Go.bits .or .i32 x y), true) else if op = 31 then (wI (Go.bits .xor .i32 x y), true)
  else if op = 32 then (wB (decide (x < y)), true) else if op = 33 then (wB (decide (x ≤ y)), true) else if op = 34 then (wB (decide (y < x)), true) else if op = 35 then (wB (decide (y ≤ x)), true) else (0, false)
def FastG (op a b : Int) : Int × Bool := if (tg a 65529 && tg b 65529) = true then fastI op (pI a 65529) (pI b 65529) else (0, false)
def I32 (p : Int) : Int := wrap32 (ToUint32G p)
/-- the operations on bits, of two whole numbers. -/
def bitsI (op x y : Int) : Int :=
  if op = 26 then FromIntG (wrap32 (x * 2 ^ cnt y)) else if op = 27 then FromIntG (x / 2 ^ cnt y) else if op = 28 then NearG (x % 4294967296 / 2 ^ cnt y) 0 false
  else if op = 29 then FromIntG (Go.bits .and .i32 x y) else if op = 30 then FromIntG (Go.bits .or .i32 x y) else FromIntG (Go.bits .xor .i32 x y)
def testsI (op p q : Int) : Int :=
  if op = 35 then (if EqualG q p = true then 18445336698825998339 else wB (LessG q p)) else if op = 33 then (if EqualG p q = true then 18445336698825998339 else wB (LessG p q))
  else if op = 34 then wB (LessG q p) else wB (LessG p q)
/-- what two numbers make. -/
def slowI (op p q : Int) : Int :=
  if op = 21 then NumberG (AddG p q) else if op = 22 then NumberG (SubG p q) else if op = 23 then NumberG (MulG p q) else if op = 24 then NumberG (DivG p q) else if op = 25 then NumberG (RemG p q)
  else if 32 ≤ op then testsI op p q else NumberG (bitsI op (I32 p) (I32 q))
def SlowG (op a b : Int) : Int := if (BitsG a).2 = true ∧ (BitsG b).2 = true ∧ 21 ≤ op ∧ op ≤ 35 then slowI op (BitsG a).1 (BitsG b).1 else 18445336698825998336
theorem cnt_bits (y : Int) : Go.bits .and .u32 (y % 4294967296) 31 = ((cnt y : Nat) : Int) := by
  have h127 : (BitVec.ofInt 32 31).toNat = 2 ^ 5 - 1 := by decide
  have key : (BitVec.ofInt 32 (y % 4294967296) &&& BitVec.ofInt 32 31).toNat = (y % 4294967296 % ((2 ^ 32 : Nat) : Int)).toNat % 2 ^ 5 := by
    rw [BitVec.toNat_and, BitVec.toNat_ofInt, h127, Nat.and_two_pow_sub_one_eq_mod]
  show IntKind.u32.wrap ((BitVec.ofInt 32 (y % 4294967296) &&& BitVec.ofInt 32 31).toNat : Nat) = _
  rw [key, IntKind.wrap_u32]
  unfold cnt
  omega
theorem cnt_bd (y : Int) : cnt y < 32 := by unfold cnt; omega
theorem bits1_u64 {a : Int} (ha : U64 a) : U64 (BitsG a).1 := by
  unfold BitsG
  split
  · have := pI_bd a 65529
    exact FromInt_u64 (by omega) (by omega)
  · split
    · split
      · exact ⟨by decide, by decide⟩
      · exact ha
    · exact ⟨by decide, by decide⟩
end Fp
