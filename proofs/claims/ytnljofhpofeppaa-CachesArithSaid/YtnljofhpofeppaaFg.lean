/- Plain definitions: what the functions of soft and word hand back, as the walks spell it. -/
import Derived.Below
import Derived.RowKit
import Derived.Test.YtnljofhpofeppaaFa
namespace Fp
open Go Go.RowKit
set_option linter.unusedVariables false
set_option linter.unusedSimpArgs false
def EqualG (a b : Int) : Bool := !isNaN a && (!isNaN b && (a == b || (isZ a && isZ b)))
def negG (a : Int) : Int := if isNaN a then 9221120237041090560 else Go.bits .xor .u64 a 9223372036854775808
def LessG (a b : Int) : Bool := !isNaN a && (!isNaN b && (!(isZ a && isZ b) && (if 9223372036854775808 ≤ a then (if 9223372036854775808 ≤ b then decide (b < a) else true) else (if 9223372036854775808 ≤ b then false else decide (a < b)))))
theorem wrap_u (n : Int) : U64 (IntKind.u64.wrap n) := wrap_u64 n
def FromIntG (n : Int) : Int := if n < 0 then sgnG true (NearG (IntKind.u64.wrap (-IntKind.u64.wrap n)) 0 false) else NearG n 0 false
def wholeV (a : Int) : Int := if ngb a then wrap64 (-wrap64 (oman a / 2 ^ (-oexp a).toNat)) else wrap64 (oman a / 2 ^ (-oexp a).toNat)
def WholeG (a : Int) : Int × Bool :=
  if a = 0 then (0, true) else if ¬ kindS a = 1 then (0, false)
  else if (oexp a + 63 < 0 ∨ 52 < oexp a + 63) ∨ IntKind.u64.wrap (oman a * 2 ^ (64 + oexp a).toNat) ≠ 0 then (0, false) else (wholeV a, true)
def toU (a : Int) : Int := if oexp a < 0 then (if -64 < oexp a then oman a / 2 ^ (-oexp a).toNat % 4294967296 else 0) else IntKind.u64.wrap (oman a * 2 ^ min (oexp a).toNat 64) % 4294967296
def ToUint32G (a : Int) : Int := if (kindS a != 1) = true then 0 else if ngb a = true then -toU a % 4294967296 else toU a
def partG (a : Int) : Int := 4503599627370495 / 2 ^ (min (max (oexp a + 63) 0) 52).toNat
def TruncG (a : Int) : Int := if isNaN a = true then 9221120237041090560 else if (kindS a != 1) = true then a else if sz a < 4607182418800017408 then Go.bits .and .u64 a 9223372036854775808 else Go.bits .andNot .u64 a (partG a)
def mhi (x y : Int) : Int := x * y / 18446744073709551616
def mlo (x y : Int) : Int := x * y % 18446744073709551616
def ngX (a b : Int) : Bool := Go.bits .and .u64 (Go.bits .xor .u64 a b) 9223372036854775808 != 0
def mulF (ng : Bool) (x ex y ey : Int) : Int :=
  if mhi x y < 9223372036854775808 then nearG ng (Go.bits .or .u64 (IntKind.u64.wrap (mhi x y * 2)) (mlo x y / 9223372036854775808)) (ex + ey + 64 - 1) (IntKind.u64.wrap (mlo x y * 2) != 0)
  else nearG ng (mhi x y) (ex + ey + 64) (mlo x y != 0)
def MulG (a b : Int) : Int :=
  if (isNaN a || (isNaN b || ((isInf a && isZ b) || (isZ a && isInf b)))) = true then 9221120237041090560
  else if (isInf a || isInf b) = true then sgnG (ngX a b) 9218868437227405312
  else if (isZ a || isZ b) = true then sgnG (ngX a b) 0
  else mulF (ngX a b) (oman a) (oexp a) (oman b) (oexp b)
def alo (x y : Int) : Int := (x + y) % 18446744073709551616
def aca (x y : Int) : Int := (x + y) / 18446744073709551616
def lessG (ym far : Int) : Int := ym / 2 ^ far.toNat
def lostG (ym far : Int) : Bool := IntKind.u64.wrap (lessG ym far * 2 ^ far.toNat) != ym
def addS (n : Bool) (xm xe ls : Int) (lost : Bool) : Int :=
  if (aca xm ls == 0) = true then nearG n (alo xm ls) xe lost
  else nearG n (Go.bits .or .u64 (alo xm ls / 2) 9223372036854775808) (xe + 1) (lost || (Go.bits .and .u64 (alo xm ls) 1 == 1))
def subM (xm ls : Int) (lost : Bool) : Int := if lost then IntKind.u64.wrap (IntKind.u64.wrap (xm - ls) - 1) else IntKind.u64.wrap (xm - ls)
def addD (n : Bool) (xm xe ls : Int) (lost : Bool) : Int :=
  if (subM xm ls lost == 0) = true then 0 else nearG n (shlG (subM xm ls lost)) (xe - lz (subM xm ls lost)) lost
def addG (nx : Bool) (xm xe : Int) (ny : Bool) (ym ye : Int) : Int :=
  if (nx == ny) = true then
    (if xe - ye < 64 then addS nx xm xe (lessG ym (xe - ye)) (lostG ym (xe - ye)) else addS nx xm xe 0 true)
  else (if xe - ye < 64 then addD nx xm xe (lessG ym (xe - ye)) (lostG ym (xe - ye)) else addD nx xm xe 0 true)
theorem lessG_u64 {ym : Int} (h : U64 ym) (far : Int) : U64 (lessG ym far) := by
  unfold lessG
  have hp : (0 : Int) < 2 ^ far.toNat := Int.pow_pos (by decide)
  refine ⟨Int.ediv_nonneg h.lo (Int.le_of_lt hp), Int.lt_of_le_of_lt (Int.ediv_le_self _ h.lo) h.hi⟩
theorem subM_u64 (xm ls : Int) (lost : Bool) : U64 (subM xm ls lost) := by unfold subM; split <;> exact wrap_u64 _
def tgd (t n : Int) : Int := Go.bits .or .u64 (IntKind.u64.wrap (t * 281474976710656)) n
def wI (n : Int) : Int := Go.bits .or .u64 18444773748872577024 (n % 4294967296)
/-- is a word of a tag -/
def tg (a t : Int) : Bool := decide (a / 4294967296 = t * 65536)
def pI (a t : Int) : Int := if tg a t then wrap32 (a % 4294967296) else 0
def pU (a t : Int) : Int := if tg a t then a % 4294967296 else 0
def wB (b : Bool) : Int := if b then 18445336698825998339 else 18445336698825998338
def is32 (n : Int) : Bool := n == wrap32 n
def NumberG (a : Int) : Int := if isNaN a = true then 9221120237041090560 else if (WholeG a).2 = true then (if is32 (WholeG a).1 = true then wI (wrap32 (WholeG a).1) else a) else a
theorem wrap32_bd (n : Int) : -2147483648 ≤ wrap32 n ∧ wrap32 n < 2147483648 := by unfold wrap32; omega
def RightG (a : Int) : Bool :=
  if (a / 281474976710656 == 65529 || (a / 281474976710656 == 65530 || a / 281474976710656 == 65532)) = true then Go.bits .and .u64 (a / 4294967296) 65535 == 0
  else if (a / 281474976710656 == 65531) = true then decide (a ≤ 18445336698825998340) else NumberG a == a
def BitsG (a : Int) : Int × Bool :=
  if tg a 65529 = true then (FromIntG (pI a 65529), true)
  else if RightG a = true then (if 65529 ≤ a / 281474976710656 ∧ a / 281474976710656 ≤ 65532 then (0, false) else (a, true)) else (0, false)
def AddG (a b : Int) : Int :=
  if (isNaN a || (isNaN b || (isInf a && b == Go.bits .xor .u64 a 9223372036854775808))) = true then 9221120237041090560
  else if (isInf a || (isZ b && !isZ a)) = true then a
  else if (isInf b || (isZ a && !isZ b)) = true then b
  else if isZ a = true then Go.bits .and .u64 a b
  else if sz a < sz b then addG (ngb b) (oman b) (oexp b) (ngb a) (oman a) (oexp a)
  else addG (ngb a) (oman a) (oexp a) (ngb b) (oman b) (oexp b)
def SubG (a b : Int) : Int := AddG a (negG b)
end Fp
