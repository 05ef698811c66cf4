/- Plain facts: the laws of package small that hang on nothing but what it reckons. -/
import Derived.Test.YtkiakflmoplmeaaHb
import Derived.Test.YtkiakflmoplmeaaGn
import Derived.Test.YtkiakflmoplmeaaFw
namespace Fp
open Go Go.RowKit Ieee
set_option linter.unusedVariables false
set_option linter.unusedSimpArgs false
theorem bits_comm_and (x y : Int) : Go.bits .and .i32 x y = Go.bits .and .i32 y x := by
  show IntKind.i32.wrap ((BitVec.ofInt 32 x &&& BitVec.ofInt 32 y).toNat : Nat) = IntKind.i32.wrap ((BitVec.ofInt 32 y &&& BitVec.ofInt 32 x).toNat : Nat)
  rw [BitVec.and_comm]
theorem bits_comm_or (x y : Int) : Go.bits .or .i32 x y = Go.bits .or .i32 y x := by
  show IntKind.i32.wrap ((BitVec.ofInt 32 x ||| BitVec.ofInt 32 y).toNat : Nat) = IntKind.i32.wrap ((BitVec.ofInt 32 y ||| BitVec.ofInt 32 x).toNat : Nat)
  rw [BitVec.or_comm]
theorem bits_comm_xor (x y : Int) : Go.bits .xor .i32 x y = Go.bits .xor .i32 y x := by
  show IntKind.i32.wrap ((BitVec.ofInt 32 x ^^^ BitVec.ofInt 32 y).toNat : Nat) = IntKind.i32.wrap ((BitVec.ofInt 32 y ^^^ BitVec.ofInt 32 x).toNat : Nat)
  rw [BitVec.xor_comm]
def turns (op : Int) : Prop := op = 21 ∨ op = 23 ∨ op = 29 ∨ op = 30 ∨ op = 31
theorem fast_turn {op a b : Int} (h : turns op) : FastG op a b = FastG op b a := by
  unfold FastG
  rw [Bool.and_comm (tg a 65529)]
  generalize pI a 65529 = x
  generalize pI b 65529 = y
  have : fastI op x y = fastI op y x := by
    unfold fastI
    rcases h with rfl | rfl | rfl | rfl | rfl <;> simp only [Int.reduceEq, if_false, reduceIte]
    · rw [Int.add_comm]
    · rw [Int.mul_comm, Bool.or_comm]
    · rw [bits_comm_and]
    · rw [bits_comm_or]
    · rw [bits_comm_xor]
  rw [this]
theorem slow_turn {op a b : Int} (ha : U64 a) (hb : U64 b) (h : turns op) : SlowG op a b = SlowG op b a := by
  have pa := bits1_u64 ha
  have pb := bits1_u64 hb
  unfold SlowG
  generalize (BitsG a).1 = p at *
  generalize (BitsG b).1 = q at *
  generalize (BitsG a).2 = s at *
  generalize (BitsG b).2 = t at *
  have e : slowI op p q = slowI op q p := by
    unfold slowI
    rcases h with rfl | rfl | rfl | rfl | rfl <;> simp only [Int.reduceEq, if_false, reduceIte, Int.reduceLE]
    · rw [add_comm' pa pb]
    · rw [mul_comm' pa pb]
    · unfold bitsI; simp only [Int.reduceEq, if_false, reduceIte]; rw [bits_comm_and]
    · unfold bitsI; simp only [Int.reduceEq, if_false, reduceIte]; rw [bits_comm_or]
    · unfold bitsI; simp only [Int.reduceEq, if_false, reduceIte]; rw [bits_comm_xor]
  rw [e]
  by_cases c : s = true ∧ t = true ∧ 21 ≤ op ∧ op ≤ 35
  · rw [if_pos c, if_pos ⟨c.2.1, c.1, c.2.2⟩]
  · rw [if_neg c, if_neg (fun k => c ⟨k.2.1, k.1, k.2.2⟩)]
theorem whole32_or (n : Int) : (whole32 n).2 = true ∨ (whole32 n).1 = 0 := by
  unfold whole32; split
  · exact .inr rfl
  · exact .inl rfl
theorem some32_or (n : Int) (m : Bool) : (some32 n m).2 = true ∨ (some32 n m).1 = 0 := by
  unfold some32; split
  · exact .inr rfl
  · exact whole32_or n
def OkOr (r : Int × Bool) : Prop := r.2 = true ∨ r.1 = 0
theorem or_ite {c : Prop} [Decidable c] {x y : Int × Bool} (hx : OkOr x) (hy : OkOr y) : OkOr (if c then x else y) := by
  by_cases h : c
  · rw [if_pos h]; exact hx
  · rw [if_neg h]; exact hy
theorem fast_or (op a b : Int) : OkOr (FastG op a b) := by
  unfold FastG
  refine or_ite ?_ (.inr rfl)
  unfold fastI
  refine or_ite (whole32_or _) (or_ite (whole32_or _) (or_ite (some32_or _ _) (or_ite (or_ite (.inr rfl) (some32_or _ _)) (or_ite (or_ite (.inr rfl) (some32_or _ _)) (or_ite (.inl rfl) (or_ite (.inl rfl) (or_ite (whole32_or _) ?_)))))))
  exact or_ite (.inl rfl) (or_ite (.inl rfl) (or_ite (.inl rfl) (or_ite (.inl rfl) (or_ite (.inl rfl) (or_ite (.inl rfl) (or_ite (.inl rfl) (.inr rfl)))))))
theorem fast_out {op : Int} (a b : Int) (h : op < 21 ∨ 35 < op) : FastG op a b = (0, false) := by
  unfold FastG
  split
  · unfold fastI
    repeat rw [if_neg (by omega)]
  · rfl
theorem slow_out {op : Int} (a b : Int) (h : op < 21 ∨ 35 < op) : SlowG op a b = 18445336698825998336 := by
  unfold SlowG
  rw [if_neg (by omega)]
theorem slow_num {op p q : Int} (hp : U64 p) (hq : U64 q) (h0 : 21 ≤ op) (h1 : op ≤ 35) : SlowG op (NumberG p) (NumberG q) = slowI op (canon p) (canon q) := by
  have e1 := (num_facts hp).2.2
  have e2 := (num_facts hq).2.2
  unfold SlowG
  rw [e1, e2, if_pos ⟨rfl, rfl, h0, h1⟩]
theorem num_nan {p : Int} (hp : U64 p) : NumberG p = 9221120237041090560 ↔ isNaN p = true := by
  constructor
  · intro h
    have e := (num_facts hp).2.2
    rw [h] at e
    cases hn : isNaN p
    · have hc : canon p = p := by unfold canon; rw [hn, if_neg (by decide)]
      rw [hc] at e
      have e2 : BitsG 9221120237041090560 = (9221120237041090560, true) := by decide +kernel
      rw [e2] at e
      have e3 := congrArg Prod.fst e
      have e4 : (9221120237041090560 : Int) = p := e3
      rw [← e4] at hn
      exact absurd hn (by decide +kernel)
    · rfl
  · intro h; unfold NumberG; rw [if_pos h]
/-- just one of below, the same, above. -/
theorem order_laws {a b : Int} (ha : U64 a) (hb : U64 b) (na : isNaN a = false) (nb : isNaN b = false) :
    (LessG a b && LessG b a) = false ∧ (EqualG a b || LessG a b) = !LessG b a ∧ (EqualG b a || LessG b a) = !LessG a b := by
  have e1 : EqualG a b = decide (SR a = SR b) := by
    rw [← Equal_ok ha hb, order_SR ha hb na nb]
    rcases cmp_cases (SR a) (SR b) with ⟨g, k⟩ | ⟨g, k⟩ | ⟨g, k⟩
    · rw [k, decide_eq_false (by omega)]; rfl
    · rw [k, decide_eq_true g]; rfl
    · rw [k, decide_eq_false (by omega)]; rfl
  have e2 : EqualG b a = decide (SR b = SR a) := by
    rw [← Equal_ok hb ha, order_SR hb ha nb na]
    rcases cmp_cases (SR b) (SR a) with ⟨g, k⟩ | ⟨g, k⟩ | ⟨g, k⟩
    · rw [k, decide_eq_false (by omega)]; rfl
    · rw [k, decide_eq_true g]; rfl
    · rw [k, decide_eq_false (by omega)]; rfl
  rw [e1, e2, LessG_SR ha hb na nb, LessG_SR hb ha nb na]
  generalize SR a = x
  generalize SR b = y
  rcases Int.lt_trichotomy x y with g | g | g
  · rw [decide_eq_true g, decide_eq_false (show ¬ y < x by omega), decide_eq_false (show ¬ x = y by omega), decide_eq_false (show ¬ y = x by omega)]; decide
  · subst g; rw [decide_eq_false (show ¬ x < x by omega), decide_eq_true rfl]; decide
  · rw [decide_eq_false (show ¬ x < y by omega), decide_eq_true g, decide_eq_false (show ¬ x = y by omega), decide_eq_false (show ¬ y = x by omega)]; decide
theorem less_nan {a b : Int} (h : isNaN a = true ∨ isNaN b = true) : LessG a b = false ∧ EqualG a b = false := by
  unfold LessG EqualG
  rcases h with h | h <;> rw [h] <;> simp
theorem wB_true (b : Bool) : (wB b == 18445336698825998339) = b := by cases b <;> decide
end Fp
