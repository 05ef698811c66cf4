/- The walks through the document's numbers: Val, Of, IsInf; sums of the language's own numbers. -/
import Derived.Test.YtkiakflmoplmeaaSa
import Derived.Test.YtkiakflmoplmeaaFq
import Derived.Laws.Externs
import Derived.Laws.FloatArith
namespace Go.Proofs.Ytkiakflmoplmeaa
open Go.RowKit Fp
set_option linter.unusedVariables false
set_option linter.unusedSimpArgs false
theorem wfU64 {a : Int} (h : (Lit.int .u64 a).wf = true) : U64 a := by
  simp [Lit.wf, IntKind.min, IntKind.max, IntKind.bits, IntKind.signed] at h; exact ⟨by omega, by omega⟩
theorem wfI64 {a : Int} (h : (Lit.int .i64 a).wf = true) : -9223372036854775808 ≤ a ∧ a < 9223372036854775808 := by
  simp [Lit.wf, IntKind.min, IntKind.max, IntKind.bits, IntKind.signed] at h; omega
theorem wfI32 {a : Int} (h : (Lit.int .i32 a).wf = true) : -2147483648 ≤ a ∧ a < 2147483648 := by
  simp [Lit.wf, IntKind.min, IntKind.max, IntKind.bits, IntKind.signed] at h; omega
theorem frombits_run (a : Int) (w : World) : (callFunc 35 #[.int .u64 a]).run Try.prog w = .ok (.value (.float .f64 a.toNat)) w := by
  rw [run_callFunc_extern Try.func35 (by kernel_rfl) (by kernel_rfl) (by kernel_rfl) (e := Extern.MathFloatBits.float64frombits) (by kernel_rfl)]
  rfl
theorem bits_run (x : Nat) (w : World) : (callFunc 63 #[.float .f64 x]).run Try.prog w = .ok (.value (.int .u64 x)) w := by
  rw [run_callFunc_extern Try.func63 (by kernel_rfl) (by kernel_rfl) (by kernel_rfl) (e := Extern.MathFloatBits.float64bits) (by kernel_rfl)]
  rfl
theorem fself {x : Nat} (hx : x < 18446744073709551616) : (FloatKind.f64.format.order x x != some .eq) = isNaN (x : Int) := self_ok (a := (x : Int)) ⟨by omega, by omega⟩
theorem Abs_calls (a : Int) (ha : U64 a) (w : World) : Calls Try.prog 80 #[.float .f64 a.toNat] w fun e w' => e = .returned (.float .f64 (sz a).toNat) ∧ w' = w := by
  have e : ((a.toNat : Nat) : Int) = a := by have := ha.lo; omega
  have hf := bits_run a.toNat
  rw [e] at hf
  have hg := frombits_run (sz a)
  have hh : Go.bits .andNot .u64 a 9223372036854775808 = sz a := rfl
  generalize a.toNat = x at *
  generalize (sz a).toNat = y at *
  generalize sz a = b at *
  go_enter Try.func80, Try.ntmps80
  go_wp2
  go_ret
  exact ⟨rfl, rfl⟩
theorem IsInf0_calls (a : Int) (ha : U64 a) (w : World) : Calls Try.prog 73 #[.float .f64 a.toNat, .int .i64 0] w fun e w' => e = .returned (.bool (isInf a)) ∧ w' = w := by
  have HA := fun w => Abs_calls a ha w
  have hi : (FloatKind.f64.format.order (sz a).toNat 9218868437227405311 == some .gt) = isInf a := isInf_ok ha
  generalize (sz a).toNat = y at *
  generalize isInf a = b at *
  generalize a.toNat = x at *
  go_enter Try.func73, Try.ntmps73
  go_wp2_with (first | (go_at_call 80; refine (HA _).mono ?_; rintro e w' ⟨rfl, rfl⟩))
  go_ret
  exact ⟨rfl, rfl⟩
/-- what an operation on two floats gives: its bits and the world, whatever the tape says. -/
theorem arith_run (op : BinOp) (ho : op = .add ∨ op = .sub ∨ op = .mul ∨ op = .quo) (x y : Nat) (v : Int)
    (h : ofM (floatBits op .f64 x y) = v) :
    ∃ g : World → Nat, ∃ k : Nat, ∀ (t : TypeId) (w : World), (binOp op t (.float .f64 x) (.float .f64 y)).run Try.prog w = .ok (.float .f64 (g w)) (w.drewN k) ∧ OfG (g w) = v ∧ g w < 18446744073709551616 := by
  cases hb : floatBits op .f64 x y with
  | some r =>
    rw [hb] at h
    refine ⟨fun _ => r, 0, fun t w => ⟨?_, h, ?_⟩⟩
    · rw [run_float_arith w op t .f64 x y r hb]; rfl
    · have := floatBits_wf hb
      simp [Lit.wf] at this; exact this
  | none =>
    rw [hb] at h
    refine ⟨fun w => (Question.nanBits .f64 x y).cut (w.tape w.drawn (Question.nanBits .f64 x y)), 1, fun t w => ?_⟩
    have hr : (binOp op t (.float .f64 x) (.float .f64 y)).run Try.prog w = .ok (.float .f64 ((Question.nanBits .f64 x y).cut (w.tape w.drawn (Question.nanBits .f64 x y)))) (w.drewN 1) := by
      unfold floatBits at hb
      rcases ho with rfl | rfl | rfl | rfl
      all_goals
        simp only at hb
        simp only [binOp, Op.floatArith, hb]
        simp [Question.forced, World.drewN]
    refine ⟨hr, ?_⟩
    dsimp only
    generalize w.tape w.drawn (Question.nanBits .f64 x y) = u
    have e : (Question.nanBits .f64 x y).cut u = (u % 2) * 2 ^ 63 + 0x7ff0000000000000 + 1 + (u / 2) % (2 ^ 52 - 1) := rfl
    rw [e]
    have hr2 : (u / 2) % (2 ^ 52 - 1) < 4503599627370495 := Nat.mod_lt _ (by decide)
    have hs2 : u % 2 = 0 ∨ u % 2 = 1 := by omega
    have e63n : (2 : Nat) ^ 63 = 9223372036854775808 := by decide
    rw [e63n]
    generalize (u / 2) % (2 ^ 52 - 1) = r at *
    generalize u % 2 = s at *
    have l : s * 9223372036854775808 + 0x7ff0000000000000 + 1 + r < 18446744073709551616 := by omega
    have hq2 : (s * 9223372036854775808 + 0x7ff0000000000000 + 1 + r) % 9223372036854775808 > 9218868437227405312 := by rcases hs2 with rfl | rfl <;> omega
    generalize s * 9223372036854775808 + 0x7ff0000000000000 + 1 + r = q at *
    refine ⟨?_, l⟩
    have hu : U64 (q : Int) := ⟨by omega, by omega⟩
    have : isNaN (q : Int) = true := by rw [nan_iff', sz_eq hu]; omega
    unfold OfG
    rw [if_pos this]; exact h
end Go.Proofs.Ytkiakflmoplmeaa
