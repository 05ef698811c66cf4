/- The walks through the library's floats: bits, Floor, Signbit. -/
import Derived.Test.YtnljofhpofeppaaSa
import Derived.Test.YtnljofhpofeppaaFl
import Derived.Laws.Externs
namespace Go.Proofs.Ytnljofhpofeppaa
open Go.RowKit Fp
set_option linter.unusedVariables false
set_option linter.unusedSimpArgs false
theorem frombits_runs (a : Int) (w : World) : (callFunc 28 #[.int .u64 a]).run Try.prog w = .ok (.value (.float .f64 a.toNat)) w := by
  rw [run_callFunc_extern Try.func28 (by kernel_rfl) (by kernel_rfl) (by kernel_rfl) (e := Extern.MathFloatBits.float64frombits) (by kernel_rfl)]
  rfl
theorem bits_runs (x : Nat) (w : World) : (callFunc 48 #[.float .f64 x]).run Try.prog w = .ok (.value (.int .u64 x)) w := by
  rw [run_callFunc_extern Try.func48 (by kernel_rfl) (by kernel_rfl) (by kernel_rfl) (e := Extern.MathFloatBits.float64bits) (by kernel_rfl)]
  rfl
theorem archFloor_runs (x : Nat) (h : (Ieee.double.read x).isNaN = false) (w : World) : (callFunc 51 #[.float .f64 x]).run Try.prog w = .ok (.value (.float .f64 (floorN x))) w := by
  rw [run_callFunc_extern Try.func51 (by kernel_rfl) (by kernel_rfl) (by kernel_rfl) (e := Extern.MathFloor.toIntegral "math.archFloor" .down) (by kernel_rfl)]
  have key : Extern.MathFloor.toIntegral "math.archFloor" .down #[.float .f64 x] = pure (.float .f64 (floorN x)) := by
    show (match Ieee.double.read x with
      | Ieee.Datum.nan s t => (if FloatKind.f64.format.quiet t = t then pure (Value.float .f64 x) else do
          let kept ← choose (.extern "math.Floor,Ceil,Trunc,RoundToEven.signallingNaN kept" 2)
          pure (Value.float .f64 (if kept == 1 then x else FloatKind.f64.encode (.nan s (FloatKind.f64.format.quiet t)))))
      | d => pure (Value.float .f64 (FloatKind.f64.encode (d.integral .down)))) = _
    unfold floorN
    cases hd : Ieee.double.read x with
    | nan s t => rw [hd] at h; simp [Ieee.Datum.isNaN] at h
    | infinity s => rfl
    | number s m p => rfl
  rw [key]; rfl
theorem Floor_calls (x : Nat) (h : (Ieee.double.read x).isNaN = false) (w : World) :
    Calls Try.prog 45 #[.float .f64 x] w fun e w' => e = .returned (.float .f64 (floorN x)) ∧ w' = w := by
  have hf := archFloor_runs x h
  go_enter Try.func45, Try.ntmps45
  go_wp2
  go_ret
  exact ⟨rfl, rfl⟩
theorem Signbit_calls (x : Nat) (h : x < 18446744073709551616) (w : World) :
    Calls Try.prog 46 #[.float .f64 x] w fun e w' => e = .returned (.bool (ngb x)) ∧ w' = w := by
  have hf := bits_runs x
  go_enter Try.func46, Try.ntmps46
  go_wp2
  go_ret
  refine ⟨ret_bool ?_, rfl⟩
  go_light
  unfold wrap64 ngb
  by_cases hc : 9223372036854775808 ≤ (x : Int)
  · rw [decide_eq_true hc, decide_eq_true (by omega)]
  · rw [decide_eq_false hc, decide_eq_false (by omega)]
end Go.Proofs.Ytnljofhpofeppaa
