/- The walks through math: IsNaN, Inf, normalize, Ldexp. -/
import Derived.Test.YtkiakflmoplmeaaTa
import Derived.Test.YtkiakflmoplmeaaGa
namespace Go.Proofs.Ytkiakflmoplmeaa
open Go.RowKit Fp
set_option linter.unusedVariables false
set_option linter.unusedSimpArgs false
theorem mIsNaN_calls (a : Int) (ha : U64 a) (w : World) : Calls Try.prog 78 #[.float .f64 a.toNat] w fun e w' => e = .returned (.bool (isNaN a)) ∧ w' = w := by
  have hs : (FloatKind.f64.format.order a.toNat a.toNat != some .eq) = isNaN a := self_ok ha
  generalize isNaN a = b at *
  generalize a.toNat = x at *
  go_enter Try.func78, Try.ntmps78
  go_wp2
  go_ret
  exact ⟨rfl, rfl⟩
theorem Inf1_calls (w : World) : Calls Try.prog 92 #[.int .i64 1] w fun e w' => e = .returned (.float .f64 9218868437227405312) ∧ w' = w := by
  have hf := frombits_run 9218868437227405312
  rw [show (9218868437227405312 : Int).toNat = 9218868437227405312 by omega] at hf
  go_enter Try.func92, Try.ntmps92
  go_wp2
  go_ret
  exact ⟨rfl, rfl⟩
theorem InfN_calls (w : World) : Calls Try.prog 92 #[.int .i64 (-1)] w fun e w' => e = .returned (.float .f64 18442240474082181120) ∧ w' = w := by
  have hf := frombits_run 18442240474082181120
  rw [show (18442240474082181120 : Int).toNat = 18442240474082181120 by omega] at hf
  go_enter Try.func92, Try.ntmps92
  go_wp2
  go_ret
  exact ⟨rfl, rfl⟩
theorem mul_some' {a b : Int} (ha : U64 a) (hb : U64 b) (h : isNaN (MulG a b) = false) : floatBits .mul .f64 a.toNat b.toNat = some (MulG a b).toNat := by
  show Ieee.double.mul a.toNat b.toNat = _
  have e := mul_ok ha hb
  cases hm : Ieee.double.mul a.toNat b.toNat with
  | none => rw [hm] at e; rw [e] at h; exact absurd C_isNaN (by rw [show (9221120237041090560 : Int) = ofO none from rfl, h]; decide)
  | some r => rw [hm] at e; rw [e]; show some r = some ((r : Int).toNat); rw [Int.toNat_natCast]
theorem num_of_fin {x : Int} (h : sz x < 9218868437227405312) : isNaN x = false ∧ isInf x = false := fin_num h
theorem small_ok {x : Int} (hx : U64 x) (hn : isNaN x = false) : (FloatKind.f64.format.order (sz x).toNat 4503599627370496 == some .lt) = decide (sz x < 4503599627370496) := by
  have h0 := hx.lo
  have h1 := hx.hi
  have es := sz_eq hx
  have hs : U64 (sz x) := ⟨by omega, by omega⟩
  have hc : U64 4503599627370496 := ⟨by decide, by decide⟩
  have ss : sz (sz x) = sz x := by rw [sz_eq hs]; omega
  have h := Less_ok hs hc
  rw [show (4503599627370496 : Int).toNat = 4503599627370496 by omega] at h
  have nn : isNaN (sz x) = false := by
    rw [Bool.eq_false_iff] at hn ⊢
    intro c; apply hn; rw [nan_iff'] at c ⊢; omega
  rw [show (FloatKind.f64.format.order (sz x).toNat 4503599627370496 == some .lt) = _ from h, LessG_SR hs hc nn (by decide +kernel)]
  have e1 : SR (sz x) = sz x := by unfold SR ngb; rw [ss, decide_eq_false (by omega), if_neg (by decide)]
  have e2 : SR 4503599627370496 = 4503599627370496 := by decide +kernel
  rw [e1, e2]
theorem normalize_calls (x : Int) (hx : U64 x) (zx : ¬ sz x = 0) (fx : sz x < 9218868437227405312) (w : World) : Calls Try.prog 91 #[.float .f64 x.toNat] w fun e w' => e = .returned (.tuple #[.float .f64 (normY x).toNat, .int .i64 (normE x)]) ∧ w' = w := by
  obtain ⟨hn, hi⟩ := num_of_fin fx
  have hs := small_ok hx hn
  have HA := fun w => Abs_calls x hx w
  by_cases c : sz x < 4503599627370496
  · have e1 : normY x = MulG x 4841369599423283200 := if_pos c
    have e2 : normE x = -52 := if_pos c
    have N := norm_of hx zx fx
    have nn := (num_of_fin N.fin).1
    have hm := mul_some' hx C52.1 (by rw [← e1]; exact nn)
    rw [← e1, show (4841369599423283200 : Int).toNat = 4841369599423283200 by omega] at hm
    have HR := fun t w => run_float_arith (P := Try.prog) w .mul t .f64 _ _ _ hm
    rw [decide_eq_true c] at hs
    rw [e2]
    clear N nn hm c e1 e2
    generalize (normY x).toNat = y at *
    generalize (sz x).toNat = z at *
    generalize x.toNat = v at *
    replace HA := Lib.hid HA
    go_enter Try.func91, Try.ntmps91
    go_wp2_with (first | (go_at_call 80; refine (HA.out _).mono ?_; rintro e w' ⟨rfl, rfl⟩))
    go_ret2
    exact ⟨rfl, rfl⟩
  · have e1 : normY x = x := if_neg c
    have e2 : normE x = 0 := if_neg c
    rw [decide_eq_false c] at hs
    rw [e1, e2]
    clear c e1 e2
    generalize (sz x).toNat = z at *
    generalize x.toNat = v at *
    replace HA := Lib.hid HA
    go_enter Try.func91, Try.ntmps91
    go_wp2_with (first | (go_at_call 80; refine (HA.out _).mono ?_; rintro e w' ⟨rfl, rfl⟩))
    go_ret2
    exact ⟨rfl, rfl⟩
end Go.Proofs.Ytkiakflmoplmeaa
