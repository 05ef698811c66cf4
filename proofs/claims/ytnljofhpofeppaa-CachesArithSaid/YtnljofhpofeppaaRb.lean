/- The walks through the document's words: Float. -/
import Derived.Test.YtnljofhpofeppaaRa
import Derived.Test.YtnljofhpofeppaaVb
import Derived.Laws.FloatArith
namespace Go.Proofs.Ytnljofhpofeppaa
open Go.RowKit Fp
set_option linter.unusedVariables false
set_option linter.unusedSimpArgs false
set_option maxRecDepth 100000 in
theorem rFloat_nan (x : Nat) (b0 : (FloatKind.f64.format.order x x != some .eq) = true) (w : World) :
    Calls Try.prog 38 #[.float .f64 x] w fun e w' => e = .returned (.int .u64 9221120237041090560) ∧ w' = w := by
  go_enter Try.func38, Try.ntmps38
  go_wp2
  go_ret
  exact ⟨rfl, rfl⟩
set_option maxRecDepth 100000 in
theorem rFloat_lo (x : Nat) (b0 : (FloatKind.f64.format.order x x != some .eq) = false) (h : FloatKind.f64.format.order x 13970166044103278592 = some .lt) (w : World) :
    Calls Try.prog 38 #[.float .f64 x] w fun e w' => e = .returned (.int .u64 x) ∧ w' = w := by
  have hf := bits_runs x
  go_enter Try.func38, Try.ntmps38
  go_wp2
  go_ret
  exact ⟨rfl, rfl⟩
set_option maxRecDepth 100000 in
theorem rFloat_hi (x : Nat) (b0 : (FloatKind.f64.format.order x x != some .eq) = false) (h : FloatKind.f64.format.order x 4746794007244308480 = some .gt) (w : World) :
    Calls Try.prog 38 #[.float .f64 x] w fun e w' => e = .returned (.int .u64 x) ∧ w' = w := by
  have hf := bits_runs x
  go_enter Try.func38, Try.ntmps38
  go_wp2
  all_goals go_ret
  all_goals exact ⟨rfl, rfl⟩
set_option maxRecDepth 100000 in
theorem rFloat_part (x : Nat) (hn : (Ieee.double.read x).isNaN = false) (b0 : (FloatKind.f64.format.order x x != some .eq) = false) (h : (FloatKind.f64.format.order x (floorN x) == some .eq) = false) (w : World) :
    Calls Try.prog 38 #[.float .f64 x] w fun e w' => e = .returned (.int .u64 x) ∧ w' = w := by
  have hf := bits_runs x
  go_enter Try.func38, Try.ntmps38
  go_wp2_with (first | (go_at_call 45; refine (Floor_calls _ hn _).mono ?_; rintro e w' ⟨rfl, rfl⟩))
  all_goals go_ret
  all_goals exact ⟨rfl, rfl⟩
set_option maxRecDepth 100000 in
theorem rFloat_minus (x : Nat) (hx : x < 18446744073709551616) (hn : (Ieee.double.read x).isNaN = false) (b0 : (FloatKind.f64.format.order x x != some .eq) = false) (h3 : FloatKind.f64.format.order x (floorN x) = some .eq) (h4 : FloatKind.f64.format.order x 0 = some .eq) (h5 : ngb (x : Int) = true) (w : World) :
    Calls Try.prog 38 #[.float .f64 x] w fun e w' => e = .returned (.int .u64 x) ∧ w' = w := by
  have hf := bits_runs x
  have HX := Lib.hid hx
  clear hx
  go_enter Try.func38, Try.ntmps38
  go_wp2_with (first | (go_at_call 45; refine (Floor_calls _ hn _).mono ?_; rintro e w' ⟨rfl, rfl⟩) | (go_at_call 46; refine (Signbit_calls _ HX.out _).mono ?_; rintro e w' ⟨rfl, rfl⟩))
  all_goals go_ret
  all_goals exact ⟨rfl, rfl⟩
set_option maxRecDepth 100000 in
theorem rFloat_int (x : Nat) (hx : x < 18446744073709551616) (hn : (Ieee.double.read x).isNaN = false) (b0 : (FloatKind.f64.format.order x x != some .eq) = false)
    (h1 : FloatKind.f64.format.order x 13970166044103278592 = some .gt ∨ FloatKind.f64.format.order x 13970166044103278592 = some .eq)
    (h2 : FloatKind.f64.format.order x 4746794007244308480 = some .lt ∨ FloatKind.f64.format.order x 4746794007244308480 = some .eq)
    (h3 : FloatKind.f64.format.order x (floorN x) = some .eq) (h5 : (FloatKind.f64.format.order x 0 != some .eq) = true ∨ ((FloatKind.f64.format.order x 0 != some .eq) = false ∧ ngb (x : Int) = false))
    (k : Int) (hk : floatToIntVal .f64 x .i32 = some k) (k0 : -2147483648 ≤ k) (k1 : k < 2147483648) (w : World) :
    Calls Try.prog 38 #[.float .f64 x] w fun e w' => e = .returned (.int .u64 (18444773748872577024 + k % 4294967296)) ∧ w' = w := by
  have hf := bits_runs x
  have HX := Lib.hid hx
  clear hx
  have hcv := fun w => run_convert_float_int (P := Try.prog) w 51 21 .f64 .i32 x k (by rw [Try.underlying51]; rfl) Try.underlying21 hk
  rcases h1 with h1 | h1 <;> rcases h2 with h2 | h2 <;> rcases h5 with h5 | ⟨h5, h6⟩
  all_goals
    go_enter Try.func38, Try.ntmps38
    go_wp2_with (first | (go_at_call 45; refine (Floor_calls _ hn _).mono ?_; rintro e w' ⟨rfl, rfl⟩) | (go_at_call 46; refine (Signbit_calls _ HX.out _).mono ?_; rintro e w' ⟨rfl, rfl⟩) | (go_at_call 47; refine (rInt_calls _ _ k0 k1).mono ?_; rintro e w' ⟨rfl, rfl⟩))
    go_ret
    exact ⟨rfl, rfl⟩
theorem read_not_nan {a : Int} (hu : U64 a) (h : isNaN a = false) : (Ieee.double.read a.toNat).isNaN = false := by
  have h' : ¬ 9218868437227405312 < sz a := by rw [← nan_iff']; simp [h]
  rw [read_eq hu]
  split
  · rfl
  · rw [if_pos (by omega)]; rfl
/-- Float is package word's Number. -/
theorem rFloat_calls (a : Int) (hu : U64 a) (w : World) :
    Calls Try.prog 38 #[.float .f64 a.toNat] w fun e w' => e = .returned (.int .u64 (NumberG a)) ∧ w' = w := by
  have ef : ∀ x y, FloatKind.f64.format.order x y = Ieee.double.order x y := fun _ _ => rfl
  cases hn : isNaN a
  · have hr := read_not_nan hu hn
    have b0 : (FloatKind.f64.format.order a.toNat a.toNat != some .eq) = false := by
      rw [ef, order_SR hu hu hn hn, cmp_eq rfl]; rfl
    have hx : a.toNat < 18446744073709551616 := by have := hu.lo; have := hu.hi; omega
    have ea : ((a.toNat : Nat) : Int) = a := by have := hu.lo; omega
    by_cases hI : ∃ k : Int, -2147483648 ≤ k ∧ k < 2147483648 ∧ a = FromIntG k
    · obtain ⟨k, k0, k1, rfl⟩ := hI
      obtain ⟨f1, f2, f3, f4⟩ := floor_of_whole k0 k1
      rw [num_FromInt k0 k1 hu, wI_eq]
      refine rFloat_int _ hx hr b0 f1 f2 f3 ?_ k (toInt_FromInt k0 k1) k0 k1 w
      rw [ea]; exact f4
    · have hN : NumberG a = a := by
        unfold NumberG
        rw [hn, if_neg (by decide)]
        by_cases hw : (WholeG a).2 = true
        · rw [if_pos hw]
          by_cases hk : is32 (WholeG a).1 = true
          · exfalso
            obtain ⟨_, k0, k1⟩ := num_int (by simp [hn]) hw hk
            exact hI ⟨_, k0, k1, (FromInt_Whole hu hw).1.symm⟩
          · rw [if_neg hk]
        · rw [if_neg hw]
      rw [hN]
      have goal : ∀ h : Calls Try.prog 38 #[.float .f64 a.toNat] w fun e w' => e = .returned (.int .u64 ((a.toNat : Nat) : Int)) ∧ w' = w, Calls Try.prog 38 #[.float .f64 a.toNat] w fun e w' => e = .returned (.int .u64 a) ∧ w' = w := fun h => by rw [ea] at h; exact h
      apply goal
      by_cases c1 : Ieee.double.order a.toNat 13970166044103278592 = some .lt
      · exact rFloat_lo _ b0 c1 w
      · by_cases c2 : Ieee.double.order a.toNat 4746794007244308480 = some .gt
        · exact rFloat_hi _ b0 c2 w
        · by_cases c3 : Ieee.double.order a.toNat (floorN a.toNat) = some .eq
          · by_cases c4 : Ieee.double.order a.toNat 0 = some .eq ∧ ngb a = true
            · refine rFloat_minus _ hx hr b0 c3 c4.1 ?_ w
              rw [ea]; exact c4.2
            · exact absurd (whole_of_floor hu hn c1 c2 c3 c4) hI
          · exact rFloat_part _ hr b0 (beq_eq_false_iff_ne.mpr c3) w
  · have b0 : (FloatKind.f64.format.order a.toNat a.toNat != some .eq) = true := by
      rw [ef, order_nan hu hu (.inl hn)]; rfl
    have hN : NumberG a = 9221120237041090560 := if_pos hn
    rw [hN]
    exact rFloat_nan _ b0 w
theorem rNumber_calls (a : Int) (hu : U64 a) (w : World) :
    Calls Try.prog 33 #[.int .u64 a] w fun e w' => e = .returned (.int .u64 (NumberG a)) ∧ w' = w := by
  have hf := frombits_runs a
  go_enter Try.func33, Try.ntmps33
  go_wp2_with (first | (go_at_call 38; refine (rFloat_calls _ hu _).mono ?_; rintro e w' ⟨rfl, rfl⟩))
  go_ret
  exact ⟨rfl, rfl⟩
def top (a : Int) : Int := a / 281474976710656
def tT (a : Int) : Int := if top a < 65529 ∨ 65532 < top a then 0 else top a
def tP (a : Int) : Int := if top a < 65529 ∨ 65532 < top a then 0 else a % 4294967296
theorem rTag_calls (a : Int) (hu : U64 a) (w : World) :
    Calls Try.prog 26 #[.int .u64 a] w fun e w' => e = .returned (.tuple #[.int .u64 (tT a), .int .u32 (tP a)]) ∧ w' = w := by
  obtain ⟨h0, h1⟩ := hu
  have E : a / 65536 / 65536 / 65536 = top a := by unfold top; omega
  by_cases c1 : top a < 65529
  · have e1 : tT a = 0 := if_pos (.inl c1)
    have e2 : tP a = 0 := if_pos (.inl c1)
    rw [e1, e2]; clear e1 e2
    go_enter Try.func26, Try.ntmps26
    go_wp2
    go_ret2
    exact ⟨rfl, rfl⟩
  · by_cases c2 : 65532 < top a
    · have e1 : tT a = 0 := if_pos (.inr c2)
      have e2 : tP a = 0 := if_pos (.inr c2)
      rw [e1, e2]; clear e1 e2
      go_enter Try.func26, Try.ntmps26
      go_wp2
      go_ret2
      exact ⟨rfl, rfl⟩
    · have e1 : tT a = top a := if_neg (by omega)
      have e2 : tP a = a % 4294967296 := if_neg (by omega)
      rw [e1, e2]; clear e1 e2
      go_enter Try.func26, Try.ntmps26
      go_wp2
      go_ret2
      exact ⟨rfl, rfl⟩
theorem tT_bd (a : Int) : 0 ≤ tT a ∧ tT a ≤ 65532 := by unfold tT; split <;> omega
theorem tP_bd (a : Int) : 0 ≤ tP a ∧ tP a < 4294967296 := by unfold tP; split <;> omega
/-- Right is package word's. -/
theorem rRight_eq {a : Int} (hu : U64 a) : RightG a = if tT a = 0 then NumberG a == a else if a / 4294967296 % 65536 ≠ 0 then false else if tT a = 65531 then decide (tP a ≤ 4) else true := by
  have h0 := hu.lo
  have h1 := hu.hi
  unfold tT tP
  by_cases c : top a < 65529 ∨ 65532 < top a
  · rw [if_pos c, if_pos rfl]
    unfold top at c
    unfold RightG
    have c1 : ¬ (a / 281474976710656 == 65529 || (a / 281474976710656 == 65530 || a / 281474976710656 == 65532)) = true := by
      simp only [Bool.or_eq_true, beq_iff_eq]; omega
    have c2 : ¬ (a / 281474976710656 == 65531) = true := by rw [beq_iff_eq]; omega
    rw [if_neg c1, if_neg c2]
  · rw [if_neg c, if_neg (by omega), if_neg c]
    unfold top at c ⊢
    by_cases c3 : a / 281474976710656 = 65531
    · rw [right_small c3, c3, if_pos rfl]
      by_cases c4 : a / 4294967296 % 65536 ≠ 0
      · rw [if_pos c4]; exact decide_eq_false (by omega)
      · rw [if_neg c4]
        by_cases c5 : a % 4294967296 ≤ 4
        · rw [decide_eq_true c5]; exact decide_eq_true (by omega)
        · rw [decide_eq_false c5]; exact decide_eq_false (by omega)
    · rw [right_tag (t := a / 281474976710656) (by omega) hu rfl, if_neg c3]
      by_cases c4 : a / 4294967296 % 65536 ≠ 0
      · rw [if_pos c4]; exact decide_eq_false (by omega)
      · rw [if_neg c4]; exact decide_eq_true (by omega)
set_option maxRecDepth 100000 in
theorem rRight_calls (a : Int) (hu : U64 a) (w : World) :
    Calls Try.prog 27 #[.int .u64 a] w fun e w' => e = .returned (.bool (RightG a)) ∧ w' = w := by
  rw [rRight_eq hu]
  obtain ⟨t0, t1⟩ := tT_bd a
  obtain ⟨q0, q1⟩ := tP_bd a
  by_cases c1 : tT a = 0
  · rw [if_pos c1]
    have b1 : (tT a == 0) = true := beq_iff_eq.mpr c1
    clear c1
    go_enter Try.func27, Try.ntmps27
    go_wp2_with (first | (go_at_call 26; refine (rTag_calls _ hu _).mono ?_; rintro e w' ⟨rfl, rfl⟩) | (go_at_call 33; refine (rNumber_calls _ hu _).mono ?_; rintro e w' ⟨rfl, rfl⟩))
    go_ret
    exact ⟨rfl, rfl⟩
  · rw [if_neg c1]
    have b1 : (tT a == 0) = false := beq_eq_false_iff_ne.mpr c1
    obtain ⟨h0, h1⟩ := hu
    have hu : U64 a := ⟨h0, h1⟩
    by_cases c2 : a / 4294967296 % 65536 ≠ 0
    · rw [if_pos c2]
      have b2 : (a / 4294967296 % 65536 != 0) = true := by rw [bne_iff_ne]; exact c2
      clear c1 c2
      go_enter Try.func27, Try.ntmps27
      go_wp2_with (first | (go_at_call 26; refine (rTag_calls _ hu _).mono ?_; rintro e w' ⟨rfl, rfl⟩))
      go_ret
      exact ⟨rfl, rfl⟩
    · rw [if_neg c2]
      have b2 : (a / 4294967296 % 65536 != 0) = false := by rw [bne_eq_false_iff_eq]; exact Decidable.not_not.mp c2
      by_cases c3 : tT a = 65531
      · rw [if_pos c3]
        have b3 : (tT a != 65531) = false := by rw [bne_eq_false_iff_eq]; exact c3
        clear c1 c2 c3
        go_enter Try.func27, Try.ntmps27
        go_wp2_with (first | (go_at_call 26; refine (rTag_calls _ hu _).mono ?_; rintro e w' ⟨rfl, rfl⟩))
        go_ret
        exact ⟨rfl, rfl⟩
      · rw [if_neg c3]
        have b3 : (tT a != 65531) = true := by rw [bne_iff_ne]; exact c3
        clear c1 c2 c3
        go_enter Try.func27, Try.ntmps27
        go_wp2_with (first | (go_at_call 26; refine (rTag_calls _ hu _).mono ?_; rintro e w' ⟨rfl, rfl⟩))
        go_ret
        exact ⟨rfl, rfl⟩
/-- Value: what a word's number is. -/
def valX (a : Int) : Nat := if RightG a = true then (if tT a = 65529 then (FromIntG (wrap32 (tP a))).toNat else a.toNat) else 0
def valB (a : Int) : Bool := RightG a && (decide (tT a = 65529) || decide (tT a = 0))
theorem floatOfInt_eq {k : Int} (h0 : -9007199254740992 < k) (h1 : k < 9007199254740992) : floatOfInt .f64 k = (FromIntG k).toNat := by
  by_cases hz : k = 0
  · subst hz; rw [FromInt_zero]; decide
  · rw [← nearest_FromInt h0 h1 hz]; rfl
set_option maxRecDepth 100000 in
theorem rValue_calls (a : Int) (hu : U64 a) (w : World) :
    Calls Try.prog 18 #[.int .u64 a] w fun e w' => e = .returned (.tuple #[.float .f64 (valX a), .bool (valB a)]) ∧ w' = w := by
  have hf := frombits_runs a
  obtain ⟨t0, t1⟩ := tT_bd a
  obtain ⟨q0, q1⟩ := tP_bd a
  unfold valX valB
  cases hr : RightG a
  · rw [if_neg (by decide), Bool.false_and]
    go_enter Try.func18, Try.ntmps18
    go_wp2_with (first | (go_at_call 26; refine (rTag_calls _ hu _).mono ?_; rintro e w' ⟨rfl, rfl⟩) | (go_at_call 27; refine (rRight_calls _ hu _).mono ?_; rintro e w' ⟨rfl, rfl⟩))
    go_ret2
    exact ⟨rfl, rfl⟩
  · rw [if_pos rfl, Bool.true_and]
    by_cases c1 : tT a = 65529
    · rw [if_pos c1, decide_eq_true c1, Bool.true_or]
      have b1 : (tT a == 65529) = true := beq_iff_eq.mpr c1
      obtain ⟨k0, k1⟩ := wrap32_bd (tP a)
      have ef := floatOfInt_eq (k := wrap32 (tP a)) (by omega) (by omega)
      have hcv := fun w => run_convert_int_float (P := Try.prog) w 21 51 .i32 .f64 (wrap32 (tP a)) (by rw [Try.underlying21]; rfl) Try.underlying51
      rw [ef] at hcv
      clear c1 ef
      go_enter Try.func18, Try.ntmps18
      go_wp2_with (first | (go_at_call 26; refine (rTag_calls _ hu _).mono ?_; rintro e w' ⟨rfl, rfl⟩) | (go_at_call 27; refine (rRight_calls _ hu _).mono ?_; rintro e w' ⟨rfl, rfl⟩))
      go_ret2
      exact ⟨rfl, rfl⟩
    · rw [if_neg c1, decide_eq_false c1, Bool.false_or]
      have b1 : (tT a == 65529) = false := beq_eq_false_iff_ne.mpr c1
      clear c1
      go_enter Try.func18, Try.ntmps18
      go_wp2_with (first | (go_at_call 26; refine (rTag_calls _ hu _).mono ?_; rintro e w' ⟨rfl, rfl⟩) | (go_at_call 27; refine (rRight_calls _ hu _).mono ?_; rintro e w' ⟨rfl, rfl⟩))
      go_ret2
      refine ⟨?_, rfl⟩
      show Ending.returned (.tuple #[.float .f64 a.toNat, .bool (tT a == 0)]) = _
      rfl
end Go.Proofs.Ytnljofhpofeppaa
