/- The walk through math.Mod, of whatever two numbers. -/
import Derived.Test.YtkiakflmoplmeaaTf
namespace Go.Proofs.Ytkiakflmoplmeaa
open Go.RowKit Fp
set_option linter.unusedVariables false
set_option linter.unusedSimpArgs false
theorem mNaN_calls (w : World) : Calls Try.prog 83 #[] w fun e w' => e = .returned (.float .f64 9221120237041090561) ∧ w' = w := by
  have hf := frombits_run 9221120237041090561
  rw [show (9221120237041090561 : Int).toNat = 9221120237041090561 by omega] at hf
  go_enter Try.func83, Try.ntmps83
  go_wp2
  go_ret
  exact ⟨rfl, rfl⟩
theorem one_nan : OfG 9221120237041090561 = 9221120237041090560 := by decide +kernel
theorem eq0_nan {b : Int} (hb : U64 b) (hn : isNaN b = true) : (FloatKind.f64.format.order b.toNat 0 == some .eq) = false := by
  have h := order_nan (a := b) (b := 0) hb zero_u64 (.inl hn)
  rw [show (0 : Int).toNat = 0 from rfl] at h
  rw [show FloatKind.f64.format.order b.toNat 0 = none from h]; rfl
theorem mod_nan (a b : Int) (ha : U64 a) (hb : U64 b) (h : (isNaN a || (isNaN b || (isInf a || isZ b))) = true) (w : World) :
    Calls Try.prog 76 #[.float .f64 a.toNat, .float .f64 b.toNat] w fun e' w' => e' = .returned (.float .f64 9221120237041090561) ∧ w' = w := by
  have HI := fun w => IsInf0_calls a ha w
  have HM := fun w => mIsNaN_calls a ha w
  have HN := fun w => mIsNaN_calls b hb w
  have HQ := fun w => mNaN_calls w
  have HZ : (FloatKind.f64.format.order b.toNat 0 == some .eq) = (isZ b && !isNaN b) := by
    cases hn : isNaN b
    · rw [eq0 hb hn]; simp
    · rw [eq0_nan hb hn]; simp
  have hx : isZ b = true → isNaN b = false := fun c => by
    rw [isZ_iff] at c
    rw [Bool.eq_false_iff]; intro k; rw [nan_iff'] at k; omega
  clear ha hb
  generalize isNaN a = na at *
  generalize isNaN b = nb at *
  generalize isInf a = ia at *
  generalize isZ b = zb at *
  generalize a.toNat = x at *
  generalize b.toNat = y at *
  replace HI := Lib.hid HI
  replace HM := Lib.hid HM
  replace HN := Lib.hid HN
  replace HQ := Lib.hid HQ
  cases zb
  · rw [Bool.false_and] at HZ
    clear hx
    cases ia
    · cases na
      · cases nb
        · exact absurd h (by decide)
        · clear h
          go_enter Try.func76, Try.ntmps76
          go_wp2_with (first | (go_at_call 73; refine (HI.out _).mono ?_; rintro e w' ⟨rfl, rfl⟩) | (go_at_call 78; with_reducible first | (refine (HM.out _).mono ?_; rintro e w' ⟨rfl, rfl⟩) | (refine (HN.out _).mono ?_; rintro e w' ⟨rfl, rfl⟩)) | (go_at_call 83; refine (HQ.out _).mono ?_; rintro e w' ⟨rfl, rfl⟩))
          all_goals go_ret
          all_goals exact ⟨rfl, rfl⟩
      · clear h
        go_enter Try.func76, Try.ntmps76
        go_wp2_with (first | (go_at_call 73; refine (HI.out _).mono ?_; rintro e w' ⟨rfl, rfl⟩) | (go_at_call 78; with_reducible first | (refine (HM.out _).mono ?_; rintro e w' ⟨rfl, rfl⟩) | (refine (HN.out _).mono ?_; rintro e w' ⟨rfl, rfl⟩)) | (go_at_call 83; refine (HQ.out _).mono ?_; rintro e w' ⟨rfl, rfl⟩))
        all_goals go_ret
        all_goals exact ⟨rfl, rfl⟩
    · clear h
      go_enter Try.func76, Try.ntmps76
      go_wp2_with (first | (go_at_call 73; refine (HI.out _).mono ?_; rintro e w' ⟨rfl, rfl⟩) | (go_at_call 78; with_reducible first | (refine (HM.out _).mono ?_; rintro e w' ⟨rfl, rfl⟩) | (refine (HN.out _).mono ?_; rintro e w' ⟨rfl, rfl⟩)) | (go_at_call 83; refine (HQ.out _).mono ?_; rintro e w' ⟨rfl, rfl⟩))
      all_goals go_ret
      all_goals exact ⟨rfl, rfl⟩
  · rw [hx rfl] at HZ
    clear h hx
    go_enter Try.func76, Try.ntmps76
    go_wp2_with (first | (go_at_call 73; refine (HI.out _).mono ?_; rintro e w' ⟨rfl, rfl⟩) | (go_at_call 78; with_reducible first | (refine (HM.out _).mono ?_; rintro e w' ⟨rfl, rfl⟩) | (refine (HN.out _).mono ?_; rintro e w' ⟨rfl, rfl⟩)) | (go_at_call 83; refine (HQ.out _).mono ?_; rintro e w' ⟨rfl, rfl⟩))
    all_goals go_ret
    all_goals exact ⟨rfl, rfl⟩
theorem inf_word' {b : Int} (hb : U64 b) (h : sz b = 9218868437227405312) : (sz b).toNat = 9218868437227405312 := by rw [h]; omega
theorem frexp_inf (w : World) : Calls Try.prog 88 #[.float .f64 9218868437227405312] w fun e' w' => e' = .returned (.tuple #[.float .f64 9218868437227405312, .int .i64 0]) ∧ w' = w := by
  have HI := fun w => IsInf0_calls 9218868437227405312 ⟨by decide, by decide⟩ w
  rw [show (9218868437227405312 : Int).toNat = 9218868437227405312 by omega, show isInf 9218868437227405312 = true by decide +kernel] at HI
  have HZ : (FloatKind.f64.format.order 9218868437227405312 0 == some .eq) = false := by decide +kernel
  replace HI := Lib.hid HI
  go_enter Try.func88, Try.ntmps88
  go_wp2_with (first | (go_at_call 73; refine (HI.out _).mono ?_; rintro e w' ⟨rfl, rfl⟩))
  all_goals go_ret2
  all_goals exact ⟨rfl, rfl⟩
theorem Frexp_inf (w : World) : Calls Try.prog 84 #[.float .f64 9218868437227405312] w fun e' w' => e' = .returned (.tuple #[.float .f64 9218868437227405312, .int .i64 0]) ∧ w' = w := by
  have HF := fun w => frexp_inf w
  replace HF := Lib.hid HF
  go_enter Try.func84, Try.ntmps84
  go_wp2_with (first | (go_at_call 88; refine (HF.out _).mono ?_; rintro e w' ⟨rfl, rfl⟩))
  go_ret2
  exact ⟨rfl, rfl⟩
set_option maxRecDepth 100000 in
theorem mod_inf (a b : Int) (ha : U64 a) (hb : U64 b) (fa : sz a < 9218868437227405312) (ib : sz b = 9218868437227405312) (w : World) :
    Calls Try.prog 76 #[.float .f64 a.toNat, .float .f64 b.toNat] w fun e' w' => e' = .returned (.float .f64 a.toNat) ∧ w' = w := by
  have pa := sz_pos ha fa
  have nb : isNaN b = false := by rw [Bool.eq_false_iff]; intro c; rw [nan_iff'] at c; omega
  have HZ := eq0 hb nb
  rw [show isZ b = false by rw [Bool.eq_false_iff]; intro c; rw [isZ_iff] at c; omega] at HZ
  have HI := fun w => IsInf0_calls a ha w
  have HM := fun w => mIsNaN_calls a ha w
  have HN := fun w => mIsNaN_calls b hb w
  have HA := fun w => Abs_calls b hb w
  rw [inf_word' hb ib] at HA
  have HF := fun w => Frexp_inf w
  have HL := less0 ha fa
  obtain ⟨n1, i1⟩ := num_of_fin fa
  rw [n1] at HM
  rw [nb] at HN
  rw [i1] at HI
  have ui : U64 9218868437227405312 := ⟨by decide, by decide⟩
  have si : SR 9218868437227405312 = 9218868437227405312 := by decide +kernel
  have ni : isNaN 9218868437227405312 = false := by decide +kernel
  have ei : (9218868437227405312 : Int).toNat = 9218868437227405312 := by omega
  have hn := neg_word ha n1
  have hn2 := neg_word pa.u (num_of_fin pa.fin).1
  cases hg : (ngb a && decide (sz a ≠ 0))
  · rw [hg] at HL
    have HO2 : FloatKind.f64.format.order a.toNat 9218868437227405312 = some .lt := by
      have h := order_SR ha ui n1 ni
      have : SR a < SR 9218868437227405312 := by
        rw [si]
        have := sz_nonneg ha
        unfold SR; split <;> omega
      rw [cmp_lt this, ei] at h
      exact h
    clear hg hn hn2 pa fa ib n1 i1 ha hb nb ui si ni ei
    generalize a.toNat = x at *
    generalize b.toNat = y at *
    replace HI := Lib.hid HI
    replace HM := Lib.hid HM
    replace HN := Lib.hid HN
    replace HA := Lib.hid HA
    replace HF := Lib.hid HF
    go_enter Try.func76, Try.ntmps76
    go_wp2_with (first | (go_at_call 73; refine (HI.out _).mono ?_; rintro e w' ⟨rfl, rfl⟩) | (go_at_call 78; with_reducible first | (refine (HM.out _).mono ?_; rintro e w' ⟨rfl, rfl⟩) | (refine (HN.out _).mono ?_; rintro e w' ⟨rfl, rfl⟩)) | (go_at_call 80; refine (HA.out _).mono ?_; rintro e w' ⟨rfl, rfl⟩) | (go_at_call 84; refine (HF.out _).mono ?_; rintro e w' ⟨rfl, rfl⟩))
    go_loop [7] (fun c => c = .float .f64 x) (fun _ => 0)
    case atStart => rfl
    case round =>
      subst hrel
      go_wp2
      go_ret
      exact ⟨rfl, rfl⟩
  · rw [hg] at HL
    rw [Bool.and_eq_true] at hg
    have hn3 : negG a = sz a := by
      obtain ⟨f1, f2, f3, f4⟩ := neg_num ha n1
      have := sz_eq f4
      have l0 := f4.lo
      have l1 := f4.hi
      rw [hg.1] at f3
      have f5 : ¬ 9223372036854775808 ≤ negG a := of_decide_eq_false f3
      omega
    rw [hn3] at hn
    have hn4 : negG (sz a) = a := by rw [← hn3, neg_neg' ha n1]
    rw [hn4] at hn2
    have NX : ∀ w, (Op.unary UnOp.neg (.float .f64 a.toNat)).run Try.prog w = .ok (.float .f64 (Op.negFloat .f64 a.toNat)) w := fun _ => rfl
    have NY : ∀ w, (Op.unary UnOp.neg (.float .f64 (sz a).toNat)).run Try.prog w = .ok (.float .f64 (Op.negFloat .f64 (sz a).toNat)) w := fun _ => rfl
    rw [hn] at NX
    rw [hn2] at NY
    have HO : FloatKind.f64.format.order (sz a).toNat 9218868437227405312 = some .lt := by
      have h := order_SR pa.u ui (num_of_fin pa.fin).1 ni
      rw [si, pa.SR, cmp_lt fa, ei] at h
      exact h
    clear hg hn hn2 hn3 hn4 pa fa ib n1 i1 ha hb nb ui si ni ei
    generalize a.toNat = x at *
    generalize (sz a).toNat = r at *
    generalize b.toNat = y at *
    replace HI := Lib.hid HI
    replace HM := Lib.hid HM
    replace HN := Lib.hid HN
    replace HA := Lib.hid HA
    replace HF := Lib.hid HF
    go_enter Try.func76, Try.ntmps76
    go_wp2_with (first | (go_at_call 73; refine (HI.out _).mono ?_; rintro e w' ⟨rfl, rfl⟩) | (go_at_call 78; with_reducible first | (refine (HM.out _).mono ?_; rintro e w' ⟨rfl, rfl⟩) | (refine (HN.out _).mono ?_; rintro e w' ⟨rfl, rfl⟩)) | (go_at_call 80; refine (HA.out _).mono ?_; rintro e w' ⟨rfl, rfl⟩) | (go_at_call 84; refine (HF.out _).mono ?_; rintro e w' ⟨rfl, rfl⟩))
    go_loop [7] (fun c => c = .float .f64 r) (fun _ => 0)
    case atStart => rfl
    case round =>
      subst hrel
      go_wp2
      go_ret
      exact ⟨rfl, rfl⟩
/-- of whatever two: a word that is the rest. -/
theorem mod_all (a b : Int) (ha : U64 a) (hb : U64 b) : ∃ v : Nat, OfG v = RemG a b ∧ v < 18446744073709551616 ∧ ∀ w, Calls Try.prog 76 #[.float .f64 a.toNat, .float .f64 b.toNat] w fun e' w' => e' = .returned (.float .f64 v) ∧ w' = w := by
  have a0 := ha.lo
  have a1 := ha.hi
  by_cases h : (isNaN a || (isNaN b || (isInf a || isZ b))) = true
  · refine ⟨9221120237041090561, ?_, by decide, fun w => mod_nan a b ha hb h w⟩
    rw [one_nan]; unfold RemG; rw [if_pos h]
  · have h' := h
    simp only [Bool.or_eq_true, not_or, Bool.not_eq_true] at h
    obtain ⟨c1, c2, c3, c4⟩ := h
    have fa : sz a < 9218868437227405312 := fin_of c1 c3
    have zb : ¬ sz b = 0 := fun k => by rw [isZ_iff.2 k] at c4; cases c4
    by_cases ib : sz b = 9218868437227405312
    · refine ⟨a.toNat, ?_, by omega, fun w => mod_inf a b ha hb fa ib w⟩
      unfold OfG
      rw [Int.toNat_of_nonneg a0, c1, if_neg (by decide)]
      unfold RemG
      rw [if_neg h', if_pos (by omega)]
    · have : ¬ 9218868437227405312 < sz b := by rw [← nan_iff', c2]; decide
      have fb : sz b < 9218868437227405312 := by omega
      obtain ⟨h1, h2, h3⟩ := modR_word ha hb fa fb zb
      have l0 := h2.lo
      have l1 := h2.hi
      refine ⟨(modR a b).toNat, ?_, by omega, fun w => mod_calls a b ha hb fa fb zb w⟩
      unfold OfG
      rw [Int.toNat_of_nonneg l0, (num_of_fin h3).1, if_neg (by decide), h1]
theorem Mod_all (a b : Int) (ha : U64 a) (hb : U64 b) : ∃ v : Nat, OfG v = RemG a b ∧ v < 18446744073709551616 ∧ ∀ w, Calls Try.prog 65 #[.float .f64 a.toNat, .float .f64 b.toNat] w fun e' w' => e' = .returned (.float .f64 v) ∧ w' = w := by
  obtain ⟨v, h1, h2, h3⟩ := mod_all a b ha hb
  refine ⟨v, h1, h2, fun w => ?_⟩
  clear h1 h2 ha hb
  generalize a.toNat = x at *
  generalize b.toNat = y at *
  replace h3 := Lib.hid h3
  go_enter Try.func65, Try.ntmps65
  go_wp2_with (first | (go_at_call 76; refine (h3.out _).mono ?_; rintro e w' ⟨rfl, rfl⟩))
  go_ret
  exact ⟨rfl, rfl⟩
end Go.Proofs.Ytkiakflmoplmeaa
