/- The walk through the document's Rem. -/
import Derived.Test.YtmemefjhefmfhaaTg
namespace Go.Proofs.Ytmemefjhefmfhaa
open Go.RowKit Fp
set_option linter.unusedVariables false
set_option linter.unusedSimpArgs false
/-- what math.Mod makes of two finite numbers. -/
def modR (a b : Int) : Int := if sz a < sz b then a else modW a b
theorem mod_calls (a b : Int) (ha : U64 a) (hb : U64 b) (fa : sz a < 9218868437227405312) (fb : sz b < 9218868437227405312) (zb : ¬ sz b = 0) (w : World) :
    Calls Try.prog 63 #[.float .f64 a.toNat, .float .f64 b.toNat] w fun e' w' => e' = .returned (.float .f64 (modR a b).toNat) ∧ w' = w := by
  unfold modR
  by_cases h : sz a < sz b
  · rw [if_pos h]; exact mod_small a b ha hb fa fb zb h w
  · rw [if_neg h]
    cases hg : ngb a
    · exact mod_loop0 a b ha hb fa fb zb (by omega) hg w
    · exact mod_loop1 a b ha hb fa fb zb (by omega) hg w
theorem Mod_calls (a b : Int) (ha : U64 a) (hb : U64 b) (fa : sz a < 9218868437227405312) (fb : sz b < 9218868437227405312) (zb : ¬ sz b = 0) (w : World) :
    Calls Try.prog 55 #[.float .f64 a.toNat, .float .f64 b.toNat] w fun e' w' => e' = .returned (.float .f64 (modR a b).toNat) ∧ w' = w := by
  have HM := fun w => mod_calls a b ha hb fa fb zb w
  generalize a.toNat = x at *
  generalize b.toNat = y at *
  generalize (modR a b).toNat = z at *
  replace HM := Lib.hid HM
  clear ha hb fa fb zb
  go_enter Try.func55, Try.ntmps55
  go_wp2_with (first | (go_at_call 63; refine (HM.out _).mono ?_; rintro e w' ⟨rfl, rfl⟩))
  go_ret
  exact ⟨rfl, rfl⟩
theorem eq0 {b : Int} (hb : U64 b) (hn : isNaN b = false) : (FloatKind.f64.format.order b.toNat 0 == some .eq) = isZ b := by
  by_cases z : sz b = 0
  · rw [isZ_iff.2 z]
    have h := Equal_ok hb zero_u64
    rw [show (0 : Int).toNat = 0 from rfl] at h
    rw [show (FloatKind.f64.format.order b.toNat 0 == some .eq) = _ from h]
    unfold EqualG
    rw [isZ_iff.2 z, hn]
    have : isNaN 0 = false := by decide +kernel
    have h2 : isZ 0 = true := by decide +kernel
    rw [this, h2]; simp
  · rw [zero_test hb z]
    cases hz : isZ b
    · rfl
    · exact absurd (isZ_iff.1 hz) z
theorem modR_word {a b : Int} (ha : U64 a) (hb : U64 b) (fa : sz a < 9218868437227405312) (fb : sz b < 9218868437227405312) (zb : ¬ sz b = 0) : RemG a b = modR a b ∧ U64 (modR a b) ∧ sz (modR a b) < 9218868437227405312 := by
  unfold modR
  by_cases h : sz a < sz b
  · rw [if_pos h]
    refine ⟨?_, ha, fa⟩
    unfold RemG
    have hz : isZ b = false := by rw [Bool.eq_false_iff]; intro c; rw [isZ_iff] at c; exact zb c
    rw [(fin_num fa).1, (fin_num fb).1, (fin_num fa).2, hz, if_neg (by decide), if_pos h]
  · rw [if_neg h]
    refine ⟨rem_word ha hb fa fb zb (by omega), ?_⟩
    have pa := sz_pos ha fa
    obtain ⟨u, u1, u2, u3⟩ := rep (V a) (mant a).toNat (pl a + 1074).toNat rfl (mant_lt ha) (by rw [← V_sz pa.u ha pa.sz]; exact pa.below)
    have hm := rung_mono (n := V a % V b) (m := V a) (-1074) (Nat.mod_le _ _)
    rw [u1] at hm
    unfold modW
    obtain ⟨r, hr⟩ : ∃ r, rungN (V a % V b) (-1074) = r := ⟨_, rfl⟩
    rw [hr] at hm ⊢
    clear u1 u3 hr
    rw [sgn_eq (by omega) (by omega)]
    have h64 : U64 (if ngb a then (r : Int) + 9223372036854775808 else r) := by split <;> exact ⟨by omega, by omega⟩
    refine ⟨h64, ?_⟩
    rw [sz_eq h64]
    split <;> omega
theorem modR_of {a b : Int} (ha : U64 a) (hb : U64 b) (fa : sz a < 9218868437227405312) (fb : sz b < 9218868437227405312) (zb : ¬ sz b = 0) (w : World) :
    Calls Try.prog 15 #[.float .f64 (modR a b).toNat] w fun e w' => e = .returned (.int .u64 (RemG a b)) ∧ w' = w := by
  obtain ⟨h1, h2, h3⟩ := modR_word ha hb fa fb zb
  have l0 := h2.lo
  have l1 := h2.hi
  refine Of_val ?_ (by omega) w
  unfold OfG
  rw [Int.toNat_of_nonneg l0, (num_of_fin h3).1, if_neg (by decide), h1]
theorem rem_nan1 {a b : Int} (h : isNaN a = true) : RemG a b = 9221120237041090560 := by unfold RemG; rw [h]; exact if_pos rfl
theorem rem_nan3 {a b : Int} (h : isInf a = true) : RemG a b = 9221120237041090560 := by unfold RemG; rw [h]; exact if_pos (by simp)
theorem rem_nan4 {a b : Int} (h : isZ b = true) : RemG a b = 9221120237041090560 := by unfold RemG; rw [h]; exact if_pos (by simp)
theorem rem_same {a b : Int} (h1 : isNaN a = false) (h2 : isNaN b = false) (h3 : isInf a = false) (h4 : isZ b = false) (h : sz a < sz b) : RemG a b = a := by
  unfold RemG; rw [h1, h2, h3, h4, if_neg (by decide), if_pos h]
set_option maxRecDepth 100000 in
theorem RRem_calls (a b : Int) (ha : U64 a) (hb : U64 b) (w : World) : Calls Try.prog 31 #[.int .u64 a, .int .u64 b] w fun e w' => e = .returned (.int .u64 (RemG a b)) ∧ w' = w := by
  have VA := fun w => Val_calls a w
  have VB := fun w => Val_calls b w
  have HI := fun w => IsInf0_calls a ha w
  have HJ := fun w => IsInf0_calls b hb w
  have NA : (FloatKind.f64.format.order a.toNat a.toNat != some .eq) = isNaN a := self_ok ha
  have NB : (FloatKind.f64.format.order b.toNat b.toNat != some .eq) = isNaN b := self_ok hb
  have EA := eq0 ha
  have EB := eq0 hb
  have HR : isNaN a = false → isNaN b = false → isInf a = false → isZ b = false → isInf b = true ∨ isZ a = true → RemG a b = a := fun h1 h2 h3 h4 h5 => by
    refine rem_same h1 h2 h3 h4 ?_
    have fa : sz a < 9218868437227405312 := fin_of h1 h3
    have := sz_nonneg hb
    have zb : sz b ≠ 0 := fun c => by rw [isZ_iff.2 c] at h4; cases h4
    rcases h5 with h | h
    · rw [inf_iff] at h; omega
    · rw [isZ_iff] at h; omega
  have HM : isNaN a = false → isNaN b = false → isInf a = false → isZ b = false → isInf b = false → ∀ w, Calls Try.prog 55 #[.float .f64 a.toNat, .float .f64 b.toNat] w fun e' w' => e' = .returned (.float .f64 (modR a b).toNat) ∧ w' = w := fun h1 h2 h3 h4 h5 w =>
    Mod_calls a b ha hb (fin_of h1 h3) (fin_of h2 h5) (fun c => by rw [isZ_iff.2 c] at h4; cases h4) w
  have HO : isNaN a = false → isNaN b = false → isInf a = false → isZ b = false → isInf b = false → ∀ w, Calls Try.prog 15 #[.float .f64 (modR a b).toNat] w fun e w' => e = .returned (.int .u64 (RemG a b)) ∧ w' = w := fun h1 h2 h3 h4 h5 w =>
    modR_of ha hb (fin_of h1 h3) (fin_of h2 h5) (fun c => by rw [isZ_iff.2 c] at h4; cases h4) w
  have R1 := @rem_nan1 a b
  have R2 := @rem_nan b a
  have R3 := @rem_nan3 a b
  have R4 := @rem_nan4 a b
  obtain ⟨x, hx⟩ : ∃ x, a.toNat = x := ⟨_, rfl⟩
  obtain ⟨y, hy⟩ : ∃ x, b.toNat = x := ⟨_, rfl⟩
  rw [hx] at VA HI NA EA HM
  rw [hy] at VB HJ NB EB HM
  clear hx hy ha hb
  generalize (modR a b).toNat = z at *
  generalize RemG a b = R at *
  generalize isNaN a = na at *
  generalize isNaN b = nb at *
  generalize isInf a = ia at *
  generalize isInf b = ib at *
  generalize isZ a = za at *
  generalize isZ b = zb at *
  replace VA := Lib.hid VA
  replace VB := Lib.hid VB
  replace HI := Lib.hid HI
  replace HJ := Lib.hid HJ
  cases na
  case true =>
    obtain rfl := R1 rfl
    clear EA EB HR HM HO R1 R2 R3 R4
    go_enter Try.func31, Try.ntmps31
    go_wp2_with (first | (go_at_call 10; with_reducible first | (refine (VA.out _).mono ?_; rintro e w' ⟨rfl, rfl⟩) | (refine (VB.out _).mono ?_; rintro e w' ⟨rfl, rfl⟩)))
    all_goals go_ret
    all_goals exact ⟨rfl, rfl⟩
  cases nb
  case true =>
    obtain rfl := R2 rfl
    clear EA EB HR HM HO R1 R2 R3 R4
    go_enter Try.func31, Try.ntmps31
    go_wp2_with (first | (go_at_call 10; with_reducible first | (refine (VA.out _).mono ?_; rintro e w' ⟨rfl, rfl⟩) | (refine (VB.out _).mono ?_; rintro e w' ⟨rfl, rfl⟩)))
    all_goals go_ret
    all_goals exact ⟨rfl, rfl⟩
  cases ia
  case true =>
    obtain rfl := R3 rfl
    clear EA EB HR HM HO R1 R2 R3 R4
    go_enter Try.func31, Try.ntmps31
    go_wp2_with (first | (go_at_call 10; with_reducible first | (refine (VA.out _).mono ?_; rintro e w' ⟨rfl, rfl⟩) | (refine (VB.out _).mono ?_; rintro e w' ⟨rfl, rfl⟩)) | (go_at_call 18; refine (HI.out _).mono ?_; rintro e w' ⟨rfl, rfl⟩))
    all_goals go_ret
    all_goals exact ⟨rfl, rfl⟩
  replace EA := EA rfl
  replace EB := EB rfl
  cases zb
  case true =>
    obtain rfl := R4 rfl
    clear HR HM HO R1 R2 R3 R4
    go_enter Try.func31, Try.ntmps31
    go_wp2_with (first | (go_at_call 10; with_reducible first | (refine (VA.out _).mono ?_; rintro e w' ⟨rfl, rfl⟩) | (refine (VB.out _).mono ?_; rintro e w' ⟨rfl, rfl⟩)) | (go_at_call 18; refine (HI.out _).mono ?_; rintro e w' ⟨rfl, rfl⟩))
    all_goals go_ret
    all_goals exact ⟨rfl, rfl⟩
  cases ib
  case true =>
    obtain rfl := HR rfl rfl rfl rfl (.inl rfl)
    clear HR HM HO R1 R2 R3 R4
    go_enter Try.func31, Try.ntmps31
    go_wp2_with (first | (go_at_call 10; with_reducible first | (refine (VA.out _).mono ?_; rintro e w' ⟨rfl, rfl⟩) | (refine (VB.out _).mono ?_; rintro e w' ⟨rfl, rfl⟩)) | (go_at_call 18; with_reducible first | (refine (HI.out _).mono ?_; rintro e w' ⟨rfl, rfl⟩) | (refine (HJ.out _).mono ?_; rintro e w' ⟨rfl, rfl⟩)))
    all_goals go_ret
    all_goals exact ⟨rfl, rfl⟩
  replace HM := Lib.hid (HM rfl rfl rfl rfl rfl)
  replace HO := Lib.hid (HO rfl rfl rfl rfl rfl)
  cases za
  case true =>
    obtain rfl := HR rfl rfl rfl rfl (.inr rfl)
    clear HR HM HO R1 R2 R3 R4
    go_enter Try.func31, Try.ntmps31
    go_wp2_with (first | (go_at_call 10; with_reducible first | (refine (VA.out _).mono ?_; rintro e w' ⟨rfl, rfl⟩) | (refine (VB.out _).mono ?_; rintro e w' ⟨rfl, rfl⟩)) | (go_at_call 18; with_reducible first | (refine (HI.out _).mono ?_; rintro e w' ⟨rfl, rfl⟩) | (refine (HJ.out _).mono ?_; rintro e w' ⟨rfl, rfl⟩)))
    all_goals go_ret
    all_goals exact ⟨rfl, rfl⟩
  clear HR R1 R2 R3 R4
  go_enter Try.func31, Try.ntmps31
  go_wp2_with (first | (go_at_call 10; with_reducible first | (refine (VA.out _).mono ?_; rintro e w' ⟨rfl, rfl⟩) | (refine (VB.out _).mono ?_; rintro e w' ⟨rfl, rfl⟩)) | (go_at_call 18; with_reducible first | (refine (HI.out _).mono ?_; rintro e w' ⟨rfl, rfl⟩) | (refine (HJ.out _).mono ?_; rintro e w' ⟨rfl, rfl⟩)) | (go_at_call 55; refine (HM.out _).mono ?_; rintro e w' ⟨rfl, rfl⟩) | (go_at_call 15; refine (HO.out _).mono ?_; rintro e w' ⟨rfl, rfl⟩))
  all_goals go_ret
  all_goals exact ⟨rfl, rfl⟩
end Go.Proofs.Ytmemefjhefmfhaa
