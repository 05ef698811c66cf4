/- The walks through math: Ldexp. -/
import Derived.Test.YtkiakflmoplmeaaTb
namespace Go.Proofs.Ytkiakflmoplmeaa
open Go.RowKit Fp
set_option linter.unusedVariables false
set_option linter.unusedSimpArgs false
theorem sign_and {y : Int} (hy : U64 y) : Go.bits .and .u64 y 9223372036854775808 = if ngb y then 9223372036854775808 else 0 := by
  have h0 := hy.lo
  have h1 := hy.hi
  obtain ⟨n, rfl⟩ := Int.eq_ofNat_of_zero_le h0
  have e2 := bits_and64 n (2 ^ 63) (by omega) (by decide)
  rw [← e63] at e2
  rw [e2, and_top, top_bit (by omega)]
  unfold ngb
  have e63n : (2 : Nat) ^ 63 = 9223372036854775808 := by decide
  rw [e63n]
  cases decide (9223372036854775808 ≤ (n : Int)) <;> rfl
theorem Copysign0_calls (y : Int) (hy : U64 y) (w : World) : Calls Try.prog 86 #[.float .f64 0, .float .f64 y.toNat] w fun e w' => e = .returned (.float .f64 (Ieee.double.word (ngb y) 0)) ∧ w' = w := by
  have e : ((y.toNat : Nat) : Int) = y := by have := hy.lo; omega
  have hf0 := bits_run 0
  rw [show ((0 : Nat) : Int) = 0 from rfl] at hf0
  have hf := bits_run y.toNat
  rw [e] at hf
  have hg := frombits_run (if ngb y then 9223372036854775808 else 0)
  have h1 := sign_and hy
  have h2 : Go.bits .andNot .u64 0 9223372036854775808 = 0 := by decide +kernel
  have h3 : Go.bits .or .u64 0 (if ngb y then 9223372036854775808 else 0) = if ngb y then 9223372036854775808 else 0 := by cases ngb y <;> decide +kernel
  have h4 : (if ngb y then (9223372036854775808 : Int) else 0).toNat = Ieee.double.word (ngb y) 0 := by cases ngb y <;> decide +kernel
  rw [h4] at hg
  generalize Ieee.double.word (ngb y) 0 = r at *
  generalize (if ngb y then (9223372036854775808 : Int) else 0) = s at *
  generalize y.toNat = v at *
  go_enter Try.func86, Try.ntmps86
  go_wp2
  go_ret
  exact ⟨rfl, rfl⟩
theorem zero_test {x : Int} (hx : U64 x) (zx : ¬ sz x = 0) : (FloatKind.f64.format.order x.toNat 0 == some .eq) = false := by
  have h := Equal_ok hx zero_u64
  rw [show (0 : Int).toNat = 0 from rfl] at h
  rw [show (FloatKind.f64.format.order x.toNat 0 == some .eq) = _ from h]
  unfold EqualG
  have z : isZ x = false := by rw [Bool.eq_false_iff]; intro c; rw [isZ_iff] at c; exact zx c
  have : (x == 0) = false := by
    rw [beq_eq_false_iff_ne]; intro c; subst c; exact zx (by decide +kernel)
  rw [z, this]; simp
theorem i64_and2047 (n : Int) : Go.bits .and .i64 n 2047 = n % 2048 := by
  have h127 : (BitVec.ofInt 64 2047).toNat = 2 ^ 11 - 1 := by decide
  have key : (BitVec.ofInt 64 n &&& BitVec.ofInt 64 2047).toNat = (n % ((2 ^ 64 : Nat) : Int)).toNat % 2 ^ 11 := by
    rw [BitVec.toNat_and, BitVec.toNat_ofInt, h127, Nat.and_two_pow_sub_one_eq_mod]
  show IntKind.i64.wrap ((BitVec.ofInt 64 n &&& BitVec.ofInt 64 2047).toNat : Nat) = n % 2048
  rw [key, IntKind.wrap_i64]
  omega
theorem field_and {x y k : Int} (N : Norm x y k) : Go.bits .and .i64 (y / 4503599627370496) 2047 = oexp y + 1086 := by
  have y0 := N.u.lo
  have y1 := N.u.hi
  have h := N.field
  rw [sz_eq N.u] at h
  rw [← h, i64_and2047]
  omega
theorem near2_n (s : Bool) (n : Nat) (p : Int) : isNaN ((near2 s n false p : Nat) : Int) = false := by
  unfold near2; exact word_num _ _ (Nat.min_le_right _ _)
theorem neg_test {x : Int} (hx : U64 x) (zx : ¬ sz x = 0) (fx : sz x < 9218868437227405312) : (FloatKind.f64.format.order x.toNat 0 == some .lt) = ngb x := by
  have h := Less_ok hx zero_u64
  rw [show (0 : Int).toNat = 0 from rfl] at h
  have s0 := sz_nonneg hx
  rw [show (FloatKind.f64.format.order x.toNat 0 == some .lt) = _ from h, LessG_SR hx zero_u64 (num_of_fin fx).1 (by decide +kernel), SR_zero]
  unfold SR
  cases ngb x
  · rw [if_neg (by decide)]; exact decide_eq_false (by omega)
  · rw [if_pos rfl]; exact decide_eq_true (by omega)
set_option maxRecDepth 100000 in
theorem ldexp_calls (x e : Int) (hx : U64 x) (zx : ¬ sz x = 0) (fx : sz x < 9218868437227405312) (e0 : -9000 ≤ e) (e1 : e ≤ 9000) (w : World) :
    Calls Try.prog 90 #[.float .f64 x.toNat, .int .i64 e] w fun e' w' => e' = .returned (.float .f64 (near2 (ngb x) (oman x).toNat false (oexp x + e))) ∧ w' = w := by
  obtain ⟨hn, hi⟩ := num_of_fin fx
  have N := norm_of hx zx fx
  have HN := fun w => normalize_calls x hx zx fx w
  have HI := fun w => IsInf0_calls x hx w
  have HM := fun w => mIsNaN_calls x hx w
  have HZ := zero_test hx zx
  rw [hn] at HM
  rw [hi] at HI
  obtain ⟨Y, hY⟩ : ∃ y, normY x = y := ⟨_, rfl⟩
  obtain ⟨K, hK⟩ : ∃ y, normE x = y := ⟨_, rfl⟩
  have hk : K = 0 ∨ K = -52 := by rw [← hK]; unfold normE; split <;> simp
  rw [hY, hK] at N HN
  have eY : ((Y.toNat : Nat) : Int) = Y := by have := N.u.lo; omega
  have hb := bits_run Y.toNat
  rw [eY] at hb
  replace HN := Lib.hid HN
  replace HI := Lib.hid HI
  replace HM := Lib.hid HM
  have y0 := N.u.lo
  have y1 := N.u.hi
  have HNo := Lib.hid N
  have HX := Lib.hid (And.intro hx (And.intro zx fx))
  obtain ⟨R, hR⟩ : ∃ r, near2 (ngb x) (oman x).toNat false (oexp x + e) = r := ⟨_, rfl⟩
  rw [hR]
  have HR := Lib.hid hR
  clear N hx zx fx hn hi eY hY hK hR
  obtain ⟨v, hv⟩ : ∃ v, x.toNat = v := ⟨_, rfl⟩
  rw [hv] at HZ HN HI HM ⊢
  clear hv
  obtain ⟨u, hu⟩ : ∃ v, Y.toNat = v := ⟨_, rfl⟩
  rw [hu] at HN hb
  have HU := Lib.hid hu
  clear hu
  obtain ⟨fld, hfl⟩ : ∃ f, oexp Y + 1086 = f := ⟨_, rfl⟩
  have hF : Go.bits .and .i64 (Y / 4503599627370496) 2047 = fld := by rw [← hfl]; exact field_and HNo.out
  have fl0 : 1 ≤ fld := by have := HNo.out.f0; omega
  have fl1 : fld ≤ 2046 := by have := HNo.out.f1; omega
  obtain ⟨P, hP⟩ : ∃ q, e + K + (fld - 1023) = q := ⟨_, rfl⟩
  have W1 : wrap64 (fld - 1023) = fld - 1023 := by unfold wrap64; omega
  have W2 : wrap64 P = P := by unfold wrap64; omega
  have HP := Lib.hid (show P = oexp x + 63 + e by have := HNo.out.ex; omega)
  have HFL := Lib.hid hfl
  clear hfl
  have hR := HR.out
  have hx := HX.out.1
  have ox := opened hx HX.out.2.1
  have x0 := ox.lo
  have x1 := ox.hi
  have nx := near2_n (ngb x) (oman x).toNat (oexp x + e)
  by_cases c1 : P < -1075
  · have HC : ∀ w, Calls Try.prog 86 #[.float .f64 0, .float .f64 u] w fun e w' => e = .returned (.float .f64 R) ∧ w' = w := fun w => by
      have h := Copysign0_calls Y HNo.out.u w
      rw [HU.out, HNo.out.ng] at h
      rw [← near2_under (ngb x) (oman x).toNat (oexp x + e) (by omega) (by omega) (by have := HP.out; omega), hR] at h
      exact h
    replace HC := Lib.hid HC
    clear hR hx ox x0 x1 nx
    go_enter Try.func90, Try.ntmps90
    go_wp2_with (first | (go_at_call 73; refine (HI.out _).mono ?_; rintro e w' ⟨rfl, rfl⟩) | (go_at_call 78; refine (HM.out _).mono ?_; rintro e w' ⟨rfl, rfl⟩) | (go_at_call 91; refine (HN.out _).mono ?_; rintro e w' ⟨rfl, rfl⟩) | (go_at_call 86; refine (HC.out _).mono ?_; rintro e w' ⟨rfl, rfl⟩) | (go_at_call 92; first | (refine (Inf1_calls _).mono ?_; rintro e w' ⟨rfl, rfl⟩) | (refine (InfN_calls _).mono ?_; rintro e w' ⟨rfl, rfl⟩)))
    go_ret
    exact ⟨rfl, rfl⟩
  have HC := Lib.hid (fun w => Inf1_calls w)
  have hk2 : -1075 ≤ P := by omega
  by_cases c2 : 1023 < P
  · have hL : (FloatKind.f64.format.order u 0 == some .lt) = ngb x := by
      rw [← HU.out, ← HNo.out.ng]; exact neg_test HNo.out.u HNo.out.nz HNo.out.fin
    have hov := near2_over (ngb x) (oman x).toNat (oexp x + e) (by omega) (by omega) (by have := HP.out; omega)
    rw [hR] at hov
    cases hg : ngb x
    · rw [hg] at hL hov
      have hov2 : R = 9218868437227405312 := by rw [hov]; decide +kernel
      subst hov2
      clear hR hx ox x0 x1 nx hov HR
      go_enter Try.func90, Try.ntmps90
      go_wp2_with (first | (go_at_call 73; refine (HI.out _).mono ?_; rintro e w' ⟨rfl, rfl⟩) | (go_at_call 78; refine (HM.out _).mono ?_; rintro e w' ⟨rfl, rfl⟩) | (go_at_call 91; refine (HN.out _).mono ?_; rintro e w' ⟨rfl, rfl⟩) | (go_at_call 86; refine (HC.out _).mono ?_; rintro e w' ⟨rfl, rfl⟩) | (go_at_call 92; first | (refine (Inf1_calls _).mono ?_; rintro e w' ⟨rfl, rfl⟩) | (refine (InfN_calls _).mono ?_; rintro e w' ⟨rfl, rfl⟩)))
      go_ret
      exact ⟨rfl, rfl⟩
    · rw [hg] at hL hov
      have hov2 : R = 18442240474082181120 := by rw [hov]; decide +kernel
      subst hov2
      clear hR hx ox x0 x1 nx hov HR
      go_enter Try.func90, Try.ntmps90
      go_wp2_with (first | (go_at_call 73; refine (HI.out _).mono ?_; rintro e w' ⟨rfl, rfl⟩) | (go_at_call 78; refine (HM.out _).mono ?_; rintro e w' ⟨rfl, rfl⟩) | (go_at_call 91; refine (HN.out _).mono ?_; rintro e w' ⟨rfl, rfl⟩) | (go_at_call 86; refine (HC.out _).mono ?_; rintro e w' ⟨rfl, rfl⟩) | (go_at_call 92; first | (refine (Inf1_calls _).mono ?_; rintro e w' ⟨rfl, rfl⟩) | (refine (InfN_calls _).mono ?_; rintro e w' ⟨rfl, rfl⟩)))
      go_ret
      exact ⟨rfl, rfl⟩
  by_cases c3 : P < -1022
  · have hl := ld_sub HNo.out HP.out hk2 c3
    have hw := (ldW_parts (E := P + 53 + 1023) HNo.out (by omega) (by omega)).1
    have hm := mul_some' C53.1 hw (by rw [hl]; exact nx)
    rw [hl, hR, Int.toNat_natCast, show (4368491638549381120 : Int).toNat = 4368491638549381120 by omega] at hm
    have HA := fun t w => run_float_arith (P := Try.prog) w .mul t .f64 _ _ _ hm
    have hg := frombits_run (ldW Y (P + 53 + 1023))
    have hW : Go.bits .or .u64 (Go.bits .andNot .u64 Y 9218868437227405312) ((P + 53 + 1023) * 4503599627370496) = ldW Y (P + 53 + 1023) := rfl
    generalize (ldW Y (P + 53 + 1023)).toNat = z at *
    generalize ldW Y (P + 53 + 1023) = wd at *
    clear hR hx ox x0 x1 nx hl hw hm
    go_enter Try.func90, Try.ntmps90
    go_wp2_with (first | (go_at_call 73; refine (HI.out _).mono ?_; rintro e w' ⟨rfl, rfl⟩) | (go_at_call 78; refine (HM.out _).mono ?_; rintro e w' ⟨rfl, rfl⟩) | (go_at_call 91; refine (HN.out _).mono ?_; rintro e w' ⟨rfl, rfl⟩) | (go_at_call 86; refine (HC.out _).mono ?_; rintro e w' ⟨rfl, rfl⟩) | (go_at_call 92; first | (refine (Inf1_calls _).mono ?_; rintro e w' ⟨rfl, rfl⟩) | (refine (InfN_calls _).mono ?_; rintro e w' ⟨rfl, rfl⟩)))
    go_ret
    exact ⟨rfl, rfl⟩
  · have hl := ld_one HNo.out HP.out (by omega) (by omega)
    have hw := (ldW_parts (E := P + 1023) HNo.out (by omega) (by omega)).1
    have hm := mul_some' C1.1 hw (by rw [hl]; exact nx)
    rw [hl, hR, Int.toNat_natCast, show (4607182418800017408 : Int).toNat = 4607182418800017408 by omega] at hm
    have HA := fun t w => run_float_arith (P := Try.prog) w .mul t .f64 _ _ _ hm
    have hg := frombits_run (ldW Y (P + 1023))
    have hW : Go.bits .or .u64 (Go.bits .andNot .u64 Y 9218868437227405312) ((P + 1023) * 4503599627370496) = ldW Y (P + 1023) := rfl
    generalize (ldW Y (P + 1023)).toNat = z at *
    generalize ldW Y (P + 1023) = wd at *
    clear hR hx ox x0 x1 nx hl hw hm
    go_enter Try.func90, Try.ntmps90
    go_wp2_with (first | (go_at_call 73; refine (HI.out _).mono ?_; rintro e w' ⟨rfl, rfl⟩) | (go_at_call 78; refine (HM.out _).mono ?_; rintro e w' ⟨rfl, rfl⟩) | (go_at_call 91; refine (HN.out _).mono ?_; rintro e w' ⟨rfl, rfl⟩) | (go_at_call 86; refine (HC.out _).mono ?_; rintro e w' ⟨rfl, rfl⟩) | (go_at_call 92; first | (refine (Inf1_calls _).mono ?_; rintro e w' ⟨rfl, rfl⟩) | (refine (InfN_calls _).mono ?_; rintro e w' ⟨rfl, rfl⟩)))
    go_ret
    exact ⟨rfl, rfl⟩
set_option maxRecDepth 100000 in
theorem Ldexp_calls (x e : Int) (hx : U64 x) (zx : ¬ sz x = 0) (fx : sz x < 9218868437227405312) (e0 : -9000 ≤ e) (e1 : e ≤ 9000) (w : World) :
    Calls Try.prog 85 #[.float .f64 x.toNat, .int .i64 e] w fun e' w' => e' = .returned (.float .f64 (near2 (ngb x) (oman x).toNat false (oexp x + e))) ∧ w' = w := by
  have HL := fun w => ldexp_calls x e hx zx fx e0 e1 w
  generalize near2 (ngb x) (oman x).toNat false (oexp x + e) = r at *
  generalize x.toNat = v at *
  replace HL := Lib.hid HL
  clear hx zx fx
  go_enter Try.func85, Try.ntmps85
  go_wp2_with (first | (go_at_call 90; refine (HL.out _).mono ?_; rintro e w' ⟨rfl, rfl⟩))
  go_ret
  exact ⟨rfl, rfl⟩
set_option maxRecDepth 100000 in
theorem ldexp0_calls (e : Int) (w : World) : Calls Try.prog 90 #[.float .f64 0, .int .i64 e] w fun e' w' => e' = .returned (.float .f64 0) ∧ w' = w := by
  have h : (FloatKind.f64.format.order 0 0 == some .eq) = true := by decide +kernel
  go_enter Try.func90, Try.ntmps90
  go_wp2
  go_ret
  exact ⟨rfl, rfl⟩
theorem Ldexp0_calls (e : Int) (w : World) : Calls Try.prog 85 #[.float .f64 0, .int .i64 e] w fun e' w' => e' = .returned (.float .f64 0) ∧ w' = w := by
  go_enter Try.func85, Try.ntmps85
  go_wp2_with (first | (go_at_call 90; refine (ldexp0_calls _ _).mono ?_; rintro e w' ⟨rfl, rfl⟩))
  go_ret
  exact ⟨rfl, rfl⟩
end Go.Proofs.Ytkiakflmoplmeaa
