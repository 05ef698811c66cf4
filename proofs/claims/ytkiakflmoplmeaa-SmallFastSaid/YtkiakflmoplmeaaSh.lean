/- The walks through package soft: quotients. -/
import Derived.Test.YtkiakflmoplmeaaSg
import Derived.Test.YtkiakflmoplmeaaFq
namespace Go.Proofs.Ytkiakflmoplmeaa
open Go.RowKit Fp
set_option linter.unusedVariables false
set_option linter.unusedSimpArgs false
theorem and_mask {y : Int} (h : U64 y) : Go.bits .and .u64 y 4294967295 = y % 4294967296 := by
  have h0 := h.lo
  have h1 := h.hi
  have e := bits_and64 y.toNat 4294967295 (by omega) (by decide)
  rw [show ((y.toNat : Nat) : Int) = y by omega, show ((4294967295 : Nat) : Int) = 4294967295 by rfl] at e
  rw [e, show (4294967295 : Nat) = 2 ^ 32 - 1 by decide, Nat.and_two_pow_sub_one_eq_mod]
  omega
theorem or_nil {y : Int} (h : U64 y) : Go.bits .or .u64 y 0 = y := by
  have h0 := h.lo
  have h1 := h.hi
  have e := bits_or64 y.toNat 0 (by omega) (by decide)
  rw [show ((y.toNat : Nat) : Int) = y by omega, show ((0 : Nat) : Int) = 0 by rfl] at e
  rw [e, Nat.or_zero]; omega
theorem wrap_id {y : Int} (h0 : 0 ≤ y) (h1 : y < 18446744073709551616) : IntKind.u64.wrap y = y := by rw [u64_wrap]; omega
theorem tdiv_id {a b : Int} (h : 0 ≤ a) : a.tdiv b = a / b := Int.tdiv_eq_ediv_of_nonneg h
set_option maxRecDepth 100000 in
theorem Div64_runs (hi lo y : Int) (hl : U64 lo) (h0 : 1 ≤ hi) (h1 : hi < y) (y0 : 9223372036854775808 ≤ y) (y1 : y < 18446744073709551616) (w : World) :
    Calls Try.prog 54 #[.int .u64 hi, .int .u64 lo, .int .u64 y] w fun e w' => e = .returned (.tuple #[.int .u64 ((hi * 18446744073709551616 + lo) / y), .int .u64 ((hi * 18446744073709551616 + lo) % y)]) ∧ w' = w := by
  have hz : lz y = 0 := by
    rw [lz_eq ⟨by omega, by omega⟩ (by omega)]
    have : y.toNat.log2 = 63 := log2_63 (by omega) (by omega)
    omega
  have hl0 := hl.lo
  have hl1 := hl.hi
  have HY : U64 y := ⟨by omega, by omega⟩
  have HH : U64 hi := ⟨by omega, by omega⟩
  have e1 := and_mask HY
  have e2 := and_mask hl
  have e3 : lo / 18446744073709551616 = 0 := by omega
  have e4 := or_nil HH
  obtain ⟨Yh, hYh⟩ : ∃ a, y / 4294967296 = a := ⟨_, rfl⟩
  obtain ⟨Yl, hYl⟩ : ∃ a, y % 4294967296 = a := ⟨_, rfl⟩
  obtain ⟨Lh, hLh⟩ : ∃ a, lo / 4294967296 = a := ⟨_, rfl⟩
  obtain ⟨Ll, hLl⟩ : ∃ a, lo % 4294967296 = a := ⟨_, rfl⟩
  have eY : y = Yh * 4294967296 + Yl := by omega
  have eL : lo = Lh * 4294967296 + Ll := by omega
  have p1 : KPre hi Lh Yh Yl := ⟨by omega, by omega, by omega, by omega, by omega, by omega, by omega, by omega⟩
  have k1 := KInv.start p1
  have td := two_digits hi Lh Ll y (by omega)
  rw [← eL] at td
  rw [td.1, td.2]
  have Q0 := p1.Q_nonneg
  have Q1 := p1.Q_lt
  have q0 : 0 ≤ hi / Yh := Int.ediv_nonneg (by omega) (by have := p1.h0; omega)
  have e5 : IntKind.u64.wrap (hi.tdiv Yh) = hi / Yh := by rw [tdiv_id (by omega)]; exact wrap_id q0 (by have := k1.hi; omega)
  have e6 : IntKind.u64.wrap (hi / Yh * Yh) = hi / Yh * Yh := by have := k1.e; have := k1.r0; exact wrap_id (Int.mul_nonneg q0 (by have := p1.h0; omega)) (by omega)
  have e7 : IntKind.u64.wrap (hi - hi / Yh * Yh) = hi % Yh := by rw [show hi - hi / Yh * Yh = hi % Yh by have := k1.e; omega]; exact wrap_id k1.r0 (by have := k1.r1; omega)
  rw [← eY] at Q0 Q1
  -- behind the first digit
  obtain ⟨N, hN⟩ : ∃ n, hi * 4294967296 + Lh = n := ⟨_, rfl⟩
  have mm := Int.mul_ediv_add_emod N y
  have rr0 := Int.emod_nonneg N (show y ≠ 0 by omega)
  have rr1 := Int.emod_lt_of_pos N (show 0 < y by omega)
  rw [hN] at Q0 Q1 ⊢
  have e8 : IntKind.u64.wrap (IntKind.u64.wrap (IntKind.u64.wrap (hi * 4294967296) + Lh) - IntKind.u64.wrap (N / y * y)) = N % y := by
    rw [Int.mul_comm y] at mm
    simp only [u64_wrap]; generalize N / y * y = z at *; generalize N % y = u at *; omega
  have KQ : ∀ q r, KInv hi Lh Yh Yl q r → N / y ≤ q := fun q r k => by have := k.lo; rw [hN, ← eY] at this; exact this
  have eq1 : (hi * 4294967296 + Lh) / (Yh * 4294967296 + Yl) = N / y := by rw [hN, ← eY]
  generalize N / y = A at *
  generalize N % y = R at *
  have p2 : KPre R Ll Yh Yl := ⟨by omega, by omega, by omega, by omega, by omega, by omega, by omega, by omega⟩
  have k2 := KInv.start p2
  have t0 : 0 ≤ R / Yh := Int.ediv_nonneg (by omega) (by have := p1.h0; omega)
  have e9 : IntKind.u64.wrap (R.tdiv Yh) = R / Yh := by rw [tdiv_id (by omega)]; exact wrap_id t0 (by have := k2.hi; omega)
  have e10 : IntKind.u64.wrap (R / Yh * Yh) = R / Yh * Yh := by have := k2.e; have := k2.r0; exact wrap_id (Int.mul_nonneg t0 (by have := p1.h0; omega)) (by omega)
  have e11 : IntKind.u64.wrap (R - R / Yh * Yh) = R % Yh := by rw [show R - R / Yh * Yh = R % Yh by have := k2.e; omega]; exact wrap_id k2.r0 (by have := k2.r1; omega)
  obtain ⟨M, hM⟩ : ∃ n, R * 4294967296 + Ll = n := ⟨_, rfl⟩
  have nn := Int.mul_ediv_add_emod M y
  have ss0 := Int.emod_nonneg M (show y ≠ 0 by omega)
  have ss1 := Int.emod_lt_of_pos M (show 0 < y by omega)
  have B0 := p2.Q_nonneg
  have B1 := p2.Q_lt
  have eq2 : (R * 4294967296 + Ll) / (Yh * 4294967296 + Yl) = M / y := by rw [hM, ← eY]
  rw [eq2] at B0 B1
  rw [hM]
  have e12 : IntKind.u64.wrap (IntKind.u64.wrap (IntKind.u64.wrap (R * 4294967296) + Ll) - IntKind.u64.wrap (M / y * y)) = M % y := by
    rw [Int.mul_comm y] at nn
    simp only [u64_wrap]; generalize M / y * y = z at *; generalize M % y = u at *; omega
  have e13 : IntKind.u64.wrap (IntKind.u64.wrap (A * 4294967296) + M / y) = A * 4294967296 + M / y := by simp only [u64_wrap]; omega
  generalize M / y = C at *
  generalize M % y = S at *
  have c1 : (y == 0) = false := by rw [beq_eq_false_iff_ne]; omega
  have c2 : (hi == 0) = false := by rw [beq_eq_false_iff_ne]; omega
  have c3 : decide (y ≤ hi) = false := decide_eq_false (by omega)
  have c4 : (Yh == 0) = false := by rw [beq_eq_false_iff_ne]; have := p1.h0; omega
  have P1 := Lib.hid p1
  have P2 := Lib.hid p2
  have K1 := Lib.hid k1
  have K2 := Lib.hid k2
  have E1 := Lib.hid eq1
  have E2 := Lib.hid eq2
  clear p1 p2 k1 k2 eq1 eq2 KQ mm nn rr0 rr1 ss0 ss1 td hN hM eY eL q0 t0 HH hl
  go_enter Try.func54, Try.ntmps54
  go_wp2_with (first | (go_at_call 67; refine (lz_calls _ _ (by assumption)).mono ?_; rw [hz]; rintro e w' ⟨rfl, rfl⟩))
  go_loop [15, 16] (fun c d => ∃ q r : Int, KInv hi Lh Yh Yl q r ∧ c = .int .u64 q ∧ d = .int .u64 r) (fun c _ => (intOf c).toNat)
  case atStart => exact ⟨_, _, K1.out, rfl, rfl⟩
  case round =>
    obtain ⟨q, r, k, rfl, rfl⟩ := hrel
    have qlo := k.lo
    rw [E1.out] at qlo
    have qhi := k.hi
    have rlo := k.r0
    have rhi := k.r1
    by_cases b1 : 4294967296 ≤ q
    · skip
      have st := KInv.big P1.out k b1
      have st2 := st
      rw [E1.out] at st2
      have a2 : IntKind.u64.wrap (r + Yh) = r + Yh := wrap_id (by have := P1.out.h0; omega) (by have := P1.out.h1; omega)
      have ST := Lib.hid st
      clear st
      by_cases b3 : 4294967296 ≤ r + Yh
      · have a1 : IntKind.u64.wrap (q - 1) = A := by
          have := KInv.stop P1.out k ST.out b3
          rw [E1.out] at this
          rw [this]; exact wrap_id (by omega) (by omega)
        have KK := Lib.hid k
        clear k st2 qlo qhi rlo rhi
        go_wp2
        go_loop [18, 16] (fun c d => ∃ q r : Int, KInv R Ll Yh Yl q r ∧ c = .int .u64 q ∧ d = .int .u64 r) (fun c _ => (intOf c).toNat)
        case atStart => exact ⟨_, _, K2.out, rfl, rfl⟩
        case round =>
          obtain ⟨q, r, k, rfl, rfl⟩ := hrel
          have qlo := k.lo
          rw [E2.out] at qlo
          have qhi := k.hi
          have rlo := k.r0
          have rhi := k.r1
          by_cases b1 : 4294967296 ≤ q
          · skip
            have st := KInv.big P2.out k b1
            have st2 := st
            rw [E2.out] at st2
            have a2 : IntKind.u64.wrap (r + Yh) = r + Yh := wrap_id (by have := P2.out.h0; omega) (by have := P2.out.h1; omega)
            have ST := Lib.hid st
            clear st
            by_cases b3 : 4294967296 ≤ r + Yh
            · have a1 : IntKind.u64.wrap (q - 1) = C := by
                have := KInv.stop P2.out k ST.out b3
                rw [E2.out] at this
                rw [this]; exact wrap_id (by omega) (by omega)
              have KK := Lib.hid k
              clear k st2 qlo qhi rlo rhi
              go_wp2
              go_ret2
              exact ⟨rfl, rfl⟩
            · have a1 : IntKind.u64.wrap (q - 1) = q - 1 := wrap_id (by omega) (by omega)
              have kn := KInv.step k ST.out (by have := P2.out.h0; omega) (by omega)
              have KN := Lib.hid kn
              clear kn k qlo qhi rlo rhi
              go_wp2
              go_round
              case rel => exact ⟨_, _, KN.out, rfl, rfl⟩
              case measure => simp [intOf]; omega
          · have m1 := Int.mul_nonneg (show 0 ≤ q by omega) P2.out.l0
            have m2 := Int.mul_le_mul (show q ≤ 4294967295 by omega) (show Yl ≤ 4294967295 by have := P2.out.l1; omega) P2.out.l0 (by omega)
            have w1 : IntKind.u64.wrap (q * Yl) = q * Yl := wrap_id m1 (by omega)
            have w2 : IntKind.u64.wrap (4294967296 * r) = 4294967296 * r := wrap_id (by omega) (by omega)
            have w3 : IntKind.u64.wrap (4294967296 * r + Ll) = 4294967296 * r + Ll := wrap_id (by have := P2.out.b0; omega) (by have := P2.out.b1; omega)
            by_cases b2 : 4294967296 * r + Ll < q * Yl
            · clear m1 m2
              have st := KInv.much P2.out k b2
              have st2 := st
              rw [E2.out] at st2
              have a2 : IntKind.u64.wrap (r + Yh) = r + Yh := wrap_id (by have := P2.out.h0; omega) (by have := P2.out.h1; omega)
              have ST := Lib.hid st
              clear st
              by_cases b3 : 4294967296 ≤ r + Yh
              · have a1 : IntKind.u64.wrap (q - 1) = C := by
                  have := KInv.stop P2.out k ST.out b3
                  rw [E2.out] at this
                  rw [this]; exact wrap_id (by omega) (by omega)
                have KK := Lib.hid k
                clear k st2 qlo qhi rlo rhi
                go_wp2
                go_ret2
                exact ⟨rfl, rfl⟩
              · have a1 : IntKind.u64.wrap (q - 1) = q - 1 := wrap_id (by omega) (by omega)
                have kn := KInv.step k ST.out (by have := P2.out.h0; omega) (by omega)
                have KN := Lib.hid kn
                clear kn k qlo qhi rlo rhi
                go_wp2
                go_round
                case rel => exact ⟨_, _, KN.out, rfl, rfl⟩
                case measure => simp [intOf]; omega
            · have ex := KInv.exit P2.out k (by omega)
              rw [E2.out] at ex
              subst ex
              clear m1 m2 qlo qhi rlo rhi k
              go_wp2
              go_ret2
              exact ⟨rfl, rfl⟩
      · have a1 : IntKind.u64.wrap (q - 1) = q - 1 := wrap_id (by omega) (by omega)
        have kn := KInv.step k ST.out (by have := P1.out.h0; omega) (by omega)
        have KN := Lib.hid kn
        clear kn k qlo qhi rlo rhi
        go_wp2
        go_round
        case rel => exact ⟨_, _, KN.out, rfl, rfl⟩
        case measure => simp [intOf]; omega
    · have m1 := Int.mul_nonneg (show 0 ≤ q by omega) P1.out.l0
      have m2 := Int.mul_le_mul (show q ≤ 4294967295 by omega) (show Yl ≤ 4294967295 by have := P1.out.l1; omega) P1.out.l0 (by omega)
      have w1 : IntKind.u64.wrap (q * Yl) = q * Yl := wrap_id m1 (by omega)
      have w2 : IntKind.u64.wrap (4294967296 * r) = 4294967296 * r := wrap_id (by omega) (by omega)
      have w3 : IntKind.u64.wrap (4294967296 * r + Lh) = 4294967296 * r + Lh := wrap_id (by have := P1.out.b0; omega) (by have := P1.out.b1; omega)
      by_cases b2 : 4294967296 * r + Lh < q * Yl
      · clear m1 m2
        have st := KInv.much P1.out k b2
        have st2 := st
        rw [E1.out] at st2
        have a2 : IntKind.u64.wrap (r + Yh) = r + Yh := wrap_id (by have := P1.out.h0; omega) (by have := P1.out.h1; omega)
        have ST := Lib.hid st
        clear st
        by_cases b3 : 4294967296 ≤ r + Yh
        · have a1 : IntKind.u64.wrap (q - 1) = A := by
            have := KInv.stop P1.out k ST.out b3
            rw [E1.out] at this
            rw [this]; exact wrap_id (by omega) (by omega)
          have KK := Lib.hid k
          clear k st2 qlo qhi rlo rhi
          go_wp2
          go_loop [18, 16] (fun c d => ∃ q r : Int, KInv R Ll Yh Yl q r ∧ c = .int .u64 q ∧ d = .int .u64 r) (fun c _ => (intOf c).toNat)
          case atStart => exact ⟨_, _, K2.out, rfl, rfl⟩
          case round =>
            obtain ⟨q, r, k, rfl, rfl⟩ := hrel
            have qlo := k.lo
            rw [E2.out] at qlo
            have qhi := k.hi
            have rlo := k.r0
            have rhi := k.r1
            by_cases b1 : 4294967296 ≤ q
            · skip
              have st := KInv.big P2.out k b1
              have st2 := st
              rw [E2.out] at st2
              have a2 : IntKind.u64.wrap (r + Yh) = r + Yh := wrap_id (by have := P2.out.h0; omega) (by have := P2.out.h1; omega)
              have ST := Lib.hid st
              clear st
              by_cases b3 : 4294967296 ≤ r + Yh
              · have a1 : IntKind.u64.wrap (q - 1) = C := by
                  have := KInv.stop P2.out k ST.out b3
                  rw [E2.out] at this
                  rw [this]; exact wrap_id (by omega) (by omega)
                have KK := Lib.hid k
                clear k st2 qlo qhi rlo rhi
                go_wp2
                go_ret2
                exact ⟨rfl, rfl⟩
              · have a1 : IntKind.u64.wrap (q - 1) = q - 1 := wrap_id (by omega) (by omega)
                have kn := KInv.step k ST.out (by have := P2.out.h0; omega) (by omega)
                have KN := Lib.hid kn
                clear kn k qlo qhi rlo rhi
                go_wp2
                go_round
                case rel => exact ⟨_, _, KN.out, rfl, rfl⟩
                case measure => simp [intOf]; omega
            · have m1 := Int.mul_nonneg (show 0 ≤ q by omega) P2.out.l0
              have m2 := Int.mul_le_mul (show q ≤ 4294967295 by omega) (show Yl ≤ 4294967295 by have := P2.out.l1; omega) P2.out.l0 (by omega)
              have w1 : IntKind.u64.wrap (q * Yl) = q * Yl := wrap_id m1 (by omega)
              have w2 : IntKind.u64.wrap (4294967296 * r) = 4294967296 * r := wrap_id (by omega) (by omega)
              have w3 : IntKind.u64.wrap (4294967296 * r + Ll) = 4294967296 * r + Ll := wrap_id (by have := P2.out.b0; omega) (by have := P2.out.b1; omega)
              by_cases b2 : 4294967296 * r + Ll < q * Yl
              · clear m1 m2
                have st := KInv.much P2.out k b2
                have st2 := st
                rw [E2.out] at st2
                have a2 : IntKind.u64.wrap (r + Yh) = r + Yh := wrap_id (by have := P2.out.h0; omega) (by have := P2.out.h1; omega)
                have ST := Lib.hid st
                clear st
                by_cases b3 : 4294967296 ≤ r + Yh
                · have a1 : IntKind.u64.wrap (q - 1) = C := by
                    have := KInv.stop P2.out k ST.out b3
                    rw [E2.out] at this
                    rw [this]; exact wrap_id (by omega) (by omega)
                  have KK := Lib.hid k
                  clear k st2 qlo qhi rlo rhi
                  go_wp2
                  go_ret2
                  exact ⟨rfl, rfl⟩
                · have a1 : IntKind.u64.wrap (q - 1) = q - 1 := wrap_id (by omega) (by omega)
                  have kn := KInv.step k ST.out (by have := P2.out.h0; omega) (by omega)
                  have KN := Lib.hid kn
                  clear kn k qlo qhi rlo rhi
                  go_wp2
                  go_round
                  case rel => exact ⟨_, _, KN.out, rfl, rfl⟩
                  case measure => simp [intOf]; omega
              · have ex := KInv.exit P2.out k (by omega)
                rw [E2.out] at ex
                subst ex
                clear m1 m2 qlo qhi rlo rhi k
                go_wp2
                go_ret2
                exact ⟨rfl, rfl⟩
        · have a1 : IntKind.u64.wrap (q - 1) = q - 1 := wrap_id (by omega) (by omega)
          have kn := KInv.step k ST.out (by have := P1.out.h0; omega) (by omega)
          have KN := Lib.hid kn
          clear kn k qlo qhi rlo rhi
          go_wp2
          go_round
          case rel => exact ⟨_, _, KN.out, rfl, rfl⟩
          case measure => simp [intOf]; omega
      · have ex := KInv.exit P1.out k (by omega)
        rw [E1.out] at ex
        subst ex
        clear m1 m2 qlo qhi rlo rhi k
        go_wp2
        go_loop [18, 16] (fun c d => ∃ q r : Int, KInv R Ll Yh Yl q r ∧ c = .int .u64 q ∧ d = .int .u64 r) (fun c _ => (intOf c).toNat)
        case atStart => exact ⟨_, _, K2.out, rfl, rfl⟩
        case round =>
          obtain ⟨q, r, k, rfl, rfl⟩ := hrel
          have qlo := k.lo
          rw [E2.out] at qlo
          have qhi := k.hi
          have rlo := k.r0
          have rhi := k.r1
          by_cases b1 : 4294967296 ≤ q
          · skip
            have st := KInv.big P2.out k b1
            have st2 := st
            rw [E2.out] at st2
            have a2 : IntKind.u64.wrap (r + Yh) = r + Yh := wrap_id (by have := P2.out.h0; omega) (by have := P2.out.h1; omega)
            have ST := Lib.hid st
            clear st
            by_cases b3 : 4294967296 ≤ r + Yh
            · have a1 : IntKind.u64.wrap (q - 1) = C := by
                have := KInv.stop P2.out k ST.out b3
                rw [E2.out] at this
                rw [this]; exact wrap_id (by omega) (by omega)
              have KK := Lib.hid k
              clear k st2 qlo qhi rlo rhi
              go_wp2
              go_ret2
              exact ⟨rfl, rfl⟩
            · have a1 : IntKind.u64.wrap (q - 1) = q - 1 := wrap_id (by omega) (by omega)
              have kn := KInv.step k ST.out (by have := P2.out.h0; omega) (by omega)
              have KN := Lib.hid kn
              clear kn k qlo qhi rlo rhi
              go_wp2
              go_round
              case rel => exact ⟨_, _, KN.out, rfl, rfl⟩
              case measure => simp [intOf]; omega
          · have m1 := Int.mul_nonneg (show 0 ≤ q by omega) P2.out.l0
            have m2 := Int.mul_le_mul (show q ≤ 4294967295 by omega) (show Yl ≤ 4294967295 by have := P2.out.l1; omega) P2.out.l0 (by omega)
            have w1 : IntKind.u64.wrap (q * Yl) = q * Yl := wrap_id m1 (by omega)
            have w2 : IntKind.u64.wrap (4294967296 * r) = 4294967296 * r := wrap_id (by omega) (by omega)
            have w3 : IntKind.u64.wrap (4294967296 * r + Ll) = 4294967296 * r + Ll := wrap_id (by have := P2.out.b0; omega) (by have := P2.out.b1; omega)
            by_cases b2 : 4294967296 * r + Ll < q * Yl
            · clear m1 m2
              have st := KInv.much P2.out k b2
              have st2 := st
              rw [E2.out] at st2
              have a2 : IntKind.u64.wrap (r + Yh) = r + Yh := wrap_id (by have := P2.out.h0; omega) (by have := P2.out.h1; omega)
              have ST := Lib.hid st
              clear st
              by_cases b3 : 4294967296 ≤ r + Yh
              · have a1 : IntKind.u64.wrap (q - 1) = C := by
                  have := KInv.stop P2.out k ST.out b3
                  rw [E2.out] at this
                  rw [this]; exact wrap_id (by omega) (by omega)
                have KK := Lib.hid k
                clear k st2 qlo qhi rlo rhi
                go_wp2
                go_ret2
                exact ⟨rfl, rfl⟩
              · have a1 : IntKind.u64.wrap (q - 1) = q - 1 := wrap_id (by omega) (by omega)
                have kn := KInv.step k ST.out (by have := P2.out.h0; omega) (by omega)
                have KN := Lib.hid kn
                clear kn k qlo qhi rlo rhi
                go_wp2
                go_round
                case rel => exact ⟨_, _, KN.out, rfl, rfl⟩
                case measure => simp [intOf]; omega
            · have ex := KInv.exit P2.out k (by omega)
              rw [E2.out] at ex
              subst ex
              clear m1 m2 qlo qhi rlo rhi k
              go_wp2
              go_ret2
              exact ⟨rfl, rfl⟩
theorem Div64_half (x y : Int) (hx : U64 x) (hy : U64 y) (x0 : 9223372036854775808 ≤ x) (y0 : 9223372036854775808 ≤ y) (h : y ≤ x) (w : World) :
    Calls Try.prog 54 #[.int .u64 (x / 2), .int .u64 (IntKind.u64.wrap (x * 9223372036854775808)), .int .u64 y] w fun e w' => e = .returned (.tuple #[.int .u64 (x * 9223372036854775808 / y), .int .u64 (x * 9223372036854775808 % y)]) ∧ w' = w := by
  have h1 := hx.hi
  have h2 := hy.hi
  have := Div64_runs (x / 2) (IntKind.u64.wrap (x * 9223372036854775808)) y (wrap_u64 _) (by omega) (by omega) y0 h2 w
  rw [half_shift x0 h1] at this
  exact this
theorem Div64_full (x y : Int) (hx : U64 x) (hy : U64 y) (x0 : 9223372036854775808 ≤ x) (y0 : 9223372036854775808 ≤ y) (h : ¬ y ≤ x) (w : World) :
    Calls Try.prog 54 #[.int .u64 x, .int .u64 0, .int .u64 y] w fun e w' => e = .returned (.tuple #[.int .u64 (x * 18446744073709551616 / y), .int .u64 (x * 18446744073709551616 % y)]) ∧ w' = w := by
  have h2 := hy.hi
  have := Div64_runs x 0 y ⟨by decide, by decide⟩ (by omega) (by omega) y0 h2 w
  rw [Int.add_zero] at this
  exact this
set_option maxRecDepth 100000 in
theorem Div_some (a b : Int) (w : World) (ha : U64 a) (hb : U64 b) (c1 : isNaN a = false) (c2 : isNaN b = false) (c3 : isInf a = false) (c4 : isInf b = false) (c5 : isZ a = false) (c6 : isZ b = false) (x0 : 9223372036854775808 ≤ oman a) (y0 : 9223372036854775808 ≤ oman b) :
    Calls Try.prog 27 #[.int .u64 a, .int .u64 b] w fun e w' => e = .returned (.int .u64 (divF (ngX a b) (oman a) (oexp a) (oman b) (oexp b))) ∧ Below w.heap.size w w' := by
  obtain ⟨he0, he1⟩ := oexp_bd ha
  obtain ⟨hf0, hf1⟩ := oexp_bd hb
  have E0 : (Go.bits .and .u64 (Go.bits .xor .u64 a b) 9223372036854775808 != 0) = ngX a b := rfl
  have hu := oman_u64 a
  have hv := oman_u64 b
  by_cases hl : oman b ≤ oman a
  · have HD := Lib.hid fun w => Div64_half _ _ hu hv x0 y0 hl w
    have E : divF (ngX a b) (oman a) (oexp a) (oman b) (oexp b) = nearG (ngX a b) (oman a * 9223372036854775808 / oman b) (oexp a - oexp b - 64 + 1) (oman a * 9223372036854775808 % oman b != 0) := if_pos hl
    rw [E]; clear E x0 y0 hu hv
    go_enter Try.func27, Try.ntmps27
    go_wp2_with (first | (go_at_call 44; refine (isNaN_calls _ _).mono ?_; rintro e w' ⟨rfl, rfl⟩) | (go_at_call 45; refine (isInf_calls _ _).mono ?_; rintro e w' ⟨rfl, rfl⟩) | (go_at_call 46; refine (zero_calls _ _).mono ?_; rintro e w' ⟨rfl, rfl⟩) | (go_at_call 47; refine (open_calls _ _ (by assumption)).mono ?_; rintro e w' ⟨rfl, rfl⟩) | (go_at_call 54; refine (HD.out _).mono ?_; rintro e w' ⟨rfl, rfl⟩) | (go_at_call 53; refine (near_calls _ _ _ _ _ (by omega) (by omega)).mono ?_; rintro e w1 ⟨rfl, hb1⟩))
    go_quiet (fail)
    go_wp2_with (first | (go_at_call 54; refine (HD.out _).mono ?_; rintro e w' ⟨rfl, rfl⟩) | (go_at_call 53; refine (near_calls _ _ _ _ _ (by omega) (by omega)).mono ?_; rintro e w1 ⟨rfl, hb1⟩))
    go_ret
    exact ⟨rfl, below_via hb1 (by repeat (first | exact Below.refl _ _ | apply below_alloc | apply below_drewN | apply below_drew))⟩
  · have HD := Lib.hid fun w => Div64_full _ _ hu hv x0 y0 hl w
    have E : divF (ngX a b) (oman a) (oexp a) (oman b) (oexp b) = nearG (ngX a b) (oman a * 18446744073709551616 / oman b) (oexp a - oexp b - 64) (oman a * 18446744073709551616 % oman b != 0) := if_neg hl
    rw [E]; clear E x0 y0 hu hv
    go_enter Try.func27, Try.ntmps27
    go_wp2_with (first | (go_at_call 44; refine (isNaN_calls _ _).mono ?_; rintro e w' ⟨rfl, rfl⟩) | (go_at_call 45; refine (isInf_calls _ _).mono ?_; rintro e w' ⟨rfl, rfl⟩) | (go_at_call 46; refine (zero_calls _ _).mono ?_; rintro e w' ⟨rfl, rfl⟩) | (go_at_call 47; refine (open_calls _ _ (by assumption)).mono ?_; rintro e w' ⟨rfl, rfl⟩) | (go_at_call 54; refine (HD.out _).mono ?_; rintro e w' ⟨rfl, rfl⟩) | (go_at_call 53; refine (near_calls _ _ _ _ _ (by omega) (by omega)).mono ?_; rintro e w1 ⟨rfl, hb1⟩))
    go_quiet (fail)
    go_wp2_with (first | (go_at_call 54; refine (HD.out _).mono ?_; rintro e w' ⟨rfl, rfl⟩) | (go_at_call 53; refine (near_calls _ _ _ _ _ (by omega) (by omega)).mono ?_; rintro e w1 ⟨rfl, hb1⟩))
    go_ret
    exact ⟨rfl, below_via hb1 (by repeat (first | exact Below.refl _ _ | apply below_alloc | apply below_drewN | apply below_drew))⟩
set_option maxRecDepth 100000 in
theorem DivC (a b : Int) (ha : U64 a) (hb : U64 b) (w : World) :
    Calls Try.prog 27 #[.int .u64 a, .int .u64 b] w fun e w' => e = .returned (.int .u64 (DivG a b)) ∧ Below w.heap.size w w' := by
  by_cases hs : isNaN a = false ∧ isNaN b = false ∧ isInf a = false ∧ isInf b = false ∧ isZ a = false ∧ isZ b = false
  · obtain ⟨c1, c2, c3, c4, c5, c6⟩ := hs
    have E : DivG a b = divF (ngX a b) (oman a) (oexp a) (oman b) (oexp b) := by simp [DivG, *]
    rw [E]
    exact Div_some a b w ha hb c1 c2 c3 c4 c5 c6 (opened ha (fun h => by rw [isZ_iff.2 h] at c5; cases c5)).lo (opened hb (fun h => by rw [isZ_iff.2 h] at c6; cases c6)).lo
  · have E0 : (Go.bits .and .u64 (Go.bits .xor .u64 a b) 9223372036854775808 != 0) = ngX a b := rfl
    have HS := Lib.hid hs
    clear hs
    go_enter Try.func27, Try.ntmps27
    go_wp2_with (first | (go_at_call 44; refine (isNaN_calls _ _).mono ?_; rintro e w' ⟨rfl, rfl⟩) | (go_at_call 45; refine (isInf_calls _ _).mono ?_; rintro e w' ⟨rfl, rfl⟩) | (go_at_call 46; refine (zero_calls _ _).mono ?_; rintro e w' ⟨rfl, rfl⟩) | (go_at_call 51; refine (signed_calls _ _ _).mono ?_; rintro e w' ⟨rfl, rfl⟩) | (go_at_call 47; exfalso; have := HS.out; simp_all; done))
    all_goals go_ret
    all_goals refine ⟨ret_int ?_, Below.refl _ _⟩
    all_goals go_light
    all_goals clear E0
    all_goals simp [DivG, *]
end Go.Proofs.Ytkiakflmoplmeaa
