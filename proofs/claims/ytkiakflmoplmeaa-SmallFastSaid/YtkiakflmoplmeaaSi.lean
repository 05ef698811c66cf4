/- The walks through package soft: rests. -/
import Derived.Test.YtkiakflmoplmeaaSg
import Derived.Test.YtkiakflmoplmeaaFv
namespace Go.Proofs.Ytkiakflmoplmeaa
open Go.RowKit Fp
set_option linter.unusedVariables false
set_option linter.unusedSimpArgs false
theorem wrap_id' {y : Int} (h0 : 0 ≤ y) (h1 : y < 18446744073709551616) : IntKind.u64.wrap y = y := by rw [u64_wrap]; omega
set_option maxRecDepth 100000 in
theorem Rem_some (a b : Int) (w : World) (ha : U64 a) (hb : U64 b) (c1 : isNaN a = false) (c2 : isNaN b = false) (c3 : isInf a = false) (c4 : isZ b = false) (hs : decide (sz a < sz b) = false) (hle : oexp b ≤ oexp a)
    (x0 : 9223372036854775808 ≤ oman a) (y0 : 9223372036854775808 ≤ oman b) :
    Calls Try.prog 28 #[.int .u64 a, .int .u64 b] w fun e w' => e = .returned (.int .u64 (sgnG (ngb a) (NearG (oman a / 2048 * 2 ^ (oexp a - oexp b).toNat % (oman b / 2048)) (oexp b + 11) false))) ∧ Below w.heap.size w w' := by
  obtain ⟨he0, he1⟩ := oexp_bd ha
  obtain ⟨hf0, hf1⟩ := oexp_bd hb
  have hu := oman_u64 a
  have hv := oman_u64 b
  have hu1 := hu.hi
  have hv1 := hv.hi
  obtain ⟨Y, hY⟩ : ∃ y, oman b / 2048 = y := ⟨_, rfl⟩
  obtain ⟨X, hX⟩ : ∃ x, oman a / 2048 = x := ⟨_, rfl⟩
  have bX : 4503599627370496 ≤ X ∧ X < 9007199254740992 := by omega
  have bY : 4503599627370496 ≤ Y ∧ Y < 9007199254740992 := by omega
  obtain ⟨f, hf⟩ : ∃ f : Nat, oexp a - oexp b = f := ⟨(oexp a - oexp b).toNat, by omega⟩
  have cY : (Y == 0) = false := by rw [beq_eq_false_iff_ne]; omega
  have HG : ∃ R, X * 2 ^ f % Y = R ∧ ∀ r : Int, ∀ n : Nat, n = 0 → r < Y → 0 ≤ r → r * 2 ^ n % Y = R → r = R := ⟨_, rfl, fun r n h1 h2 h3 h4 => by subst h1; rw [Int.pow_zero, Int.mul_one, Int.emod_eq_of_lt h3 h2] at h4; exact h4⟩
  rw [hX, hY, hf, Int.toNat_natCast]
  obtain ⟨R, hR, hlast⟩ := HG
  rw [hR]
  have R0 : 0 ≤ R := by rw [← hR]; exact Int.emod_nonneg _ (by omega)
  have R1 : R < Y := by rw [← hR]; exact Int.emod_lt_of_pos _ (by omega)
  have HL := Lib.hid hlast
  have HR := Lib.hid hR
  clear hlast hR x0 y0
  by_cases hc : Y ≤ X
  · have wX : IntKind.u64.wrap (X - Y) = X - Y := by rw [u64_wrap]; omega
    have KR : Hid (RInv X Y R f (X - Y) f) := Lib.hid (RInv.start1 HR.out hc (by omega) (by omega) (by omega))
    go_enter Try.func28, Try.ntmps28
    go_wp2_with (first | (go_at_call 44; refine (isNaN_calls _ _).mono ?_; rintro e w' ⟨rfl, rfl⟩) | (go_at_call 45; refine (isInf_calls _ _).mono ?_; rintro e w' ⟨rfl, rfl⟩) | (go_at_call 46; refine (zero_calls _ _).mono ?_; rintro e w' ⟨rfl, rfl⟩) | (go_at_call 48; refine (sized_calls _ _).mono ?_; rintro e w' ⟨rfl, rfl⟩) | (go_at_call 47; refine (open_calls _ _ (by assumption)).mono ?_; rintro e w' ⟨rfl, rfl⟩))
    go_quiet (fail)
    go_wp2
    go_loop [7, 9] (fun c d => ∃ (r : Int) (n : Nat), RInv X Y R f r n ∧ c = .int .u64 r ∧ d = .int .i64 n) (fun _ d => (intOf d).toNat)
    case atStart => exact ⟨_, _, KR.out, rfl, rfl⟩
    case round =>
      obtain ⟨r, n, k, rfl, rfl⟩ := hrel
      by_cases hn : n = 0
      · subst hn
        have er := HL.out r 0 rfl k.lt k.nn k.eq
        subst er
        have hru : U64 r := ⟨k.nn, by have := k.lt; omega⟩
        have m5 : IntKind.i64.wrap (oexp b + 11) = oexp b + 11 := by rw [IntKind.wrap_i64]; omega
        clear k
        go_wp2
        go_region_held3 (fun W' => W'.cell? ⟨w'.heap.size + 1 + 1, 0, none⟩ = some (.bool (ngb a)) ∧ W'.cell? ⟨w'.heap.size + 1 + 1 + 1, 2, none⟩ = some (.int .i64 (oexp b)) ∧ Below w'.heap.size w' W') (first | assumption | exact ⟨by assumption, by assumption, by assumption⟩ | exact keepS hb1 ‹_› | exact ⟨by go_simp, by go_simp, by repeat (first | exact Below.refl _ _ | apply below_alloc | apply below_drewN | apply below_drew)⟩)
          (first | (go_at_call 55; refine (Near_calls _ _ _ _ (by assumption)).mono ?_; rintro e w1 ⟨rfl, hb1⟩) | (go_at_call 51; refine (signed_calls _ _ _).mono ?_; rintro e w1 ⟨rfl, rfl⟩))
        go_wp2
        go_ret
        exact ⟨rfl, by first | assumption | exact below_via hb1 (by first | assumption | repeat (first | exact Below.refl _ _ | apply below_alloc | apply below_drewN | apply below_drew))⟩
      · obtain ⟨s, hs2⟩ : ∃ s : Nat, min n 10 = s := ⟨_, rfl⟩
        have m1 : min (n : Int) 10 = (s : Int) := by omega
        have s1 : s ≤ n := by omega
        have s2 : s ≤ 10 := by omega
        have s3 : 0 < s := by omega
        have bd := RInv.small k s2
        have m2 : IntKind.u64.wrap (r * 2 ^ s) = r * 2 ^ s := wrap_id' (Int.mul_nonneg k.nn (Int.le_of_lt (Int.pow_pos (by decide)))) bd
        have m3 : IntKind.i64.wrap ((n : Int) - s) = ((n - s : Nat) : Int) := by rw [IntKind.wrap_i64]; have := k.fb; omega
        have hpos : (0 : Int) < n := by omega
        have kn := RInv.step k s1
        have KN := Lib.hid kn
        have m4 : (r * 2 ^ s).tmod Y = r * 2 ^ s % Y := Int.tmod_eq_emod_of_nonneg (Int.mul_nonneg k.nn (Int.le_of_lt (Int.pow_pos (by decide))))
        have m6 : IntKind.u64.wrap (r * 2 ^ s % Y) = r * 2 ^ s % Y := wrap_id' (Int.emod_nonneg _ (by omega)) (by have := Int.emod_lt_of_pos (r * 2 ^ s) (show 0 < Y by omega); omega)
        clear kn k bd hs2
        go_wp2
        go_round
        case rel => exact ⟨_, _, KN.out, rfl, rfl⟩
        case measure => simp [intOf]; omega
  · skip
    have KR : Hid (RInv X Y R f X f) := Lib.hid (RInv.start2 HR.out hc (by omega) (by omega) (by omega))
    go_enter Try.func28, Try.ntmps28
    go_wp2_with (first | (go_at_call 44; refine (isNaN_calls _ _).mono ?_; rintro e w' ⟨rfl, rfl⟩) | (go_at_call 45; refine (isInf_calls _ _).mono ?_; rintro e w' ⟨rfl, rfl⟩) | (go_at_call 46; refine (zero_calls _ _).mono ?_; rintro e w' ⟨rfl, rfl⟩) | (go_at_call 48; refine (sized_calls _ _).mono ?_; rintro e w' ⟨rfl, rfl⟩) | (go_at_call 47; refine (open_calls _ _ (by assumption)).mono ?_; rintro e w' ⟨rfl, rfl⟩))
    go_quiet (fail)
    go_wp2
    go_loop [7, 9] (fun c d => ∃ (r : Int) (n : Nat), RInv X Y R f r n ∧ c = .int .u64 r ∧ d = .int .i64 n) (fun _ d => (intOf d).toNat)
    case atStart => exact ⟨_, _, KR.out, rfl, rfl⟩
    case round =>
      obtain ⟨r, n, k, rfl, rfl⟩ := hrel
      by_cases hn : n = 0
      · subst hn
        have er := HL.out r 0 rfl k.lt k.nn k.eq
        subst er
        have hru : U64 r := ⟨k.nn, by have := k.lt; omega⟩
        have m5 : IntKind.i64.wrap (oexp b + 11) = oexp b + 11 := by rw [IntKind.wrap_i64]; omega
        clear k
        go_wp2
        go_region_held3 (fun W' => W'.cell? ⟨w'.heap.size + 1 + 1, 0, none⟩ = some (.bool (ngb a)) ∧ W'.cell? ⟨w'.heap.size + 1 + 1 + 1, 2, none⟩ = some (.int .i64 (oexp b)) ∧ Below w'.heap.size w' W') (first | assumption | exact ⟨by assumption, by assumption, by assumption⟩ | exact keepS hb1 ‹_› | exact ⟨by go_simp, by go_simp, by repeat (first | exact Below.refl _ _ | apply below_alloc | apply below_drewN | apply below_drew)⟩)
          (first | (go_at_call 55; refine (Near_calls _ _ _ _ (by assumption)).mono ?_; rintro e w1 ⟨rfl, hb1⟩) | (go_at_call 51; refine (signed_calls _ _ _).mono ?_; rintro e w1 ⟨rfl, rfl⟩))
        go_wp2
        go_ret
        exact ⟨rfl, by first | assumption | exact below_via hb1 (by first | assumption | repeat (first | exact Below.refl _ _ | apply below_alloc | apply below_drewN | apply below_drew))⟩
      · obtain ⟨s, hs2⟩ : ∃ s : Nat, min n 10 = s := ⟨_, rfl⟩
        have m1 : min (n : Int) 10 = (s : Int) := by omega
        have s1 : s ≤ n := by omega
        have s2 : s ≤ 10 := by omega
        have s3 : 0 < s := by omega
        have bd := RInv.small k s2
        have m2 : IntKind.u64.wrap (r * 2 ^ s) = r * 2 ^ s := wrap_id' (Int.mul_nonneg k.nn (Int.le_of_lt (Int.pow_pos (by decide)))) bd
        have m3 : IntKind.i64.wrap ((n : Int) - s) = ((n - s : Nat) : Int) := by rw [IntKind.wrap_i64]; have := k.fb; omega
        have hpos : (0 : Int) < n := by omega
        have kn := RInv.step k s1
        have KN := Lib.hid kn
        have m4 : (r * 2 ^ s).tmod Y = r * 2 ^ s % Y := Int.tmod_eq_emod_of_nonneg (Int.mul_nonneg k.nn (Int.le_of_lt (Int.pow_pos (by decide))))
        have m6 : IntKind.u64.wrap (r * 2 ^ s % Y) = r * 2 ^ s % Y := wrap_id' (Int.emod_nonneg _ (by omega)) (by have := Int.emod_lt_of_pos (r * 2 ^ s) (show 0 < Y by omega); omega)
        clear kn k bd hs2
        go_wp2
        go_round
        case rel => exact ⟨_, _, KN.out, rfl, rfl⟩
        case measure => simp [intOf]; omega
set_option maxRecDepth 100000 in
theorem RemC (a b : Int) (ha : U64 a) (hb : U64 b) (w : World) :
    Calls Try.prog 28 #[.int .u64 a, .int .u64 b] w fun e w' => e = .returned (.int .u64 (RemG a b)) ∧ Below w.heap.size w w' := by
  by_cases hs : (isNaN a || (isNaN b || (isInf a || isZ b))) = true
  · have E : RemG a b = 9221120237041090560 := if_pos hs
    rw [E]; clear E
    have HS := Lib.hid hs
    clear hs
    go_enter Try.func28, Try.ntmps28
    go_wp2_with (first | (go_at_call 44; refine (isNaN_calls _ _).mono ?_; rintro e w' ⟨rfl, rfl⟩) | (go_at_call 45; refine (isInf_calls _ _).mono ?_; rintro e w' ⟨rfl, rfl⟩) | (go_at_call 46; refine (zero_calls _ _).mono ?_; rintro e w' ⟨rfl, rfl⟩) | (go_at_call 48; exfalso; have := HS.out; simp_all; done))
    all_goals go_ret
    all_goals exact ⟨rfl, Below.refl _ _⟩
  · have E : RemG a b = if sz a < sz b then a else sgnG (ngb a) (NearG (oman a / 2048 * 2 ^ (oexp a - oexp b).toNat % (oman b / 2048)) (oexp b + 11) false) := if_neg hs
    rw [E]; clear E
    simp only [Bool.or_eq_true, not_or, Bool.not_eq_true] at hs
    obtain ⟨c1, c2, c3, c4⟩ := hs
    have zb : ¬ sz b = 0 := fun h => by rw [isZ_iff.2 h] at c4; cases c4
    by_cases hl : sz a < sz b
    · rw [if_pos hl]
      have hs : decide (sz a < sz b) = true := decide_eq_true hl
      clear hl zb
      go_enter Try.func28, Try.ntmps28
      go_wp2_with (first | (go_at_call 44; refine (isNaN_calls _ _).mono ?_; rintro e w' ⟨rfl, rfl⟩) | (go_at_call 45; refine (isInf_calls _ _).mono ?_; rintro e w' ⟨rfl, rfl⟩) | (go_at_call 46; refine (zero_calls _ _).mono ?_; rintro e w' ⟨rfl, rfl⟩) | (go_at_call 48; refine (sized_calls _ _).mono ?_; rintro e w' ⟨rfl, rfl⟩))
      go_ret
      exact ⟨rfl, Below.refl _ _⟩
    · rw [if_neg hl]
      have b0 := sz_nonneg hb
      have za : ¬ sz a = 0 := by omega
      exact Rem_some a b w ha hb c1 c2 c3 c4 (decide_eq_false hl) (oexp_mono hb ha zb (by omega)) (opened ha za).lo (opened hb zb).lo
end Go.Proofs.Ytkiakflmoplmeaa
