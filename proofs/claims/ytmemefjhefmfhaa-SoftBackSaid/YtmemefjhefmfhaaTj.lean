/- The walks through the document's Whole and ToUint32. -/
import Derived.Test.YtmemefjhefmfhaaTi
import Derived.Test.YtmemefjhefmfhaaTf
import Derived.Test.YtmemefjhefmfhaaGi
namespace Go.Proofs.Ytmemefjhefmfhaa
open Go.RowKit Fp
set_option linter.unusedVariables false
set_option linter.unusedSimpArgs false
theorem OfG_nan {x : Nat} (h : OfG x = 9221120237041090560) : isNaN (x : Int) = true := by
  cases hn : isNaN (x : Int)
  · rw [OfG_num hn] at h
    rw [h] at hn
    exact absurd hn (by decide +kernel)
  · rfl
theorem OfG_back {x : Nat} {v : Int} (h : OfG x = v) (hv : isNaN v = false) : x = v.toNat := by
  cases hn : isNaN (x : Int)
  · rw [OfG_num hn] at h; omega
  · unfold OfG at h
    rw [if_pos hn] at h
    rw [← h] at hv
    exact absurd hv (by decide +kernel)
/-- the test f != Trunc(f). -/
theorem notW_ok {a : Int} (ha : U64 a) {x : Nat} (hx : OfG x = TruncG a) (hl : x < 18446744073709551616) : (FloatKind.f64.format.order a.toNat x != some .eq) = notW a := by
  cases hn : isNaN a
  · have ht : isNaN (TruncG a) = false := by
      rcases Int.lt_or_le (sz a) 9218868437227405312 with c | c
      · exact (num_of_fin (trunc_of ha c).fin).1
      · have : ¬ 9218868437227405312 < sz a := by rw [← nan_iff', hn]; decide
        rw [trunc_inf (by omega)]; exact hn
    have e := OfG_back hx ht
    have h := order_SR ha (trunc_u64 ha) hn ht
    rw [← e] at h
    rw [show FloatKind.f64.format.order a.toNat x = _ from h]
    unfold notW
    rw [hn, Bool.false_or]
    rcases cmp_cases (SR a) (SR (TruncG a)) with ⟨g, k⟩ | ⟨g, k⟩ | ⟨g, k⟩
    · rw [k, decide_eq_true (by omega)]; decide
    · rw [k, decide_eq_false (by omega)]; decide
    · rw [k, decide_eq_true (by omega)]; decide
  · have h := order_nan (a := a) (b := (x : Int)) ha ⟨by omega, by omega⟩ (.inl hn)
    rw [Int.toNat_natCast] at h
    rw [show FloatKind.f64.format.order a.toNat x = _ from h]
    unfold notW
    rw [hn]; rfl
set_option maxRecDepth 100000 in
theorem RWhole_calls (a : Int) (ha : U64 a) (w : World) : Calls Try.prog 32 #[.int .u64 a] w fun e w' => e = .returned (.tuple #[.int .i64 (WholeG a).1, .bool (WholeG a).2]) ∧ Below w.heap.size w w' := by
  obtain ⟨g, k, h⟩ := mTrunc_calls a ha
  have VA := fun w => Val_calls a w
  have HT := fun w => (h w).1
  have HN := fun v => notW_ok ha (h v).2.1 (h v).2.2
  clear h
  have F1 : notW a = true → WholeG a = (0, false) := fun c => (whole_or a).elim id (fun d => by rw [(whole_yes ha d).1] at c; cases c)
  have F2 : ¬ SR 14069245235905429504 < SR a → WholeG a = (0, false) := fun c => (whole_or a).elim id (fun d => absurd (whole_yes ha d).2.1 c)
  have F3 : ¬ SR a < SR 4845873199050653696 → WholeG a = (0, false) := fun c => (whole_or a).elim id (fun d => absurd (whole_yes ha d).2.2.1 c)
  have F4 : a = 9223372036854775808 → WholeG a = (0, false) := fun c => (whole_or a).elim id (fun d => absurd c (whole_yes ha d).2.2.2.1)
  have F5 : notW a = false → SR 14069245235905429504 < SR a → SR a < SR 4845873199050653696 → a ≠ 9223372036854775808 → (WholeG a).2 = true ∧ floatToIntVal .f64 a.toNat .i64 = some (WholeG a).1 := fun c1 c2 c3 c4 => by
    have d := whole_no ha c1 c2 c3 c4
    exact ⟨d, (whole_yes ha d).2.2.2.2⟩
  have OL : notW a = false → FloatKind.f64.format.order a.toNat 14069245235905429504 = some (compare (SR a) (SR 14069245235905429504)) := fun c => by
    have hn : isNaN a = false := by unfold notW at c; rw [Bool.or_eq_false_iff] at c; exact c.1
    exact order_SR ha lo_facts.1 hn (by decide +kernel)
  have OH : notW a = false → FloatKind.f64.format.order a.toNat 4845873199050653696 = some (compare (SR a) (SR 4845873199050653696)) := fun c => by
    have hn : isNaN a = false := by unfold notW at c; rw [Bool.or_eq_false_iff] at c; exact c.1
    exact order_SR ha hi_pos.u hn (by decide +kernel)
  clear ha
  generalize a.toNat = x at *
  obtain ⟨b, hb⟩ : ∃ b, notW a = b := ⟨_, rfl⟩
  rw [hb] at F1 F5 OL OH
  simp only [hb] at HN
  clear hb
  obtain ⟨r, hr⟩ : ∃ b, WholeG a = b := ⟨_, rfl⟩
  rw [hr] at F1 F2 F3 F4 F5 ⊢
  clear hr
  generalize SR 14069245235905429504 = sl at *
  generalize SR 4845873199050653696 = sh at *
  generalize SR a = s at *
  replace VA := Lib.hid VA
  replace HT := Lib.hid HT
  cases b
  case true =>
    obtain rfl := F1 rfl
    clear F1 F2 F3 F4 F5 OL OH
    go_enter Try.func32, Try.ntmps32
    go_wp2_with (first | (go_at_call 10; refine (VA.out _).mono ?_; rintro e w' ⟨rfl, rfl⟩) | (go_at_call 56; refine (HT.out _).mono ?_; rintro e w' ⟨rfl, rfl⟩))
    all_goals go_ret2
    all_goals exact ⟨rfl, by repeat (first | exact Below.refl _ _ | apply below_alloc | apply below_drewN | apply below_drew | refine below_via (by assumption) ?_)⟩
  replace OL := OL rfl
  replace OH := OH rfl
  replace F5 := F5 rfl
  rcases cmp_cases s sl with ⟨c, d⟩ | ⟨c, d⟩ | ⟨c, d⟩
  · rw [d] at OL
    obtain rfl := F2 (by omega)
    clear F1 F2 F3 F4 F5 OH c d
    go_enter Try.func32, Try.ntmps32
    go_wp2_with (first | (go_at_call 10; refine (VA.out _).mono ?_; rintro e w' ⟨rfl, rfl⟩) | (go_at_call 56; refine (HT.out _).mono ?_; rintro e w' ⟨rfl, rfl⟩))
    all_goals go_ret2
    all_goals exact ⟨rfl, by repeat (first | exact Below.refl _ _ | apply below_alloc | apply below_drewN | apply below_drew | refine below_via (by assumption) ?_)⟩
  · rw [d] at OL
    obtain rfl := F2 (by omega)
    clear F1 F2 F3 F4 F5 OH c d
    go_enter Try.func32, Try.ntmps32
    go_wp2_with (first | (go_at_call 10; refine (VA.out _).mono ?_; rintro e w' ⟨rfl, rfl⟩) | (go_at_call 56; refine (HT.out _).mono ?_; rintro e w' ⟨rfl, rfl⟩))
    all_goals go_ret2
    all_goals exact ⟨rfl, by repeat (first | exact Below.refl _ _ | apply below_alloc | apply below_drewN | apply below_drew | refine below_via (by assumption) ?_)⟩
  rw [d] at OL
  clear d
  rcases cmp_cases s sh with ⟨c', d⟩ | ⟨c', d⟩ | ⟨c', d⟩
  · rw [d] at OH
    clear d
    by_cases z : a = 9223372036854775808
    · obtain rfl := F4 z
      have z' : (a == 9223372036854775808) = true := beq_iff_eq.2 z
      clear F1 F2 F3 F4 F5 c c' z
      go_enter Try.func32, Try.ntmps32
      go_wp2_with (first | (go_at_call 10; refine (VA.out _).mono ?_; rintro e w' ⟨rfl, rfl⟩) | (go_at_call 56; refine (HT.out _).mono ?_; rintro e w' ⟨rfl, rfl⟩))
      all_goals go_ret2
      all_goals exact ⟨rfl, by repeat (first | exact Below.refl _ _ | apply below_alloc | apply below_drewN | apply below_drew | refine below_via (by assumption) ?_)⟩
    · obtain ⟨q1, q2⟩ := F5 c c' z
      have z' : (a == 9223372036854775808) = false := beq_eq_false_iff_ne.2 z
      obtain ⟨n, t⟩ := r
      obtain rfl : t = true := q1
      have hcv := fun w => run_convert_float_int (P := Try.prog) (w := w) 23 2 .f64 .i64 x n (by kernel_rfl) (by kernel_rfl) q2
      clear F1 F2 F3 F4 F5 c c' z q2
      go_enter Try.func32, Try.ntmps32
      go_wp2_with (first | (go_at_call 10; refine (VA.out _).mono ?_; rintro e w' ⟨rfl, rfl⟩) | (go_at_call 56; refine (HT.out _).mono ?_; rintro e w' ⟨rfl, rfl⟩))
      all_goals go_ret2
      all_goals exact ⟨rfl, by repeat (first | exact Below.refl _ _ | apply below_alloc | apply below_drewN | apply below_drew | refine below_via (by assumption) ?_)⟩
  · rw [d] at OH
    obtain rfl := F3 (by omega)
    clear F1 F2 F3 F4 F5 c c' d
    go_enter Try.func32, Try.ntmps32
    go_wp2_with (first | (go_at_call 10; refine (VA.out _).mono ?_; rintro e w' ⟨rfl, rfl⟩) | (go_at_call 56; refine (HT.out _).mono ?_; rintro e w' ⟨rfl, rfl⟩))
    all_goals go_ret2
    all_goals exact ⟨rfl, by repeat (first | exact Below.refl _ _ | apply below_alloc | apply below_drewN | apply below_drew | refine below_via (by assumption) ?_)⟩
  · rw [d] at OH
    obtain rfl := F3 (by omega)
    clear F1 F2 F3 F4 F5 c c' d
    go_enter Try.func32, Try.ntmps32
    go_wp2_with (first | (go_at_call 10; refine (VA.out _).mono ?_; rintro e w' ⟨rfl, rfl⟩) | (go_at_call 56; refine (HT.out _).mono ?_; rintro e w' ⟨rfl, rfl⟩))
    all_goals go_ret2
    all_goals exact ⟨rfl, by repeat (first | exact Below.refl _ _ | apply below_alloc | apply below_drewN | apply below_drew | refine below_via (by assumption) ?_)⟩
end Go.Proofs.Ytmemefjhefmfhaa
namespace Go.Proofs.Ytmemefjhefmfhaa
open Go.RowKit Fp
set_option linter.unusedVariables false
set_option linter.unusedSimpArgs false
theorem sgn_pos {u : Int} (h : Pos u) (s : Bool) : U64 (sgnG s u) ∧ ngb (sgnG s u) = s ∧ sz (sgnG s u) = u := by
  have l0 := h.lo
  have l1 := h.hi
  rw [sgn_eq l0 (by omega)]
  cases s
  · rw [if_neg (by decide)]; exact ⟨h.u, h.ng, h.sz⟩
  · rw [if_pos rfl]
    have hu : U64 (u + 9223372036854775808) := ⟨by omega, by omega⟩
    exact ⟨hu, decide_eq_true (by omega), by rw [sz_eq hu]; omega⟩
theorem mod32 {a : Int} (ha : U64 a) (hf : sz a < 9218868437227405312) : Mod32 a (modR (TruncG a) 4751297606875873280) := by
  have T := trunc_of ha hf
  have pt := sz_pos T.u T.fin
  have vt : V (sz (TruncG a)) = V (TruncG a) := V_sz pt.u T.u pt.sz
  unfold modR
  rw [c32_pos.sz]
  have hlt := pt.lt c32_pos
  rw [vt, V_c32, T.val] at hlt
  by_cases c : sz (TruncG a) < 4751297606875873280
  · rw [if_pos c]
    have h := hlt.2 c
    have h2 : WP a < 4294967296 := Nat.lt_of_mul_lt_mul_right h
    exact ⟨T.u, T.ng, T.fin, by rw [T.val, Nat.mod_eq_of_lt h2]⟩
  · rw [if_neg c]
    unfold modW
    rw [V_c32, T.val, Nat.mul_mod_mul_right]
    have hb : WP a % 4294967296 < 9007199254740992 := Nat.lt_trans (Nat.mod_lt _ (by decide)) (by decide)
    have hb2 : WP a % 4294967296 * U < vr 9218868437227405312 := by
      refine Nat.lt_of_le_of_lt (Nat.mul_le_mul_right U (Nat.mod_le (WP a) 4294967296)) ?_
      rw [← T.val, ← vt]; exact pt.below
    obtain ⟨u, u1, u2, u3⟩ := rep (WP a % 4294967296 * U) (WP a % 4294967296) P1074 rfl hb hb2
    obtain ⟨p1, p2⟩ := Pos.of u2 u3
    rw [u1, T.ng]
    obtain ⟨s1, s2, s3⟩ := sgn_pos p1 (ngb a)
    exact ⟨s1, s2, by rw [s3]; exact p1.hi, by rw [V_sz s1 p1.u (by rw [s3, p1.sz]), p2]⟩
theorem u32_of {a : Int} (ha : U64 a) (hf : sz a < 9218868437227405312) : ToUint32G a = if (ngb a && decide (WP a % 4294967296 ≠ 0)) = true then 4294967296 - ((WP a % 4294967296 : Nat) : Int) else ((WP a % 4294967296 : Nat) : Int) := by
  unfold ToUint32G
  by_cases z : sz a = 0
  · have k : (kindS a != 1) = true := by unfold kindS; rw [if_pos z]; decide
    have w : WP a = 0 := by unfold WP; rw [(V_zero_iff ha).2 z, Nat.zero_div]
    rw [if_pos k, w]
    simp
  · have k : (kindS a != 1) = false := by rw [kind_some z hf]; decide
    rw [if_neg (by rw [k]; decide), toU_WP ha z]
    have hr : WP a % 4294967296 < 4294967296 := Nat.mod_lt _ (by decide)
    generalize WP a % 4294967296 = r at *
    cases ngb a
    · simp
    · by_cases c : r = 0
      · subst c; simp
      · rw [if_pos rfl, decide_eq_true c, if_pos (show (true && true) = true from rfl)]; omega
/-- a word that is not negative and whole. -/
theorem whole_word {m : Int} (hu : U64 m) (hg : ngb m = false) (hf : sz m < 9218868437227405312) (r : Nat) (h : V m = r * U) (hr : r < 4294967296) : m = FromIntG r := by
  have f0 : -9007199254740992 < (r : Int) := by omega
  have f1 : (r : Int) < 9007199254740992 := by omega
  have fu := FromInt_u64 f0 f1
  have ff := FromInt_fin f0 f1
  have fv := WP_FromInt f0 f1
  have fg : ngb (FromIntG r) = false := by
    by_cases z : (r : Int) = 0
    · rw [z, FromInt_zero]; decide +kernel
    · rw [FromInt_ngb f0 f1 z]; exact decide_eq_false (by omega)
  have h1 := nearest_self hu hf
  have h2 := nearest_self fu ff
  rw [hg, h] at h1
  rw [fg, fv, Int.natAbs_natCast] at h2
  rw [← h1, h2]
theorem add32 {m : Int} (hu : U64 m) (hg : ngb m = true) (hf : sz m < 9218868437227405312) (r : Nat) (h : V m = r * U) (h0 : r ≠ 0) (hr : r < 4294967296) : AddG m 4751297606875873280 = FromIntG (4294967296 - r) := by
  have sv : SV m = -((r * U : Nat) : Int) := by unfold SV; rw [hg, if_pos rfl, h]
  rw [add_total hu c32_pos.u hf c32_pos.fin, hg, c32_pos.ng, c32_pos.SV, V_c32, sv]
  have e : -((r * U : Nat) : Int) + ((4294967296 * U : Nat) : Int) = (((4294967296 - r) * U : Nat) : Int) := by
    rw [Nat.sub_mul]
    have : r * U ≤ 4294967296 * U := Nat.mul_le_mul_right _ (by omega)
    generalize r * U = x at *
    generalize 4294967296 * U = y at *
    omega
  rw [e]
  have hp : 0 < (4294967296 - r) * U := Nat.mul_pos (by omega) U_pos
  have e2 : Ieee.double.nearest false ((4294967296 - r) * U) (-1074) = Ieee.double.nearest false (4294967296 - r) 0 := (nearest_U false _).symm
  unfold NT
  rw [Int.natAbs_natCast]
  have e3 : (if (((4294967296 - r) * U : Nat) : Int) = 0 then (true && false) else decide ((((4294967296 - r) * U : Nat) : Int) < 0)) = false := by
    generalize (4294967296 - r) * U = x at *
    rw [if_neg (by omega)]; exact decide_eq_false (by omega)
  rw [e3, e2]
  have h2 := nearest_FromInt (k := 4294967296 - (r : Int)) (by omega) (by omega) (by omega)
  rw [decide_eq_false (by omega), show (4294967296 - (r : Int)).natAbs = 4294967296 - r by omega] at h2
  rw [h2]
  have := (FromInt_u64 (n := 4294967296 - (r : Int)) (by omega) (by omega)).lo
  omega
theorem add_some' {a b : Int} (ha : U64 a) (hb : U64 b) (h : isNaN (AddG a b) = false) : floatBits .add .f64 a.toNat b.toNat = some (AddG a b).toNat := by
  show Ieee.double.add a.toNat b.toNat = _
  have e := add_ok ha hb
  cases hm : Ieee.double.add a.toNat b.toNat with
  | none => rw [hm] at e; rw [e] at h; exact absurd C_isNaN (by rw [show (9221120237041090560 : Int) = ofO none from rfl, h]; decide)
  | some r => rw [hm] at e; rw [e]; show some r = some ((r : Int).toNat); rw [Int.toNat_natCast]
theorem u32_zero {a : Int} (h : ¬ sz a < 9218868437227405312) : ToUint32G a = 0 := by
  have k : (kindS a != 1) = true := by unfold kindS; rw [if_neg (by omega), if_neg h]; split <;> decide
  unfold ToUint32G
  rw [if_pos k]
theorem RToUint32_calls (a : Int) (ha : U64 a) (w : World) : Calls Try.prog 33 #[.int .u64 a] w fun e w' => e = .returned (.int .u32 (ToUint32G a)) ∧ Below w.heap.size w w' := by
  obtain ⟨g, k, h⟩ := mTrunc_calls a ha
  have VA := fun w => Val_calls a w
  have HT := fun w => (h w).1
  have HO := fun w => (h w).2
  clear h
  cases hn : isNaN a
  case true =>
    have t := trunc_nan hn
    rw [u32_zero (by have := nan_iff'.1 hn; omega)]
    have HS : ∀ v, (FloatKind.f64.format.order (g v) (g v) != some .eq) = true := fun v => by
      rw [fself (HO v).2]; exact OfG_nan (by rw [(HO v).1, t])
    clear HO t hn ha
    generalize a.toNat = x at *
    replace VA := Lib.hid VA
    replace HT := Lib.hid HT
    go_enter Try.func33, Try.ntmps33
    go_wp2_with (first | (go_at_call 10; refine (VA.out _).mono ?_; rintro e w' ⟨rfl, rfl⟩) | (go_at_call 56; refine (HT.out _).mono ?_; rintro e w' ⟨rfl, rfl⟩))
    all_goals go_ret
    all_goals exact ⟨rfl, by repeat (first | exact Below.refl _ _ | apply below_alloc | apply below_drewN | apply below_drew | refine below_via (by assumption) ?_)⟩
  by_cases hf : sz a < 9218868437227405312
  case neg =>
    have : ¬ 9218868437227405312 < sz a := by rw [← nan_iff', hn]; decide
    have hi : sz a = 9218868437227405312 := by omega
    have t := trunc_inf hi
    rw [u32_zero hf]
    have e : ∀ v, g v = a.toNat := fun v => by
      have := OfG_back (HO v).1 (by rw [t]; exact hn)
      rw [this, t]
    simp only [e] at HT
    have HS : (FloatKind.f64.format.order a.toNat a.toNat != some .eq) = false := by rw [← hn]; exact self_ok ha
    have HI := fun w => IsInf0_calls a ha w
    rw [inf_iff.2 hi] at HI
    clear HO t hn ha hf this hi e
    generalize a.toNat = x at *
    replace VA := Lib.hid VA
    replace HT := Lib.hid HT
    replace HI := Lib.hid HI
    go_enter Try.func33, Try.ntmps33
    go_wp2_with (first | (go_at_call 10; refine (VA.out _).mono ?_; rintro e w' ⟨rfl, rfl⟩) | (go_at_call 56; refine (HT.out _).mono ?_; rintro e w' ⟨rfl, rfl⟩) | (go_at_call 18; refine (HI.out _).mono ?_; rintro e w' ⟨rfl, rfl⟩))
    all_goals go_ret
    all_goals exact ⟨rfl, by repeat (first | exact Below.refl _ _ | apply below_alloc | apply below_drewN | apply below_drew | refine below_via (by assumption) ?_)⟩
  have T := trunc_of ha hf
  obtain ⟨nt, it⟩ := num_of_fin T.fin
  have M := mod32 ha hf
  have HS : (FloatKind.f64.format.order (TruncG a).toNat (TruncG a).toNat != some .eq) = false := by rw [← nt]; exact self_ok T.u
  have HI := fun w => IsInf0_calls (TruncG a) T.u w
  rw [it] at HI
  have HM := fun w => Mod_calls (TruncG a) 4751297606875873280 T.u c32_pos.u T.fin c32_pos.fin (by rw [c32_pos.sz]; decide) w
  rw [show (4751297606875873280 : Int).toNat = 4751297606875873280 by omega] at HM
  have e : ∀ v, g v = (TruncG a).toNat := fun v => OfG_back (HO v).1 nt
  simp only [e] at HT
  have HL := less0 M.u M.fin
  rw [u32_of ha hf]
  have hr : WP a % 4294967296 < 4294967296 := Nat.mod_lt _ (by decide)
  have hz : decide (sz (modR (TruncG a) 4751297606875873280) ≠ 0) = decide (WP a % 4294967296 ≠ 0) := by
    have h1 := V_zero_iff M.u
    rw [M.val, Nat.mul_eq_zero] at h1
    have h2 : ¬ U = 0 := Nat.ne_of_gt U_pos
    refine decide_eq_decide.2 ⟨fun h c => h (h1.1 (.inl c)), fun h c => ?_⟩
    rcases h1.2 c with d | d
    · exact h d
    · exact h2 d
  rw [M.ng, hz] at HL
  have mu := M.u
  have mg := M.ng
  have mf := M.fin
  have mv := M.val
  clear hz M T it e HO hn nt
  generalize modR (TruncG a) 4751297606875873280 = m at *
  generalize WP a % 4294967296 = r at *
  cases hg : (ngb a && decide (r ≠ 0))
  · rw [hg] at HL
    rw [if_neg (by decide)]
    have hc : floatToIntVal .f64 m.toNat .u32 = some (r : Int) := by
      cases ga : ngb a
      · rw [ga] at mg
        rw [whole_word mu mg mf r mv hr]
        exact toU32_FromInt (by omega) (by omega)
      · rw [ga, Bool.true_and] at hg
        have r0 : r = 0 := Decidable.not_not.mp (of_decide_eq_false hg)
        rw [r0, Nat.zero_mul] at mv
        have z := (V_zero_iff mu).1 mv
        rw [ga] at mg
        have h9 := of_decide_eq_true mg
        have := sz_eq mu
        have := mu.hi
        rw [r0, show m = 9223372036854775808 by omega]
        exact toU32_zero
    have hcv := fun w => run_convert_float_int (P := Try.prog) (w := w) 23 41 .f64 .u32 m.toNat r (by kernel_rfl) (by kernel_rfl) hc
    clear hc mv mf mg mu hg hr ha hf
    generalize m.toNat = mm at *
    generalize (TruncG a).toNat = t at *
    generalize a.toNat = x at *
    replace VA := Lib.hid VA
    replace HT := Lib.hid HT
    replace HI := Lib.hid HI
    replace HM := Lib.hid HM
    go_enter Try.func33, Try.ntmps33
    go_wp2_with (first | (go_at_call 10; refine (VA.out _).mono ?_; rintro e w' ⟨rfl, rfl⟩) | (go_at_call 56; refine (HT.out _).mono ?_; rintro e w' ⟨rfl, rfl⟩) | (go_at_call 18; refine (HI.out _).mono ?_; rintro e w' ⟨rfl, rfl⟩) | (go_at_call 55; refine (HM.out _).mono ?_; rintro e w' ⟨rfl, rfl⟩))
    all_goals go_ret
    all_goals exact ⟨rfl, by repeat (first | exact Below.refl _ _ | apply below_alloc | apply below_drewN | apply below_drew | refine below_via (by assumption) ?_)⟩
  · rw [hg] at HL
    rw [if_pos rfl]
    rw [Bool.and_eq_true] at hg
    obtain ⟨ga, r0⟩ := hg
    have r0 := of_decide_eq_true r0
    rw [ga] at mg
    have ea := add32 mu mg mf r mv r0 hr
    have fu := FromInt_u64 (n := 4294967296 - (r : Int)) (by omega) (by omega)
    have ff := FromInt_fin (k := 4294967296 - (r : Int)) (by omega) (by omega)
    have hadd := add_some' mu c32_pos.u (by rw [ea]; exact (num_of_fin ff).1)
    rw [ea, show (4751297606875873280 : Int).toNat = 4751297606875873280 by omega] at hadd
    have HA := fun t w => run_float_arith (P := Try.prog) w .add t .f64 _ _ _ hadd
    have hc := toU32_FromInt (k := 4294967296 - (r : Int)) (by omega) (by omega)
    have hcv := fun w => run_convert_float_int (P := Try.prog) (w := w) 23 41 .f64 .u32 _ _ (by kernel_rfl) (by kernel_rfl) hc
    clear hc mv mf mg mu hr ha hf hadd ea fu ff
    generalize (FromIntG (4294967296 - (r : Int))).toNat = f at *
    generalize 4294967296 - (r : Int) = res at *
    generalize m.toNat = mm at *
    generalize (TruncG a).toNat = t at *
    generalize a.toNat = x at *
    replace VA := Lib.hid VA
    replace HT := Lib.hid HT
    replace HI := Lib.hid HI
    replace HM := Lib.hid HM
    go_enter Try.func33, Try.ntmps33
    go_wp2_with (first | (go_at_call 10; refine (VA.out _).mono ?_; rintro e w' ⟨rfl, rfl⟩) | (go_at_call 56; refine (HT.out _).mono ?_; rintro e w' ⟨rfl, rfl⟩) | (go_at_call 18; refine (HI.out _).mono ?_; rintro e w' ⟨rfl, rfl⟩) | (go_at_call 55; refine (HM.out _).mono ?_; rintro e w' ⟨rfl, rfl⟩))
    all_goals go_ret
    all_goals exact ⟨rfl, by repeat (first | exact Below.refl _ _ | apply below_alloc | apply below_drewN | apply below_drew | refine below_via (by assumption) ?_)⟩
end Go.Proofs.Ytmemefjhefmfhaa
