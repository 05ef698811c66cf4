/- For every uint64 and every two int32s the call of SoftBack returns true, and its arguments read as before; no condition. -/
import Derived.Test.YtmemefjhefmfhaaRows
import Derived.WalkKit
import Derived.ProofKit
import Derived.OpenShut
import Derived.Test.YtmemefjhefmfhaaTj
import Derived.Test.YtmemefjhefmfhaaGn
import Derived.Test.YtmemefjhefmfhaaSc
import Derived.Test.YtmemefjhefmfhaaSi
import Derived.Test.YtmemefjhefmfhaaSb
namespace Go.Proofs.Ytmemefjhefmfhaa.softBack
open Go.ChangeShapes Go.WideShapes Go.ChangeAt Go.RowKit Fp
set_option linter.unusedSimpArgs false
set_option linter.unusedVariables false      -- a walk need not use every 'w<i>' (that an integer argument fits its kind)

theorem own : ownKnob Try.prog.godebug = none := by kernel_rfl

theorem u32_back {m : Int} (h0 : -2147483648 ≤ m) (h1 : m < 2147483648) : wrap32 (ToUint32G (FromIntG m)) = m := by
  have fu := FromInt_u64 (n := m) (by omega) (by omega)
  have ff := FromInt_fin (k := m) (by omega) (by omega)
  have w : WP (FromIntG m) = m.natAbs := by
    unfold WP
    rw [WP_FromInt (by omega) (by omega)]
    exact Nat.mul_div_cancel _ U_pos
  rw [u32_of fu ff, w, FromInt_ng (by omega) (by omega), Nat.mod_eq_of_lt (by omega)]
  unfold wrap32
  by_cases c : m < 0
  · rw [decide_eq_true c, decide_eq_true (show m.natAbs ≠ 0 by omega), if_pos (show (true && true) = true from rfl)]; omega
  · rw [decide_eq_false c, Bool.false_and, if_neg (by decide)]; omega
theorem product_facts {p n : Int} (h0 : -32768 ≤ p) (h1 : p ≤ 32767) (h2 : -2147483648 ≤ n) (h3 : n < 2147483648) :
    ((p = 0 ∧ n < 0) ∨ (n = 0 ∧ p < 0)) ∧ WholeG (MulG (FromIntG p) (FromIntG n)) = (0, false) ∨ WholeG (MulG (FromIntG p) (FromIntG n)) = (p * n, true) := by
  have hb : -140737488355328 ≤ p * n ∧ p * n ≤ 140737488355328 := by
    have a1 : (p * n).natAbs ≤ 32768 * 4294967296 := by
      rw [Int.natAbs_mul]; exact Nat.mul_le_mul (by omega) (by omega)
    omega
  rw [mul_whole (by omega) (by omega) (by omega) (by omega)]
  by_cases z : p * n = 0
  · rw [if_pos z]
    by_cases hx : (decide (p < 0) ^^ decide (n < 0)) = true
    · left
      rw [hx]
      refine ⟨?_, by decide +kernel⟩
      rcases Int.mul_eq_zero.1 z with g | g
      · left; refine ⟨g, ?_⟩
        rw [g] at hx
        rcases Int.lt_or_le n 0 with k | k
        · exact k
        · rw [decide_eq_false (show ¬ n < 0 by omega)] at hx; exact absurd hx (by decide)
      · right; refine ⟨g, ?_⟩
        rw [g] at hx
        rcases Int.lt_or_le p 0 with k | k
        · exact k
        · rw [decide_eq_false (show ¬ p < 0 by omega)] at hx; exact absurd hx (by decide)
    · right
      rw [Bool.not_eq_true] at hx
      rw [hx, z]; decide +kernel
  · rw [if_neg z]
    right
    exact Whole_FromInt _ (by omega) (by omega)
theorem wrap16_bd (n : Int) : -32768 ≤ IntKind.i16.wrap n ∧ IntKind.i16.wrap n ≤ 32767 := by
  have e : IntKind.i16.wrap n = if 32768 ≤ n % 65536 then n % 65536 - 65536 else n % 65536 := by
    unfold IntKind.wrap
    simp [IntKind.bits, IntKind.signed]
  rw [e]
  split <;> omega
set_option maxRecDepth 100000 in
set_option maxHeartbeats 4000000 in
theorem walk (a0 : Int) (a1 : Int) (a2 : Int) (w0 : (Lit.int .u64 a0).wf = true) (w1 : (Lit.int .i32 a1).wf = true) (w2 : (Lit.int .i32 a2).wf = true) (w : World) :
    Calls Try.prog 7 #[.int .u64 a0, .int .i32 a1, .int .i32 a2] w fun e w' => e = .returned (.bool true) ∧ Below w.heap.size w w' := by
  have ha := wfU64 w0
  obtain ⟨m0, m1⟩ := wfI32 w1
  obtain ⟨n0, n1⟩ := wfI32 w2
  clear w0 w1 w2
  obtain ⟨p, hp⟩ : ∃ p, IntKind.i16.wrap a1 = p := ⟨_, rfl⟩
  have hpb : -32768 ≤ p ∧ p ≤ 32767 := by rw [← hp]; exact wrap16_bd a1
  obtain ⟨p0, p1⟩ := hpb
  have ux := FromInt_u64 (n := a1) (by omega) (by omega)
  have uy := FromInt_u64 (n := a2) (by omega) (by omega)
  have us := FromInt_u64 (n := a1 + a2) (by omega) (by omega)
  have up := FromInt_u64 (n := p) (by omega) (by omega)
  have FX := fun w => FromInt_calls a1 w (by omega) (by omega)
  have FY := fun w => FromInt_calls a2 w (by omega) (by omega)
  have FP := fun w => FromInt_calls p w (by omega) (by omega)
  have A1 := fun w => AddC (FromIntG a1) (FromIntG a2) ux uy w
  have S1 := fun w => SubC (FromIntG (a1 + a2)) (FromIntG a2) us uy w
  have W1 := fun w => Whole_calls (FromIntG a1) w ux
  have T1 := fun w => ToInt32_calls (FromIntG a1) w ux
  have L1 := fun w => Less_calls (FromIntG a1) (FromIntG a2) w
  have M1 := fun w => Mul_calls (FromIntG p) (FromIntG a2) w up uy
  have W2 := fun w => Whole_calls (MulG (FromIntG p) (FromIntG a2)) w (mul_u64 up uy)
  rw [add_whole (by omega) (by omega) (by omega) (by omega)] at A1
  rw [sub_whole (by omega) (by omega) (by omega) (by omega), show a1 + a2 - a2 = a1 by omega] at S1
  rw [Whole_FromInt a1 (by omega) (by omega)] at W1
  rw [u32_back m0 m1] at T1
  rw [less_whole (by omega) (by omega) (by omega) (by omega)] at L1
  have HP := product_facts p0 p1 n0 n1
  clear ux uy us up
  generalize MulG (FromIntG p) (FromIntG a2) = P at *
  generalize FromIntG (a1 + a2) = s at *
  generalize FromIntG a1 = x at *
  generalize FromIntG a2 = y at *
  generalize FromIntG p = fp at *
  replace FX := Lib.hid FX
  replace FY := Lib.hid FY
  replace FP := Lib.hid FP
  replace A1 := Lib.hid A1
  replace S1 := Lib.hid S1
  replace W1 := Lib.hid W1
  replace T1 := Lib.hid T1
  replace L1 := Lib.hid L1
  replace M1 := Lib.hid M1
  rcases HP with ⟨hz, hw⟩ | hw
  · rw [hw] at W2
    replace W2 := Lib.hid W2
    clear hw ha
    rcases hz with ⟨hz, hn⟩ | ⟨hz, hn⟩
    · subst hz
      go_enter Try.func7, Try.ntmps7
      go_wp2_with (first | (go_at_call 11; refine (alive01 _).mono ?_; rintro e w1 ⟨rfl, hb1⟩) | (go_at_call 26; with_reducible first | (refine (FX.out _).mono ?_; rintro e w1 ⟨rfl, hb1⟩) | (refine (FY.out _).mono ?_; rintro e w1 ⟨rfl, hb1⟩) | (refine (FP.out _).mono ?_; rintro e w1 ⟨rfl, hb1⟩)) | (go_at_call 19; refine (A1.out _).mono ?_; rintro e w1 ⟨rfl, hb1⟩) | (go_at_call 20; refine (S1.out _).mono ?_; rintro e w1 ⟨rfl, hb1⟩) | (go_at_call 27; with_reducible first | (refine (W1.out _).mono ?_; rintro e w1 ⟨rfl, hb1⟩) | (refine (W2.out _).mono ?_; rintro e w1 ⟨rfl, hb1⟩)) | (go_at_call 28; refine (T1.out _).mono ?_; rintro e w1 ⟨rfl, hb1⟩) | (go_at_call 12; refine (L1.out _).mono ?_; rintro e w' ⟨rfl, rfl⟩) | (go_at_call 21; refine (M1.out _).mono ?_; rintro e w1 ⟨rfl, hb1⟩))
      all_goals go_ret
      all_goals exact ⟨rfl, by repeat (first | exact Below.refl _ _ | apply below_alloc | apply below_drewN | apply below_drew | refine below_via (by assumption) ?_)⟩
    · subst hz
      go_enter Try.func7, Try.ntmps7
      go_wp2_with (first | (go_at_call 11; refine (alive01 _).mono ?_; rintro e w1 ⟨rfl, hb1⟩) | (go_at_call 26; with_reducible first | (refine (FX.out _).mono ?_; rintro e w1 ⟨rfl, hb1⟩) | (refine (FY.out _).mono ?_; rintro e w1 ⟨rfl, hb1⟩) | (refine (FP.out _).mono ?_; rintro e w1 ⟨rfl, hb1⟩)) | (go_at_call 19; refine (A1.out _).mono ?_; rintro e w1 ⟨rfl, hb1⟩) | (go_at_call 20; refine (S1.out _).mono ?_; rintro e w1 ⟨rfl, hb1⟩) | (go_at_call 27; with_reducible first | (refine (W1.out _).mono ?_; rintro e w1 ⟨rfl, hb1⟩) | (refine (W2.out _).mono ?_; rintro e w1 ⟨rfl, hb1⟩)) | (go_at_call 28; refine (T1.out _).mono ?_; rintro e w1 ⟨rfl, hb1⟩) | (go_at_call 12; refine (L1.out _).mono ?_; rintro e w' ⟨rfl, rfl⟩) | (go_at_call 21; refine (M1.out _).mono ?_; rintro e w1 ⟨rfl, hb1⟩))
      all_goals go_ret
      all_goals exact ⟨rfl, by repeat (first | exact Below.refl _ _ | apply below_alloc | apply below_drewN | apply below_drew | refine below_via (by assumption) ?_)⟩
  · rw [hw] at W2
    obtain ⟨k, hk⟩ : ∃ k, p * a2 = k := ⟨_, rfl⟩
    have hk0 : -140737488355328 ≤ p * a2 ∧ p * a2 ≤ 140737488355328 := by
      have a1' : (p * a2).natAbs ≤ 32768 * 4294967296 := by
        rw [Int.natAbs_mul]; exact Nat.mul_le_mul (by omega) (by omega)
      omega
    rw [hk] at W2 hk0
    have hk2 : wrap64 k = k := by unfold wrap64; omega
    clear hw hk0
    replace W2 := Lib.hid W2
    have N1 := fun w => isNaN_calls a0 w
    have I1 := fun w => isInf_calls a0 w
    have TA := fun w => Trunc_calls a0 w ha
    have FA := fun w => FloorC a0 ha w
    have S2 := fun w => SubC a0 (TruncG a0) ha (trunc_u64 ha) w
    have R1 := fun w => RemC a0 4607182418800017408 ha one_pos.u w
    have A2 := fun (h : U64 (SubG a0 (TruncG a0))) w => AddC (TruncG a0) (SubG a0 (TruncG a0)) (trunc_u64 ha) h w
    have E1 := fun w => Equal_calls (AddG (TruncG a0) (SubG a0 (TruncG a0))) a0 w
    have E2 := fun w => Equal_calls (SubG a0 (TruncG a0)) (RemG a0 4607182418800017408) w
    have L2 := fun w => Less_calls a0 (FloorG a0) w
    have K := fun (h1 : isNaN a0 = false) (h2 : isInf a0 = false) => And.intro (left_of ha (fin_of h1 h2)).1 (And.intro (whole_and_left ha (fin_of h1 h2)) (And.intro (rem_one ha (fin_of h1 h2)) (not_below_floor ha (fin_of h1 h2))))
    clear ha
    generalize isNaN a0 = b1 at *
    generalize isInf a0 = b2 at *
    cases b1
    case true =>
      clear K TA FA S2 R1 A2 E1 E2 L2
      replace N1 := Lib.hid N1
      replace I1 := Lib.hid I1
      go_enter Try.func7, Try.ntmps7
      go_wp2_with (first | (go_at_call 11; refine (alive01 _).mono ?_; rintro e w1 ⟨rfl, hb1⟩) | (go_at_call 26; with_reducible first | (refine (FX.out _).mono ?_; rintro e w1 ⟨rfl, hb1⟩) | (refine (FY.out _).mono ?_; rintro e w1 ⟨rfl, hb1⟩) | (refine (FP.out _).mono ?_; rintro e w1 ⟨rfl, hb1⟩)) | (go_at_call 19; refine (A1.out _).mono ?_; rintro e w1 ⟨rfl, hb1⟩) | (go_at_call 20; refine (S1.out _).mono ?_; rintro e w1 ⟨rfl, hb1⟩) | (go_at_call 27; with_reducible first | (refine (W1.out _).mono ?_; rintro e w1 ⟨rfl, hb1⟩) | (refine (W2.out _).mono ?_; rintro e w1 ⟨rfl, hb1⟩)) | (go_at_call 28; refine (T1.out _).mono ?_; rintro e w1 ⟨rfl, hb1⟩) | (go_at_call 12; refine (L1.out _).mono ?_; rintro e w' ⟨rfl, rfl⟩) | (go_at_call 21; refine (M1.out _).mono ?_; rintro e w1 ⟨rfl, hb1⟩) | (go_at_call 16; refine (N1.out _).mono ?_; rintro e w' ⟨rfl, rfl⟩) | (go_at_call 17; refine (I1.out _).mono ?_; rintro e w' ⟨rfl, rfl⟩))
      all_goals go_ret
      all_goals exact ⟨rfl, by repeat (first | exact Below.refl _ _ | apply below_alloc | apply below_drewN | apply below_drew | refine below_via (by assumption) ?_)⟩
    cases b2
    case true =>
      clear K TA FA S2 R1 A2 E1 E2 L2
      replace N1 := Lib.hid N1
      replace I1 := Lib.hid I1
      go_enter Try.func7, Try.ntmps7
      go_wp2_with (first | (go_at_call 11; refine (alive01 _).mono ?_; rintro e w1 ⟨rfl, hb1⟩) | (go_at_call 26; with_reducible first | (refine (FX.out _).mono ?_; rintro e w1 ⟨rfl, hb1⟩) | (refine (FY.out _).mono ?_; rintro e w1 ⟨rfl, hb1⟩) | (refine (FP.out _).mono ?_; rintro e w1 ⟨rfl, hb1⟩)) | (go_at_call 19; refine (A1.out _).mono ?_; rintro e w1 ⟨rfl, hb1⟩) | (go_at_call 20; refine (S1.out _).mono ?_; rintro e w1 ⟨rfl, hb1⟩) | (go_at_call 27; with_reducible first | (refine (W1.out _).mono ?_; rintro e w1 ⟨rfl, hb1⟩) | (refine (W2.out _).mono ?_; rintro e w1 ⟨rfl, hb1⟩)) | (go_at_call 28; refine (T1.out _).mono ?_; rintro e w1 ⟨rfl, hb1⟩) | (go_at_call 12; refine (L1.out _).mono ?_; rintro e w' ⟨rfl, rfl⟩) | (go_at_call 21; refine (M1.out _).mono ?_; rintro e w1 ⟨rfl, hb1⟩) | (go_at_call 16; refine (N1.out _).mono ?_; rintro e w' ⟨rfl, rfl⟩) | (go_at_call 17; refine (I1.out _).mono ?_; rintro e w' ⟨rfl, rfl⟩))
      all_goals go_ret
      all_goals exact ⟨rfl, by repeat (first | exact Below.refl _ _ | apply below_alloc | apply below_drewN | apply below_drew | refine below_via (by assumption) ?_)⟩
    · obtain ⟨k1, k2, k3, k4⟩ := K rfl rfl
      replace A2 := A2 k1
      rw [k2] at E1
      rw [k3] at E2
      rw [k4] at L2
      clear K k1 k2 k3 k4
      generalize AddG (TruncG a0) (SubG a0 (TruncG a0)) = ad at *
      generalize SubG a0 (TruncG a0) = d at *
      generalize TruncG a0 = t at *
      generalize RemG a0 4607182418800017408 = r at *
      generalize FloorG a0 = fl at *
      replace N1 := Lib.hid N1
      replace I1 := Lib.hid I1
      replace TA := Lib.hid TA
      replace FA := Lib.hid FA
      replace S2 := Lib.hid S2
      replace R1 := Lib.hid R1
      replace A2 := Lib.hid A2
      replace E1 := Lib.hid E1
      replace E2 := Lib.hid E2
      replace L2 := Lib.hid L2
      go_enter Try.func7, Try.ntmps7
      go_wp2_with (first | (go_at_call 11; refine (alive01 _).mono ?_; rintro e w1 ⟨rfl, hb1⟩) | (go_at_call 26; with_reducible first | (refine (FX.out _).mono ?_; rintro e w1 ⟨rfl, hb1⟩) | (refine (FY.out _).mono ?_; rintro e w1 ⟨rfl, hb1⟩) | (refine (FP.out _).mono ?_; rintro e w1 ⟨rfl, hb1⟩)) | (go_at_call 19; with_reducible first | (refine (A1.out _).mono ?_; rintro e w1 ⟨rfl, hb1⟩) | (refine (A2.out _).mono ?_; rintro e w1 ⟨rfl, hb1⟩)) | (go_at_call 20; with_reducible first | (refine (S1.out _).mono ?_; rintro e w1 ⟨rfl, hb1⟩) | (refine (S2.out _).mono ?_; rintro e w1 ⟨rfl, hb1⟩)) | (go_at_call 27; with_reducible first | (refine (W1.out _).mono ?_; rintro e w1 ⟨rfl, hb1⟩) | (refine (W2.out _).mono ?_; rintro e w1 ⟨rfl, hb1⟩)) | (go_at_call 28; refine (T1.out _).mono ?_; rintro e w1 ⟨rfl, hb1⟩) | (go_at_call 12; with_reducible first | (refine (L1.out _).mono ?_; rintro e w' ⟨rfl, rfl⟩) | (refine (L2.out _).mono ?_; rintro e w' ⟨rfl, rfl⟩)) | (go_at_call 21; refine (M1.out _).mono ?_; rintro e w1 ⟨rfl, hb1⟩) | (go_at_call 16; refine (N1.out _).mono ?_; rintro e w' ⟨rfl, rfl⟩) | (go_at_call 17; refine (I1.out _).mono ?_; rintro e w' ⟨rfl, rfl⟩) | (go_at_call 29; refine (TA.out _).mono ?_; rintro e w1 ⟨rfl, hb1⟩) | (go_at_call 23; refine (R1.out _).mono ?_; rintro e w1 ⟨rfl, hb1⟩) | (go_at_call 13; with_reducible first | (refine (E1.out _).mono ?_; rintro e w' ⟨rfl, rfl⟩) | (refine (E2.out _).mono ?_; rintro e w' ⟨rfl, rfl⟩)) | (go_at_call 30; refine (FA.out _).mono ?_; rintro e w1 ⟨rfl, hb1⟩))
      all_goals go_ret
      all_goals exact ⟨rfl, by repeat (first | exact Below.refl _ _ | apply below_alloc | apply below_drewN | apply below_drew | refine below_via (by assumption) ?_)⟩
set_option maxRecDepth 100000 in
theorem lifted (os : Os) (started : os.Started) (H : Type) (enc : TypeId × Value → H) :
    ReturnsInHanded {} Try.checked os 7 .any (Rows.softBackSpec.pre6 enc Try.prog Try.f7 Rows.softBackRow.domain false) (Rows.softBackSpec.post enc Try.prog Try.f7 false true false false) := by
  refine returnsInHanded_of_change (C := Try.checked) own started (by kernel_rfl) Try.func7
    (ChangeSpec.witness6 (enc := enc) (C := Try.checked) false ⟨#[], #[.int .u64 0, .int .i32 0, .int .i32 0], []⟩ 8 (by kernel_rfl) (by kernel_rfl) (by kernel_rfl) (by kernel_rfl)) ?_
  intro W base args ds gs before hval0 hW hcnd _
  have hval : ∀ (j : Nat) t v, Try.f7.params[j]? = some t → args[j]? = some v → Value.okWide Try.prog W .any base t v := hval0
  have hW' := hW
  obtain ⟨p, q, hA0, hV, rfl, hfz, hnd⟩ := hW
  have hA : DataW.TrodAll enc Try.prog W 0 (fun _ => true) true Try.f7.params.toList args.toList ds p := hA0
  rw [Try.params7] at hA hval
  obtain ⟨v0, vs0, d0, ds0, p0, q0, hargs, rfl, rfl, h0, r0⟩ := trodAll_cons hA
  obtain ⟨v1, vs1, d1, ds1, p1, q1, rfl, rfl, rfl, h1, r1⟩ := trodAll_cons r0
  obtain ⟨v2, vs2, d2, ds2, p2, q2, rfl, rfl, rfl, h2, r2⟩ := trodAll_cons r1
  obtain ⟨rfl, rfl, rfl⟩ := trodAll_nil r2
  obtain rfl : args = #[v0, v1, v2] := by cases args; simp_all
  obtain ⟨rfl, rfl⟩ := trodVars_none hV
  obtain ⟨a0, rfl, rfl, rfl, w0⟩ := open_int Try.underlying22 (hval 0 22 v0 rfl rfl) h0
  obtain ⟨a1, rfl, rfl, rfl, w1⟩ := open_int Try.underlying21 (hval 1 21 v1 rfl rfl) h1
  obtain ⟨a2, rfl, rfl, rfl, w2⟩ := open_int Try.underlying21 (hval 2 21 v2 rfl rfl) h2
  clear hA0 hval0
  simp only [List.append_nil] at hW'
  refine (walk a0 a1 a2 w0 w1 w2 W).mono fun e W' ⟨he, bel⟩ => ?_
  subst he
  exact ⟨_, rfl, _, _, _, [], _, [], hW', (trodAll_cons_mk (shut_bool Try.underlying4 _) trodAll_mk0), (trodAll_cons_mk (shut_int Try.underlying22 w0) (trodAll_cons_mk (shut_int Try.underlying21 w1) (trodAll_cons_mk (shut_int Try.underlying21 w2) trodAll_mk0))), rfl, bel.frame _, fun h => by cases h⟩

set_option maxHeartbeats 0 in
theorem over : Rows.softBackRow.holds Try.pinned (OpenSpec.ofChange Rows.softBackSpec) :=
  OpenClaim.holds_of_wide 7 Try.f7 rfl rfl rfl rfl rfl rfl rfl ⟨rfl, rfl, rfl, rfl, rfl⟩ rfl rfl rfl rfl rfl (by as_aux_lemma => kernel_rfl) Try.func7 (by as_aux_lemma => kernel_rfl)
    (of_decide_eq_true (by as_aux_lemma => kernel_rfl)) (by as_aux_lemma => unfold Func.isWrapper; first | (rw [if_pos (by decide +kernel)]; kernel_rfl) | (rw [if_neg (by decide +kernel)]; exact ⟨rfl, rfl⟩))
    (fun os started H enc _ => lifted os started H enc)

theorem proved : Rows.SoftBackSaid :=
  over
#print axioms proved
end Go.Proofs.Ytmemefjhefmfhaa.softBack
namespace Go.Proofs.Ytmemefjhefmfhaa
theorem softBack_holds : Rows.SoftBackSaid := softBack.proved
end Go.Proofs.Ytmemefjhefmfhaa
