/- For every two uint64s the call of SmallOrder returns true, and its arguments read as before; no condition. -/
import Derived.Test.YtkiakflmoplmeaaRows
import Derived.WalkKit
import Derived.ProofKit
import Derived.OpenShut
import Derived.Test.YtkiakflmoplmeaaUc
import Derived.Test.YtkiakflmoplmeaaHc
import Derived.Test.YtkiakflmoplmeaaRb
import Derived.Test.YtkiakflmoplmeaaTa
namespace Go.Proofs.Ytkiakflmoplmeaa.smallOrder
open Go.ChangeShapes Go.WideShapes Go.ChangeAt Go.RowKit Fp
set_option linter.unusedSimpArgs false
set_option linter.unusedVariables false      -- a walk need not use every 'w<i>' (that an integer argument fits its kind)

theorem own : ownKnob Try.prog.godebug = none := by kernel_rfl

set_option maxRecDepth 100000 in
theorem walk (a0 : Int) (a1 : Int) (w0 : (Lit.int .u64 a0).wf = true) (w1 : (Lit.int .u64 a1).wf = true) (w : World) :
    Calls Try.prog 6 #[.int .u64 a0, .int .u64 a1] w fun e w' => e = .returned (.bool true) ∧ Below w.heap.size w w' := by
  have ha := wfU64 w0
  have hb := wfU64 w1
  clear w0 w1
  have NA := fun w => rNumber_calls a0 ha w
  have NB := fun w => rNumber_calls a1 hb w
  have ua := (num_facts ha).1
  have ub := (num_facts hb).1
  have S32 := fun w => Slow_calls 32 (NumberG a0) (NumberG a1) ua ub w
  have S33 := fun w => Slow_calls 33 (NumberG a0) (NumberG a1) ua ub w
  have S34 := fun w => Slow_calls 34 (NumberG a0) (NumberG a1) ua ub w
  have S35 := fun w => Slow_calls 35 (NumberG a0) (NumberG a1) ua ub w
  rw [slow_num ha hb (by decide) (by decide)] at S32 S33 S34 S35
  have e32 : slowI 32 (canon a0) (canon a1) = wB (LessG (canon a0) (canon a1)) := rfl
  have e34 : slowI 34 (canon a0) (canon a1) = wB (LessG (canon a1) (canon a0)) := rfl
  have e33 : slowI 33 (canon a0) (canon a1) = wB (EqualG (canon a0) (canon a1) || LessG (canon a0) (canon a1)) := by
    show (if EqualG (canon a0) (canon a1) = true then 18445336698825998339 else wB (LessG (canon a0) (canon a1))) = _
    cases EqualG (canon a0) (canon a1) <;> rfl
  have e35 : slowI 35 (canon a0) (canon a1) = wB (EqualG (canon a1) (canon a0) || LessG (canon a1) (canon a0)) := by
    show (if EqualG (canon a1) (canon a0) = true then 18445336698825998339 else wB (LessG (canon a1) (canon a0))) = _
    cases EqualG (canon a1) (canon a0) <;> rfl
  rw [e32] at S32
  rw [e33] at S33
  rw [e34] at S34
  rw [e35] at S35
  clear e32 e33 e34 e35
  by_cases h : isNaN a0 = true ∨ isNaN a1 = true
  · have k : isNaN (canon a0) = true ∨ isNaN (canon a1) = true := by
      rcases h with h | h
      · left; unfold canon; rw [if_pos h]; exact C_nan
      · right; unfold canon; rw [if_pos h]; exact C_nan
    obtain ⟨l1, q1⟩ := less_nan k
    obtain ⟨l2, q2⟩ := less_nan k.symm
    rw [l1] at S32
    rw [l1, q1] at S33
    rw [l2] at S34
    rw [l2, q2] at S35
    have hz : NumberG a0 = 9221120237041090560 ∨ NumberG a1 = 9221120237041090560 := h.imp (num_nan ha).2 (num_nan hb).2
    clear k l1 q1 l2 q2 h ha hb ua ub
    generalize NumberG a0 = x at *
    generalize NumberG a1 = y at *
    have w0 : wB false = 18445336698825998338 := rfl
    have w2 : wB (false || false) = 18445336698825998338 := rfl
    rw [w0] at S32 S34
    rw [w2] at S33 S35
    clear w0 w2
    replace NA := Lib.hid NA
    replace NB := Lib.hid NB
    replace S32 := Lib.hid S32
    replace S33 := Lib.hid S33
    replace S34 := Lib.hid S34
    replace S35 := Lib.hid S35
    by_cases z : x = 9221120237041090560
    · have z' : (x == 9221120237041090560) = true := beq_iff_eq.2 z
      clear hz z
      go_enter Try.func6, Try.ntmps6
      go_wp2_with (first | (go_at_call 10; refine (alive04 _).mono ?_; rintro e w1 ⟨rfl, hb1⟩) | (go_at_call 15; with_reducible first | (refine (NA.out _).mono ?_; rintro e w' ⟨rfl, rfl⟩) | (refine (NB.out _).mono ?_; rintro e w' ⟨rfl, rfl⟩)) | (go_at_call 12; with_reducible first | (refine (S32.out _).mono ?_; rintro e w1 ⟨rfl, hb1⟩) | (refine (S33.out _).mono ?_; rintro e w1 ⟨rfl, hb1⟩) | (refine (S34.out _).mono ?_; rintro e w1 ⟨rfl, hb1⟩) | (refine (S35.out _).mono ?_; rintro e w1 ⟨rfl, hb1⟩)))
      all_goals go_ret
      all_goals exact ⟨rfl, by repeat (first | exact Below.refl _ _ | apply below_alloc | apply below_drewN | apply below_drew | refine below_via (by assumption) ?_)⟩
    · have z' : (x == 9221120237041090560) = false := beq_eq_false_iff_ne.2 z
      have z2 : (y == 9221120237041090560) = true := beq_iff_eq.2 (hz.elim (fun k => absurd k z) id)
      clear hz z
      go_enter Try.func6, Try.ntmps6
      go_wp2_with (first | (go_at_call 10; refine (alive04 _).mono ?_; rintro e w1 ⟨rfl, hb1⟩) | (go_at_call 15; with_reducible first | (refine (NA.out _).mono ?_; rintro e w' ⟨rfl, rfl⟩) | (refine (NB.out _).mono ?_; rintro e w' ⟨rfl, rfl⟩)) | (go_at_call 12; with_reducible first | (refine (S32.out _).mono ?_; rintro e w1 ⟨rfl, hb1⟩) | (refine (S33.out _).mono ?_; rintro e w1 ⟨rfl, hb1⟩) | (refine (S34.out _).mono ?_; rintro e w1 ⟨rfl, hb1⟩) | (refine (S35.out _).mono ?_; rintro e w1 ⟨rfl, hb1⟩)))
      all_goals go_ret
      all_goals exact ⟨rfl, by repeat (first | exact Below.refl _ _ | apply below_alloc | apply below_drewN | apply below_drew | refine below_via (by assumption) ?_)⟩
  · have na : isNaN a0 = false := by rw [Bool.eq_false_iff]; exact fun k => h (.inl k)
    have nb : isNaN a1 = false := by rw [Bool.eq_false_iff]; exact fun k => h (.inr k)
    have ca : canon a0 = a0 := by unfold canon; rw [na, if_neg (by decide)]
    have cb : canon a1 = a1 := by unfold canon; rw [nb, if_neg (by decide)]
    rw [ca, cb] at S32 S33 S34 S35
    obtain ⟨o1, o2, o3⟩ := order_laws ha hb na nb
    rw [o2] at S33
    rw [o3] at S35
    have z1 : (NumberG a0 == 9221120237041090560) = false := beq_eq_false_iff_ne.2 (fun k => by rw [(num_nan ha).1 k] at na; cases na)
    have z2 : (NumberG a1 == 9221120237041090560) = false := beq_eq_false_iff_ne.2 (fun k => by rw [(num_nan hb).1 k] at nb; cases nb)
    clear o2 o3 ca cb na nb h ha hb ua ub
    generalize NumberG a0 = x at *
    generalize NumberG a1 = y at *
    generalize LessG a0 a1 = l at *
    generalize LessG a1 a0 = m at *
    have t1 : wB true = 18445336698825998339 := rfl
    have t2 : wB false = 18445336698825998338 := rfl
    cases l <;> cases m <;> simp only [Bool.not_true, Bool.not_false, t1, t2] at S32 S33 S34 S35
    case true.true => cases o1
    all_goals clear o1 t1 t2
    all_goals replace NA := Lib.hid NA
    all_goals replace NB := Lib.hid NB
    all_goals replace S32 := Lib.hid S32
    all_goals replace S33 := Lib.hid S33
    all_goals replace S34 := Lib.hid S34
    all_goals replace S35 := Lib.hid S35
    all_goals go_enter Try.func6, Try.ntmps6
    all_goals go_wp2_with (first | (go_at_call 10; refine (alive04 _).mono ?_; rintro e w1 ⟨rfl, hb1⟩) | (go_at_call 15; with_reducible first | (refine (NA.out _).mono ?_; rintro e w' ⟨rfl, rfl⟩) | (refine (NB.out _).mono ?_; rintro e w' ⟨rfl, rfl⟩)) | (go_at_call 12; with_reducible first | (refine (S32.out _).mono ?_; rintro e w1 ⟨rfl, hb1⟩) | (refine (S33.out _).mono ?_; rintro e w1 ⟨rfl, hb1⟩) | (refine (S34.out _).mono ?_; rintro e w1 ⟨rfl, hb1⟩) | (refine (S35.out _).mono ?_; rintro e w1 ⟨rfl, hb1⟩)))
    all_goals go_ret
    all_goals exact ⟨rfl, by repeat (first | exact Below.refl _ _ | apply below_alloc | apply below_drewN | apply below_drew | refine below_via (by assumption) ?_)⟩
set_option maxRecDepth 100000 in
theorem lifted (os : Os) (started : os.Started) (H : Type) (enc : TypeId × Value → H) :
    ReturnsInHanded {} Try.checked os 6 .any (Rows.smallOrderSpec.pre6 enc Try.prog Try.f6 Rows.smallOrderRow.domain false) (Rows.smallOrderSpec.post enc Try.prog Try.f6 false true false false) := by
  refine returnsInHanded_of_change (C := Try.checked) own started (by kernel_rfl) Try.func6
    (ChangeSpec.witness6 (enc := enc) (C := Try.checked) false ⟨#[], #[.int .u64 0, .int .u64 0], []⟩ 8 (by kernel_rfl) (by kernel_rfl) (by kernel_rfl) (by kernel_rfl)) ?_
  intro W base args ds gs before hval0 hW hcnd _
  have hval : ∀ (j : Nat) t v, Try.f6.params[j]? = some t → args[j]? = some v → Value.okWide Try.prog W .any base t v := hval0
  have hW' := hW
  obtain ⟨p, q, hA0, hV, rfl, hfz, hnd⟩ := hW
  have hA : DataW.TrodAll enc Try.prog W 0 (fun _ => true) true Try.f6.params.toList args.toList ds p := hA0
  rw [Try.params6] at hA hval
  obtain ⟨v0, vs0, d0, ds0, p0, q0, hargs, rfl, rfl, h0, r0⟩ := trodAll_cons hA
  obtain ⟨v1, vs1, d1, ds1, p1, q1, rfl, rfl, rfl, h1, r1⟩ := trodAll_cons r0
  obtain ⟨rfl, rfl, rfl⟩ := trodAll_nil r1
  obtain rfl : args = #[v0, v1] := by cases args; simp_all
  obtain ⟨rfl, rfl⟩ := trodVars_none hV
  obtain ⟨a0, rfl, rfl, rfl, w0⟩ := open_int Try.underlying22 (hval 0 22 v0 rfl rfl) h0
  obtain ⟨a1, rfl, rfl, rfl, w1⟩ := open_int Try.underlying22 (hval 1 22 v1 rfl rfl) h1
  clear hA0 hval0
  simp only [List.append_nil] at hW'
  refine (walk a0 a1 w0 w1 W).mono fun e W' ⟨he, bel⟩ => ?_
  subst he
  exact ⟨_, rfl, _, _, _, [], _, [], hW', (trodAll_cons_mk (shut_bool Try.underlying4 _) trodAll_mk0), (trodAll_cons_mk (shut_int Try.underlying22 w0) (trodAll_cons_mk (shut_int Try.underlying22 w1) trodAll_mk0)), rfl, bel.frame _, fun h => by cases h⟩

set_option maxHeartbeats 0 in
theorem over : Rows.smallOrderRow.holds Try.pinned (OpenSpec.ofChange Rows.smallOrderSpec) :=
  OpenClaim.holds_of_wide 6 Try.f6 rfl rfl rfl rfl rfl rfl rfl ⟨rfl, rfl, rfl, rfl, rfl⟩ rfl rfl rfl rfl rfl (by as_aux_lemma => kernel_rfl) Try.func6 (by as_aux_lemma => kernel_rfl)
    (of_decide_eq_true (by as_aux_lemma => kernel_rfl)) (by as_aux_lemma => unfold Func.isWrapper; first | (rw [if_pos (by decide +kernel)]; kernel_rfl) | (rw [if_neg (by decide +kernel)]; exact ⟨rfl, rfl⟩))
    (fun os started H enc _ => lifted os started H enc)

theorem proved : Rows.SmallOrderSaid :=
  over
#print axioms proved
end Go.Proofs.Ytkiakflmoplmeaa.smallOrder
namespace Go.Proofs.Ytkiakflmoplmeaa
theorem smallOrder_holds : Rows.SmallOrderSaid := smallOrder.proved
end Go.Proofs.Ytkiakflmoplmeaa
