/- For every int and every two int32s the call of SmallSame returns true, and its arguments read as before; no condition. -/
import Derived.Test.YtkiakflmoplmeaaRows
import Derived.WalkKit
import Derived.ProofKit
import Derived.OpenShut
import Derived.Test.YtkiakflmoplmeaaUf
import Derived.Test.YtkiakflmoplmeaaTa
namespace Go.Proofs.Ytkiakflmoplmeaa.smallSame
open Go.ChangeShapes Go.WideShapes Go.ChangeAt Go.RowKit Fp
set_option linter.unusedSimpArgs false
set_option linter.unusedVariables false      -- a walk need not use every 'w<i>' (that an integer argument fits its kind)

theorem own : ownKnob Try.prog.godebug = none := by kernel_rfl

theorem same_quick (op n m : Int) (n0 : -2147483648 ≤ n) (n1 : n < 2147483648) (m0 : -2147483648 ≤ m) (m1 : m < 2147483648) : FastG op (wI n) (wI m) = quick (SlowG op (wI n) (wI m)) := by
  have h : (tg (wI n) 65529 && tg (wI m) 65529) = true := by rw [wI_tg, wI_tg]; rfl
  by_cases c : 21 ≤ op ∧ op ≤ 35
  · exact FastG_eq (wI_u64 n) (wI_u64 m) h c.1 c.2
  · rw [fast_out _ _ (by omega), slow_out _ _ (by omega)]; decide +kernel
set_option maxRecDepth 100000 in
theorem walk (a0 : Int) (a1 : Int) (a2 : Int) (w0 : (Lit.int .i64 a0).wf = true) (w1 : (Lit.int .i32 a1).wf = true) (w2 : (Lit.int .i32 a2).wf = true) (w : World) :
    Calls Try.prog 5 #[.int .i64 a0, .int .i32 a1, .int .i32 a2] w fun e w' => e = .returned (.bool true) ∧ Below w.heap.size w w' := by
  obtain ⟨n0, n1⟩ := wfI32 w1
  obtain ⟨m0, m1⟩ := wfI32 w2
  clear w0 w1 w2
  have IA := fun w => rIntW a1 w n0 n1
  have IB := fun w => rIntW a2 w m0 m1
  have F1 := fun w => Fast_calls a0 (wI a1) (wI a2) w
  have S1 := fun w => Slow_calls a0 (wI a1) (wI a2) (wI_u64 _) (wI_u64 _) w
  have T1 := fun w => rTag_int (SlowG a0 (wI a1) (wI a2)) (slow_u64 (wI_u64 _) (wI_u64 _)) w
  rw [same_quick a0 a1 a2 n0 n1 m0 m1] at F1
  generalize SlowG a0 (wI a1) (wI a2) = v at *
  generalize wI a1 = a at *
  generalize wI a2 = b at *
  generalize isTP v 65529 = z at *
  by_cases h : (tg v 65529 || (v == 18445336698825998339 || v == 18445336698825998338)) = true
  · have e : quick v = (v, true) := by unfold quick; rw [if_pos h]
    rw [e] at F1
    clear h e T1
    replace IA := Lib.hid IA
    replace IB := Lib.hid IB
    replace F1 := Lib.hid F1
    replace S1 := Lib.hid S1
    go_enter Try.func5, Try.ntmps5
    go_wp2_with (first | (go_at_call 10; refine (alive04 _).mono ?_; rintro e w1 ⟨rfl, hb1⟩) | (go_at_call 13; with_reducible first | (refine (IA.out _).mono ?_; rintro e w' ⟨rfl, rfl⟩) | (refine (IB.out _).mono ?_; rintro e w' ⟨rfl, rfl⟩)) | (go_at_call 11; refine (F1.out _).mono ?_; rintro e w' ⟨rfl, rfl⟩) | (go_at_call 12; refine (S1.out _).mono ?_; rintro e w1 ⟨rfl, hb1⟩))
    all_goals go_ret
    all_goals exact ⟨rfl, by repeat (first | exact Below.refl _ _ | apply below_alloc | apply below_drewN | apply below_drew | refine below_via (by assumption) ?_)⟩
  · have e : quick v = (0, false) := by unfold quick; rw [if_neg h]
    rw [e] at F1
    rw [Bool.not_eq_true, Bool.or_eq_false_iff, Bool.or_eq_false_iff] at h
    obtain ⟨h1, h2, h3⟩ := h
    have h4 : (v != 18445336698825998339) = true := by unfold bne; rw [h2]; rfl
    have h5 : (v != 18445336698825998338) = true := by unfold bne; rw [h3]; rfl
    rw [h1] at T1
    clear h1 e
    replace IA := Lib.hid IA
    replace IB := Lib.hid IB
    replace F1 := Lib.hid F1
    replace S1 := Lib.hid S1
    replace T1 := Lib.hid T1
    go_enter Try.func5, Try.ntmps5
    go_wp2_with (first | (go_at_call 10; refine (alive04 _).mono ?_; rintro e w1 ⟨rfl, hb1⟩) | (go_at_call 13; with_reducible first | (refine (IA.out _).mono ?_; rintro e w' ⟨rfl, rfl⟩) | (refine (IB.out _).mono ?_; rintro e w' ⟨rfl, rfl⟩)) | (go_at_call 11; refine (F1.out _).mono ?_; rintro e w' ⟨rfl, rfl⟩) | (go_at_call 12; refine (S1.out _).mono ?_; rintro e w1 ⟨rfl, hb1⟩) | (go_at_call 14; refine (T1.out _).mono ?_; rintro e w' ⟨rfl, rfl⟩))
    all_goals go_ret
    all_goals exact ⟨rfl, by repeat (first | exact Below.refl _ _ | apply below_alloc | apply below_drewN | apply below_drew | refine below_via (by assumption) ?_)⟩
set_option maxRecDepth 100000 in
theorem lifted (os : Os) (started : os.Started) (H : Type) (enc : TypeId × Value → H) :
    ReturnsInHanded {} Try.checked os 5 .any (Rows.smallSameSpec.pre6 enc Try.prog Try.f5 Rows.smallSameRow.domain false) (Rows.smallSameSpec.post enc Try.prog Try.f5 false true false false) := by
  refine returnsInHanded_of_change (C := Try.checked) own started (by kernel_rfl) Try.func5
    (ChangeSpec.witness6 (enc := enc) (C := Try.checked) false ⟨#[], #[.int .i64 0, .int .i32 0, .int .i32 0], []⟩ 8 (by kernel_rfl) (by kernel_rfl) (by kernel_rfl) (by kernel_rfl)) ?_
  intro W base args ds gs before hval0 hW hcnd _
  have hval : ∀ (j : Nat) t v, Try.f5.params[j]? = some t → args[j]? = some v → Value.okWide Try.prog W .any base t v := hval0
  have hW' := hW
  obtain ⟨p, q, hA0, hV, rfl, hfz, hnd⟩ := hW
  have hA : DataW.TrodAll enc Try.prog W 0 (fun _ => true) true Try.f5.params.toList args.toList ds p := hA0
  rw [Try.params5] at hA hval
  obtain ⟨v0, vs0, d0, ds0, p0, q0, hargs, rfl, rfl, h0, r0⟩ := trodAll_cons hA
  obtain ⟨v1, vs1, d1, ds1, p1, q1, rfl, rfl, rfl, h1, r1⟩ := trodAll_cons r0
  obtain ⟨v2, vs2, d2, ds2, p2, q2, rfl, rfl, rfl, h2, r2⟩ := trodAll_cons r1
  obtain ⟨rfl, rfl, rfl⟩ := trodAll_nil r2
  obtain rfl : args = #[v0, v1, v2] := by cases args; simp_all
  obtain ⟨rfl, rfl⟩ := trodVars_none hV
  obtain ⟨a0, rfl, rfl, rfl, w0⟩ := open_int Try.underlying3 (hval 0 3 v0 rfl rfl) h0
  obtain ⟨a1, rfl, rfl, rfl, w1⟩ := open_int Try.underlying21 (hval 1 21 v1 rfl rfl) h1
  obtain ⟨a2, rfl, rfl, rfl, w2⟩ := open_int Try.underlying21 (hval 2 21 v2 rfl rfl) h2
  clear hA0 hval0
  simp only [List.append_nil] at hW'
  refine (walk a0 a1 a2 w0 w1 w2 W).mono fun e W' ⟨he, bel⟩ => ?_
  subst he
  exact ⟨_, rfl, _, _, _, [], _, [], hW', (trodAll_cons_mk (shut_bool Try.underlying4 _) trodAll_mk0), (trodAll_cons_mk (shut_int Try.underlying3 w0) (trodAll_cons_mk (shut_int Try.underlying21 w1) (trodAll_cons_mk (shut_int Try.underlying21 w2) trodAll_mk0))), rfl, bel.frame _, fun h => by cases h⟩

set_option maxHeartbeats 0 in
theorem over : Rows.smallSameRow.holds Try.pinned (OpenSpec.ofChange Rows.smallSameSpec) :=
  OpenClaim.holds_of_wide 5 Try.f5 rfl rfl rfl rfl rfl rfl rfl ⟨rfl, rfl, rfl, rfl, rfl⟩ rfl rfl rfl rfl rfl (by as_aux_lemma => kernel_rfl) Try.func5 (by as_aux_lemma => kernel_rfl)
    (of_decide_eq_true (by as_aux_lemma => kernel_rfl)) (by as_aux_lemma => unfold Func.isWrapper; first | (rw [if_pos (by decide +kernel)]; kernel_rfl) | (rw [if_neg (by decide +kernel)]; exact ⟨rfl, rfl⟩))
    (fun os started H enc _ => lifted os started H enc)

theorem proved : Rows.SmallSameSaid :=
  over
#print axioms proved
end Go.Proofs.Ytkiakflmoplmeaa.smallSame
namespace Go.Proofs.Ytkiakflmoplmeaa
theorem smallSame_holds : Rows.SmallSameSaid := smallSame.proved
end Go.Proofs.Ytkiakflmoplmeaa
