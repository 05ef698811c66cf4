/- For every two uint64 the call of WordOnce returns true, and its arguments read as before; no condition. -/
import Derived.Test.YtebclfplejjloaaRows
import Derived.WalkKit
import Derived.ProofKit
import Derived.OpenShut
import Derived.Test.YtebclfplejjloaaFj
import Derived.Test.YtebclfplejjloaaVb
import Derived.Test.YtebclfplejjloaaAlive03
namespace Go.Proofs.Ytebclfplejjloaa.wordOnce
open Go.ChangeShapes Go.WideShapes Go.ChangeAt Go.RowKit Fp
set_option linter.unusedSimpArgs false
set_option linter.unusedVariables false      -- a walk need not use every 'w<i>' (that an integer argument fits its kind)

theorem own : ownKnob Try.prog.godebug = none := by kernel_rfl

set_option maxRecDepth 100000 in
theorem walk (a0 : Int) (a1 : Int) (w0 : (Lit.int .u64 a0).wf = true) (w1 : (Lit.int .u64 a1).wf = true) (w : World) :
    Calls Try.prog 4 #[.int .u64 a0, .int .u64 a1] w fun e w' => e = .returned (.bool true) ∧ Below w.heap.size w w' := by
  have ha := wf_u64 w0
  have hb := wf_u64 w1
  clear w0 w1
  obtain ⟨a1u, a2, a3⟩ := num_facts ha
  obtain ⟨b1u, b2, b3⟩ := num_facts hb
  have hx := canon_u64 ha
  have c1 := num_canon a0
  have c2 := num_once ha hb
  obtain ⟨p0, p1⟩ := pI_bd (NumberG a0) 65529
  obtain ⟨q0, q1⟩ := pI_bd (NumberG a1) 65529
  have NA := fun w => Number_calls a0 w ha
  have NB := fun w => Number_calls a1 w hb
  have NX := fun w => Number_calls (canon a0) w hx
  have BA := fun w => Bits_calls (NumberG a0) w a1u p0 p1
  have BB := fun w => Bits_calls (NumberG a1) w b1u q0 q1
  have RA := fun w => Right_calls (NumberG a0) w a1u
  rw [c1] at NX
  rw [a3] at BA
  rw [b3] at BB
  rw [a2] at RA
  clear a1u a2 a3 b1u b2 b3 hx c1 p0 p1 q0 q1 ha hb
  generalize NumberG a0 = A at *
  generalize NumberG a1 = B at *
  generalize canon a0 = X at *
  generalize canon a1 = Y at *
  have HA := Lib.hid NA; clear NA
  have HB := Lib.hid NB; clear NB
  have HX := Lib.hid NX; clear NX
  have GA := Lib.hid BA; clear BA
  have GB := Lib.hid BB; clear BB
  have KA := Lib.hid RA; clear RA
  go_enter Try.func4, Try.ntmps4
  go_wp2_with (first | (go_at_call 15; refine (alive03 _).mono ?_; rintro e w1 ⟨rfl, hb1⟩) | (go_at_call 21; with_reducible first | (refine (HA.out _).mono ?_; rintro e w1 ⟨rfl, hb1⟩) | (refine (HB.out _).mono ?_; rintro e w1 ⟨rfl, hb1⟩) | (refine (HX.out _).mono ?_; rintro e w1 ⟨rfl, hb1⟩)) | (go_at_call 20; with_reducible first | (refine (GA.out _).mono ?_; rintro e w1 ⟨rfl, hb1⟩) | (refine (GB.out _).mono ?_; rintro e w1 ⟨rfl, hb1⟩)) | (go_at_call 16; refine (KA.out _).mono ?_; rintro e w1 ⟨rfl, hb1⟩))
  all_goals go_ret
  all_goals refine ⟨ret_bool ?_, by repeat (first | exact Below.refl _ _ | apply below_alloc | refine below_via (by assumption) ?_)⟩
  all_goals go_light
  all_goals simp_all
set_option maxRecDepth 100000 in
theorem lifted (os : Os) (started : os.Started) (H : Type) (enc : TypeId × Value → H) :
    ReturnsInHanded {} Try.checked os 4 .any (Rows.wordOnceSpec.pre6 enc Try.prog Try.f4 Rows.wordOnceRow.domain false) (Rows.wordOnceSpec.post enc Try.prog Try.f4 false true false false) := by
  refine returnsInHanded_of_change (C := Try.checked) own started (by kernel_rfl) Try.func4
    (ChangeSpec.witness6 (enc := enc) (C := Try.checked) false ⟨#[], #[.int .u64 0, .int .u64 0], []⟩ 8 (by kernel_rfl) (by kernel_rfl) (by kernel_rfl) (by kernel_rfl)) ?_
  intro W base args ds gs before hval0 hW hcnd _
  have hval : ∀ (j : Nat) t v, Try.f4.params[j]? = some t → args[j]? = some v → Value.okWide Try.prog W .any base t v := hval0
  have hW' := hW
  obtain ⟨p, q, hA0, hV, rfl, hfz, hnd⟩ := hW
  have hA : DataW.TrodAll enc Try.prog W 0 (fun _ => true) true Try.f4.params.toList args.toList ds p := hA0
  rw [Try.params4] at hA hval
  obtain ⟨v0, vs0, d0, ds0, p0, q0, hargs, rfl, rfl, h0, r0⟩ := trodAll_cons hA
  obtain ⟨v1, vs1, d1, ds1, p1, q1, rfl, rfl, rfl, h1, r1⟩ := trodAll_cons r0
  obtain ⟨rfl, rfl, rfl⟩ := trodAll_nil r1
  obtain rfl : args = #[v0, v1] := by cases args; simp_all
  obtain ⟨rfl, rfl⟩ := trodVars_none hV
  obtain ⟨a0, rfl, rfl, rfl, w0⟩ := open_int Try.underlying23 (hval 0 23 v0 rfl rfl) h0
  obtain ⟨a1, rfl, rfl, rfl, w1⟩ := open_int Try.underlying23 (hval 1 23 v1 rfl rfl) h1
  clear hA0 hval0
  simp only [List.append_nil] at hW'
  refine (walk a0 a1 w0 w1 W).mono fun e W' ⟨he, bel⟩ => ?_
  subst he
  exact ⟨_, rfl, _, _, _, [], _, [], hW', (trodAll_cons_mk (shut_bool Try.underlying4 _) trodAll_mk0), (trodAll_cons_mk (shut_int Try.underlying23 w0) (trodAll_cons_mk (shut_int Try.underlying23 w1) trodAll_mk0)), rfl, bel.frame _, fun h => by cases h⟩

set_option maxHeartbeats 0 in
theorem over : Rows.wordOnceRow.holds Try.pinned (OpenSpec.ofChange Rows.wordOnceSpec) :=
  OpenClaim.holds_of_wide 4 Try.f4 rfl rfl rfl rfl rfl rfl rfl ⟨rfl, rfl, rfl, rfl, rfl⟩ rfl rfl rfl rfl rfl (by as_aux_lemma => kernel_rfl) Try.func4 (by as_aux_lemma => kernel_rfl)
    (of_decide_eq_true (by as_aux_lemma => kernel_rfl)) (by as_aux_lemma => unfold Func.isWrapper; first | (rw [if_pos (by decide +kernel)]; kernel_rfl) | (rw [if_neg (by decide +kernel)]; exact ⟨rfl, rfl⟩))
    (fun os started H enc _ => lifted os started H enc)

theorem proved : Rows.WordOnceSaid :=
  over
#print axioms proved
end Go.Proofs.Ytebclfplejjloaa.wordOnce
namespace Go.Proofs.Ytebclfplejjloaa
theorem wordOnce_holds : Rows.WordOnceSaid := wordOnce.proved
end Go.Proofs.Ytebclfplejjloaa
