/- For every uint64 the call of WordNumbers returns true, and its argument reads as before; no condition. -/
import Derived.Test.YtebclfplejjloaaRows
import Derived.WalkKit
import Derived.ProofKit
import Derived.OpenShut
import Derived.Test.YtebclfplejjloaaRc
import Derived.Test.YtebclfplejjloaaAlive03
namespace Go.Proofs.Ytebclfplejjloaa.wordNumbers
open Go.ChangeShapes Go.WideShapes Go.ChangeAt Go.RowKit Fp
set_option linter.unusedSimpArgs false
set_option linter.unusedVariables false      -- a walk need not use every 'w<i>' (that an integer argument fits its kind)

theorem own : ownKnob Try.prog.godebug = none := by kernel_rfl

set_option maxRecDepth 100000 in
theorem walk (a0 : Int) (w0 : (Lit.int .u64 a0).wf = true) (w : World) :
    Calls Try.prog 7 #[.int .u64 a0] w fun e w' => e = .returned (.bool true) ∧ Below w.heap.size w w' := by
  have ha := wf_u64 w0
  clear w0
  obtain ⟨a1u, a2, a3⟩ := num_facts ha
  obtain ⟨p0, p1⟩ := pI_bd (NumberG a0) 65529
  have BA := fun w => Bits_calls (NumberG a0) w a1u p0 p1
  have RB := fun w => rBits_calls (NumberG a0) a1u w
  have NA := fun w => Number_calls a0 w ha
  have RN := fun w => rNumber_calls a0 ha w
  rw [a3] at BA RB
  generalize NumberG a0 = A at *
  generalize canon a0 = X at *
  clear a1u a2 a3 p0 p1
  have HA := Lib.hid BA; clear BA
  have HB := Lib.hid RB; clear RB
  have HN := Lib.hid NA; clear NA
  have HR := Lib.hid RN; clear RN
  go_enter Try.func7, Try.ntmps7
  go_wp2_with (first | (go_at_call 15; refine (alive03 _).mono ?_; rintro e w1 ⟨rfl, hb1⟩) | (go_at_call 21; refine (HN.out _).mono ?_; rintro e w1 ⟨rfl, hb1⟩) | (go_at_call 20; refine (HA.out _).mono ?_; rintro e w1 ⟨rfl, hb1⟩) | (go_at_call 23; refine (HR.out _).mono ?_; rintro e w' ⟨rfl, rfl⟩) | (go_at_call 22; refine (HB.out _).mono ?_; rintro e w' ⟨rfl, rfl⟩))
  go_ret
  exact ⟨rfl, by repeat (first | exact Below.refl _ _ | apply below_alloc | refine below_via (by assumption) ?_)⟩
set_option maxRecDepth 100000 in
theorem lifted (os : Os) (started : os.Started) (H : Type) (enc : TypeId × Value → H) :
    ReturnsInHanded {} Try.checked os 7 .any (Rows.wordNumbersSpec.pre6 enc Try.prog Try.f7 Rows.wordNumbersRow.domain false) (Rows.wordNumbersSpec.post enc Try.prog Try.f7 false true false false) := by
  refine returnsInHanded_of_change (C := Try.checked) own started (by kernel_rfl) Try.func7
    (ChangeSpec.witness6 (enc := enc) (C := Try.checked) false ⟨#[], #[.int .u64 0], []⟩ 8 (by kernel_rfl) (by kernel_rfl) (by kernel_rfl) (by kernel_rfl)) ?_
  intro W base args ds gs before hval0 hW hcnd _
  have hval : ∀ (j : Nat) t v, Try.f7.params[j]? = some t → args[j]? = some v → Value.okWide Try.prog W .any base t v := hval0
  have hW' := hW
  obtain ⟨p, q, hA0, hV, rfl, hfz, hnd⟩ := hW
  have hA : DataW.TrodAll enc Try.prog W 0 (fun _ => true) true Try.f7.params.toList args.toList ds p := hA0
  rw [Try.params7] at hA hval
  obtain ⟨v0, vs0, d0, ds0, p0, q0, hargs, rfl, rfl, h0, r0⟩ := trodAll_cons hA
  obtain ⟨rfl, rfl, rfl⟩ := trodAll_nil r0
  obtain rfl : args = #[v0] := by cases args; simp_all
  obtain ⟨rfl, rfl⟩ := trodVars_none hV
  obtain ⟨a0, rfl, rfl, rfl, w0⟩ := open_int Try.underlying23 (hval 0 23 v0 rfl rfl) h0
  clear hA0 hval0
  simp only [List.append_nil] at hW'
  refine (walk a0 w0 W).mono fun e W' ⟨he, bel⟩ => ?_
  subst he
  exact ⟨_, rfl, _, _, _, [], _, [], hW', (trodAll_cons_mk (shut_bool Try.underlying4 _) trodAll_mk0), (trodAll_cons_mk (shut_int Try.underlying23 w0) trodAll_mk0), rfl, bel.frame _, fun h => by cases h⟩

set_option maxHeartbeats 0 in
theorem over : Rows.wordNumbersRow.holds Try.pinned (OpenSpec.ofChange Rows.wordNumbersSpec) :=
  OpenClaim.holds_of_wide 7 Try.f7 rfl rfl rfl rfl rfl rfl rfl ⟨rfl, rfl, rfl, rfl, rfl⟩ rfl rfl rfl rfl rfl (by as_aux_lemma => kernel_rfl) Try.func7 (by as_aux_lemma => kernel_rfl)
    (of_decide_eq_true (by as_aux_lemma => kernel_rfl)) (by as_aux_lemma => unfold Func.isWrapper; first | (rw [if_pos (by decide +kernel)]; kernel_rfl) | (rw [if_neg (by decide +kernel)]; exact ⟨rfl, rfl⟩))
    (fun os started H enc _ => lifted os started H enc)

theorem proved : Rows.WordNumbersSaid :=
  over
#print axioms proved
end Go.Proofs.Ytebclfplejjloaa.wordNumbers
namespace Go.Proofs.Ytebclfplejjloaa
theorem wordNumbers_holds : Rows.WordNumbersSaid := wordNumbers.proved
end Go.Proofs.Ytebclfplejjloaa
