/- For every two uint64s the call of SoftSums returns true, and its arguments read as before; no condition. -/
import Derived.Test.YtmemefjhefmfhaaRows
import Derived.WalkKit
import Derived.ProofKit
import Derived.OpenShut
import Derived.Test.YtmemefjhefmfhaaSh
import Derived.Test.YtmemefjhefmfhaaSc
import Derived.Test.YtmemefjhefmfhaaTa
namespace Go.Proofs.Ytmemefjhefmfhaa.softSums
open Go.ChangeShapes Go.WideShapes Go.ChangeAt Go.RowKit Fp
set_option linter.unusedSimpArgs false
set_option linter.unusedVariables false      -- a walk need not use every 'w<i>' (that an integer argument fits its kind)

theorem own : ownKnob Try.prog.godebug = none := by kernel_rfl

set_option maxRecDepth 100000 in
theorem walk (a0 : Int) (a1 : Int) (w0 : (Lit.int .u64 a0).wf = true) (w1 : (Lit.int .u64 a1).wf = true) (w : World) :
    Calls Try.prog 4 #[.int .u64 a0, .int .u64 a1] w fun e w' => e = .returned (.bool true) ∧ Below w.heap.size w w' := by
  have ha := wfU64 w0
  have hb := wfU64 w1
  clear w0 w1
  obtain ⟨g1, k1, G1⟩ := arith_run .add (.inl rfl) a0.toNat a1.toNat _ (add_of ha hb)
  obtain ⟨g2, k2, G2⟩ := arith_run .sub (.inr (.inl rfl)) a0.toNat a1.toNat _ (sub_of ha hb)
  obtain ⟨g3, k3, G3⟩ := arith_run .mul (.inr (.inr (.inl rfl))) a0.toNat a1.toNat _ (mul_of ha hb)
  obtain ⟨g4, k4, G4⟩ := arith_run .quo (.inr (.inr (.inr rfl))) a0.toNat a1.toNat _ (div_of ha hb)
  have A1 := fun w => AddC a0 a1 ha hb w
  have A2 := fun w => SubC a0 a1 ha hb w
  have A3 := fun w => Mul_calls a0 a1 w ha hb
  have A4 := fun w => DivC a0 a1 ha hb w
  have VA := fun w => Val_calls a0 w
  have VB := fun w => Val_calls a1 w
  generalize AddG a0 a1 = r1 at *
  generalize SubG a0 a1 = r2 at *
  generalize MulG a0 a1 = r3 at *
  generalize DivG a0 a1 = r4 at *
  generalize a1.toNat = y at *
  generalize a0.toNat = x at *
  have R1 := fun t w => (G1 t w).1
  have R2 := fun t w => (G2 t w).1
  have R3 := fun t w => (G3 t w).1
  have R4 := fun t w => (G4 t w).1
  have O1 := fun v w => Of_val (G1 0 v).2.1 (G1 0 v).2.2 w
  have O2 := fun v w => Of_val (G2 0 v).2.1 (G2 0 v).2.2 w
  have O3 := fun v w => Of_val (G3 0 v).2.1 (G3 0 v).2.2 w
  have O4 := fun v w => Of_val (G4 0 v).2.1 (G4 0 v).2.2 w
  clear G1 G2 G3 G4 ha hb
  replace A1 := Lib.hid A1
  replace A2 := Lib.hid A2
  replace A3 := Lib.hid A3
  replace A4 := Lib.hid A4
  replace VA := Lib.hid VA
  replace VB := Lib.hid VB
  replace O1 := Lib.hid O1
  replace O2 := Lib.hid O2
  replace O3 := Lib.hid O3
  replace O4 := Lib.hid O4
  go_enter Try.func4, Try.ntmps4
  go_wp2_with (first | (go_at_call 11; refine (alive01 _).mono ?_; rintro e w1 ⟨rfl, hb1⟩) | (go_at_call 10; with_reducible first | (refine (VA.out _).mono ?_; rintro e w' ⟨rfl, rfl⟩) | (refine (VB.out _).mono ?_; rintro e w' ⟨rfl, rfl⟩)) | (go_at_call 19; refine (A1.out _).mono ?_; rintro e w1 ⟨rfl, hb1⟩) | (go_at_call 20; refine (A2.out _).mono ?_; rintro e w1 ⟨rfl, hb1⟩) | (go_at_call 21; refine (A3.out _).mono ?_; rintro e w1 ⟨rfl, hb1⟩) | (go_at_call 22; refine (A4.out _).mono ?_; rintro e w1 ⟨rfl, hb1⟩) | (go_at_call 15; with_reducible first | (refine (O1.out _ _).mono ?_; rintro e w' ⟨rfl, rfl⟩) | (refine (O2.out _ _).mono ?_; rintro e w' ⟨rfl, rfl⟩) | (refine (O3.out _ _).mono ?_; rintro e w' ⟨rfl, rfl⟩) | (refine (O4.out _ _).mono ?_; rintro e w' ⟨rfl, rfl⟩)))
  all_goals go_ret
  all_goals exact ⟨rfl, by repeat (first | exact Below.refl _ _ | apply below_alloc | apply below_drewN | apply below_drew | refine below_via (by assumption) ?_)⟩
set_option maxRecDepth 100000 in
theorem lifted (os : Os) (started : os.Started) (H : Type) (enc : TypeId × Value → H) :
    ReturnsInHanded {} Try.checked os 4 .any (Rows.softSumsSpec.pre6 enc Try.prog Try.f4 Rows.softSumsRow.domain false) (Rows.softSumsSpec.post enc Try.prog Try.f4 false true false false) := by
  refine returnsInHanded_of_change (C := Try.checked) own started (by kernel_rfl) Try.func4
    (ChangeSpec.witness6 (enc := enc) (C := Try.checked) false ⟨#[], #[.int .u64 0, .int .u64 0], []⟩ 8 (by kernel_rfl) (by kernel_rfl) (by kernel_rfl) (by kernel_rfl)) ?_
  intro W base args ds gs before hval0 hW hcnd _
  have hval : ∀ (j : Nat) t v, Try.f4.params[j]? = some t → args[j]? = some v → Value.okWide Try.prog W .any base t v := hval0
  have hW' := hW
  obtain ⟨p, q, hA0, hV, rfl, hfz, hnd⟩ := hW
  have hA : DataW.TrodAll enc Try.prog W 0 (fun _ => true) true Try.f4.params.toList args.toList ds p := hA0
  rw [Try.params4] at hA hval
  obtain ⟨v0, vs0, d0, ds0, p0, q0, hargs, rfl, rfl, h0, r0⟩ := trodAll_cons hA
  obtain ⟨v1, vs1, d1, ds1, p1, q1, rfl, rfl, rfl, h1, r1⟩ := trodAll_cons r0
  obtain ⟨rfl, rfl, rfl⟩ := trodAll_nil r1
  obtain rfl : args = #[v0, v1] := by cases args; simp_all
  obtain ⟨rfl, rfl⟩ := trodVars_none hV
  obtain ⟨a0, rfl, rfl, rfl, w0⟩ := open_int Try.underlying22 (hval 0 22 v0 rfl rfl) h0
  obtain ⟨a1, rfl, rfl, rfl, w1⟩ := open_int Try.underlying22 (hval 1 22 v1 rfl rfl) h1
  clear hA0 hval0
  simp only [List.append_nil] at hW'
  refine (walk a0 a1 w0 w1 W).mono fun e W' ⟨he, bel⟩ => ?_
  subst he
  exact ⟨_, rfl, _, _, _, [], _, [], hW', (trodAll_cons_mk (shut_bool Try.underlying4 _) trodAll_mk0), (trodAll_cons_mk (shut_int Try.underlying22 w0) (trodAll_cons_mk (shut_int Try.underlying22 w1) trodAll_mk0)), rfl, bel.frame _, fun h => by cases h⟩

set_option maxHeartbeats 0 in
theorem over : Rows.softSumsRow.holds Try.pinned (OpenSpec.ofChange Rows.softSumsSpec) :=
  OpenClaim.holds_of_wide 4 Try.f4 rfl rfl rfl rfl rfl rfl rfl ⟨rfl, rfl, rfl, rfl, rfl⟩ rfl rfl rfl rfl rfl (by as_aux_lemma => kernel_rfl) Try.func4 (by as_aux_lemma => kernel_rfl)
    (of_decide_eq_true (by as_aux_lemma => kernel_rfl)) (by as_aux_lemma => unfold Func.isWrapper; first | (rw [if_pos (by decide +kernel)]; kernel_rfl) | (rw [if_neg (by decide +kernel)]; exact ⟨rfl, rfl⟩))
    (fun os started H enc _ => lifted os started H enc)

theorem proved : Rows.SoftSumsSaid :=
  over
#print axioms proved
end Go.Proofs.Ytmemefjhefmfhaa.softSums
namespace Go.Proofs.Ytmemefjhefmfhaa
theorem softSums_holds : Rows.SoftSumsSaid := softSums.proved
end Go.Proofs.Ytmemefjhefmfhaa
