/- For every two uint64s the call of SoftOrders returns true, and its arguments read as before; no condition. -/
import Derived.Test.YtmemefjhefmfhaaRows
import Derived.WalkKit
import Derived.ProofKit
import Derived.OpenShut
import Derived.Test.YtmemefjhefmfhaaSg
import Derived.Test.YtmemefjhefmfhaaTa
namespace Go.Proofs.Ytmemefjhefmfhaa.softOrders
open Go.ChangeShapes Go.WideShapes Go.ChangeAt Go.RowKit Fp
set_option linter.unusedSimpArgs false
set_option linter.unusedVariables false      -- a walk need not use every 'w<i>' (that an integer argument fits its kind)

theorem own : ownKnob Try.prog.godebug = none := by kernel_rfl

set_option maxRecDepth 100000 in
theorem walk (a0 : Int) (a1 : Int) (w0 : (Lit.int .u64 a0).wf = true) (w1 : (Lit.int .u64 a1).wf = true) (w : World) :
    Calls Try.prog 3 #[.int .u64 a0, .int .u64 a1] w fun e w' => e = .returned (.bool true) ∧ Below w.heap.size w w' := by
  have ha := wfU64 w0
  have hb := wfU64 w1
  clear w0 w1
  have HL : (FloatKind.f64.format.order a0.toNat a1.toNat == some .lt) = LessG a0 a1 := Less_ok ha hb
  have HE : (FloatKind.f64.format.order a0.toNat a1.toNat == some .eq) = EqualG a0 a1 := Equal_ok ha hb
  have HS : (FloatKind.f64.format.order a0.toNat a0.toNat != some .eq) = isNaN a0 := self_ok ha
  have HN := fun w => Of_val (neg_bits ha) (neg_wf ha) w
  have HI := fun w => IsInf0_calls a0 ha w
  have VA := fun w => Val_calls a0 w
  have VB := fun w => Val_calls a1 w
  have L1 := fun w => Less_calls a0 a1 w
  have E1 := fun w => Equal_calls a0 a1 w
  have N1 := fun w => Neg_calls a0 w
  have M1 := fun w => isNaN_calls a0 w
  have I1 := fun w => isInf_calls a0 w
  have UN : ∀ w, (Op.unary UnOp.neg (.float .f64 a0.toNat)).run Try.prog w = .ok (.float .f64 (Op.negFloat .f64 a0.toNat)) w := fun _ => rfl
  generalize LessG a0 a1 = l at *
  generalize EqualG a0 a1 = q at *
  generalize isNaN a0 = n at *
  generalize isInf a0 = i at *
  generalize negG a0 = g at *
  generalize a1.toNat = y at *
  generalize a0.toNat = x at *
  generalize Op.negFloat .f64 x = nx at *
  replace HN := Lib.hid HN
  replace HI := Lib.hid HI
  replace VA := Lib.hid VA
  replace VB := Lib.hid VB
  replace L1 := Lib.hid L1
  replace E1 := Lib.hid E1
  replace N1 := Lib.hid N1
  replace M1 := Lib.hid M1
  replace I1 := Lib.hid I1
  go_enter Try.func3, Try.ntmps3
  go_wp2_with (first | (go_at_call 11; refine (alive01 _).mono ?_; rintro e w1 ⟨rfl, hb1⟩) | (go_at_call 10; with_reducible first | (refine (VA.out _).mono ?_; rintro e w' ⟨rfl, rfl⟩) | (refine (VB.out _).mono ?_; rintro e w' ⟨rfl, rfl⟩)) | (go_at_call 12; refine (L1.out _).mono ?_; rintro e w' ⟨rfl, rfl⟩) | (go_at_call 13; refine (E1.out _).mono ?_; rintro e w' ⟨rfl, rfl⟩) | (go_at_call 14; refine (N1.out _).mono ?_; rintro e w' ⟨rfl, rfl⟩) | (go_at_call 16; refine (M1.out _).mono ?_; rintro e w' ⟨rfl, rfl⟩) | (go_at_call 17; refine (I1.out _).mono ?_; rintro e w' ⟨rfl, rfl⟩) | (go_at_call 18; refine (HI.out _).mono ?_; rintro e w' ⟨rfl, rfl⟩) | (go_at_call 15; refine (HN.out _).mono ?_; rintro e w' ⟨rfl, rfl⟩))
  all_goals go_ret
  all_goals exact ⟨rfl, by repeat (first | exact Below.refl _ _ | apply below_alloc | refine below_via (by assumption) ?_)⟩
set_option maxRecDepth 100000 in
theorem lifted (os : Os) (started : os.Started) (H : Type) (enc : TypeId × Value → H) :
    ReturnsInHanded {} Try.checked os 3 .any (Rows.softOrdersSpec.pre6 enc Try.prog Try.f3 Rows.softOrdersRow.domain false) (Rows.softOrdersSpec.post enc Try.prog Try.f3 false true false false) := by
  refine returnsInHanded_of_change (C := Try.checked) own started (by kernel_rfl) Try.func3
    (ChangeSpec.witness6 (enc := enc) (C := Try.checked) false ⟨#[], #[.int .u64 0, .int .u64 0], []⟩ 8 (by kernel_rfl) (by kernel_rfl) (by kernel_rfl) (by kernel_rfl)) ?_
  intro W base args ds gs before hval0 hW hcnd _
  have hval : ∀ (j : Nat) t v, Try.f3.params[j]? = some t → args[j]? = some v → Value.okWide Try.prog W .any base t v := hval0
  have hW' := hW
  obtain ⟨p, q, hA0, hV, rfl, hfz, hnd⟩ := hW
  have hA : DataW.TrodAll enc Try.prog W 0 (fun _ => true) true Try.f3.params.toList args.toList ds p := hA0
  rw [Try.params3] at hA hval
  obtain ⟨v0, vs0, d0, ds0, p0, q0, hargs, rfl, rfl, h0, r0⟩ := trodAll_cons hA
  obtain ⟨v1, vs1, d1, ds1, p1, q1, rfl, rfl, rfl, h1, r1⟩ := trodAll_cons r0
  obtain ⟨rfl, rfl, rfl⟩ := trodAll_nil r1
  obtain rfl : args = #[v0, v1] := by cases args; simp_all
  obtain ⟨rfl, rfl⟩ := trodVars_none hV
  obtain ⟨a0, rfl, rfl, rfl, w0⟩ := open_int Try.underlying22 (hval 0 22 v0 rfl rfl) h0
  obtain ⟨a1, rfl, rfl, rfl, w1⟩ := open_int Try.underlying22 (hval 1 22 v1 rfl rfl) h1
  clear hA0 hval0
  simp only [List.append_nil] at hW'
  refine (walk a0 a1 w0 w1 W).mono fun e W' ⟨he, bel⟩ => ?_
  subst he
  exact ⟨_, rfl, _, _, _, [], _, [], hW', (trodAll_cons_mk (shut_bool Try.underlying4 _) trodAll_mk0), (trodAll_cons_mk (shut_int Try.underlying22 w0) (trodAll_cons_mk (shut_int Try.underlying22 w1) trodAll_mk0)), rfl, bel.frame _, fun h => by cases h⟩

set_option maxHeartbeats 0 in
theorem over : Rows.softOrdersRow.holds Try.pinned (OpenSpec.ofChange Rows.softOrdersSpec) :=
  OpenClaim.holds_of_wide 3 Try.f3 rfl rfl rfl rfl rfl rfl rfl ⟨rfl, rfl, rfl, rfl, rfl⟩ rfl rfl rfl rfl rfl (by as_aux_lemma => kernel_rfl) Try.func3 (by as_aux_lemma => kernel_rfl)
    (of_decide_eq_true (by as_aux_lemma => kernel_rfl)) (by as_aux_lemma => unfold Func.isWrapper; first | (rw [if_pos (by decide +kernel)]; kernel_rfl) | (rw [if_neg (by decide +kernel)]; exact ⟨rfl, rfl⟩))
    (fun os started H enc _ => lifted os started H enc)

theorem proved : Rows.SoftOrdersSaid :=
  over
#print axioms proved
end Go.Proofs.Ytmemefjhefmfhaa.softOrders
namespace Go.Proofs.Ytmemefjhefmfhaa
theorem softOrders_holds : Rows.SoftOrdersSaid := softOrders.proved
end Go.Proofs.Ytmemefjhefmfhaa
