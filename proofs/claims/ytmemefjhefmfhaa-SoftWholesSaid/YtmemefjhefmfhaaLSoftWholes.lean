/- For every uint64 and int64 the call of SoftWholes returns true, and its arguments read as before; no condition. -/
import Derived.Test.YtmemefjhefmfhaaRows
import Derived.WalkKit
import Derived.ProofKit
import Derived.OpenShut
import Derived.Test.YtmemefjhefmfhaaTj
import Derived.Test.YtmemefjhefmfhaaTe
import Derived.Test.YtmemefjhefmfhaaSc
import Derived.Test.YtmemefjhefmfhaaSg
namespace Go.Proofs.Ytmemefjhefmfhaa.softWholes
open Go.ChangeShapes Go.WideShapes Go.ChangeAt Go.RowKit Fp
set_option linter.unusedSimpArgs false
set_option linter.unusedVariables false      -- a walk need not use every 'w<i>' (that an integer argument fits its kind)

theorem own : ownKnob Try.prog.godebug = none := by kernel_rfl

theorem float_i64 (n : Int) (h0 : -9223372036854775808 ≤ n) (h1 : n < 9223372036854775808) : OfG (floatOfInt .f64 n) = FromIntG n ∧ floatOfInt .f64 n < 18446744073709551616 := by
  refine ⟨?_, Ieee.Format.write_lt _ (.number (n < 0) n.natAbs 0)⟩
  by_cases z : n = 0
  · subst z; decide +kernel
  · have e : floatOfInt .f64 n = near2 (decide (n < 0)) n.natAbs false 0 := by
      show Ieee.double.nearest (decide (n < 0)) n.natAbs 0 = _
      exact nearest_eq _ _ _ (by omega)
    rw [FromInt_eq n h0 h1 z, e, OfG_num]
    rw [near2_word]; exact word_num _ _ (rung_le _ _ _ |> fun h => by rw [infRung_d]; exact h)
theorem float_u64 (n : Int) (h : U64 n) : OfG (floatOfInt .f64 n) = NearG n 0 false ∧ floatOfInt .f64 n < 18446744073709551616 := by
  have h0 := h.lo
  refine ⟨?_, Ieee.Format.write_lt _ (.number (n < 0) n.natAbs 0)⟩
  rw [near_doc0 n 0 h, nearest_doc n h0]
  unfold nearD
  by_cases z : n = 0
  · rw [if_pos z, if_pos z]; decide +kernel
  · rw [if_neg z, if_neg z]
    have c0 : cl 0 = 0 := by decide
    rw [c0, OfG_num (near2_n _ _ _)]
set_option maxRecDepth 100000 in
set_option maxHeartbeats 1000000 in
theorem walk (a0 : Int) (a1 : Int) (w0 : (Lit.int .u64 a0).wf = true) (w1 : (Lit.int .i64 a1).wf = true) (w : World) :
    Calls Try.prog 9 #[.int .u64 a0, .int .i64 a1] w fun e w' => e = .returned (.bool true) ∧ Below w.heap.size w w' := by
  have ha := wfU64 w0
  obtain ⟨n0, n1⟩ := wfI64 w1
  clear w0 w1
  have A1 := fun w => Whole_calls a0 w ha
  have A2 := fun w => RWhole_calls a0 ha w
  have A3 := fun w => RToUint32_calls a0 ha w
  have A4 := fun w => ToUint32_calls a0 w ha
  have A5 := fun w => ToInt32_calls a0 w ha
  have A6 := fun w => FromInt_calls a1 w n0 n1
  have O6 := fun w => Of_val (float_i64 a1 n0 n1).1 (float_i64 a1 n0 n1).2 w
  have A7 := fun w => FromUint_calls (IntKind.u64.wrap a1) w (wrap_u a1)
  have O7 := fun w => Of_val (float_u64 _ (wrap_u a1)).1 (float_u64 _ (wrap_u a1)).2 w
  have A8 := fun w => FloorC a0 ha w
  have A9 := fun w => RFloor_calls a0 ha w
  have B1 := fun w => Trunc_calls a0 w ha
  have B2 := fun w => RTrunc_calls a0 ha w
  clear ha
  generalize (WholeG a0).1 = k at *
  generalize (WholeG a0).2 = b at *
  generalize ToUint32G a0 = u at *
  generalize FromIntG a1 = fi at *
  generalize NearG (IntKind.u64.wrap a1) 0 false = fu at *
  generalize FloorG a0 = fl at *
  generalize TruncG a0 = tr at *
  replace A1 := Lib.hid A1
  replace A2 := Lib.hid A2
  replace A3 := Lib.hid A3
  replace A4 := Lib.hid A4
  replace A5 := Lib.hid A5
  replace A6 := Lib.hid A6
  replace O6 := Lib.hid O6
  replace A7 := Lib.hid A7
  replace O7 := Lib.hid O7
  replace A8 := Lib.hid A8
  replace A9 := Lib.hid A9
  replace B1 := Lib.hid B1
  replace B2 := Lib.hid B2
  go_enter Try.func9, Try.ntmps9
  go_wp2_with (first | (go_at_call 11; refine (alive01 _).mono ?_; rintro e w1 ⟨rfl, hb1⟩) | (go_at_call 27; refine (A1.out _).mono ?_; rintro e w1 ⟨rfl, hb1⟩) | (go_at_call 32; refine (A2.out _).mono ?_; rintro e w1 ⟨rfl, hb1⟩) | (go_at_call 33; refine (A3.out _).mono ?_; rintro e w1 ⟨rfl, hb1⟩) | (go_at_call 34; refine (A4.out _).mono ?_; rintro e w1 ⟨rfl, hb1⟩) | (go_at_call 28; refine (A5.out _).mono ?_; rintro e w1 ⟨rfl, hb1⟩) | (go_at_call 26; refine (A6.out _).mono ?_; rintro e w1 ⟨rfl, hb1⟩) | (go_at_call 35; refine (A7.out _).mono ?_; rintro e w1 ⟨rfl, hb1⟩) | (go_at_call 30; refine (A8.out _).mono ?_; rintro e w1 ⟨rfl, hb1⟩) | (go_at_call 36; refine (A9.out _).mono ?_; rintro e w1 ⟨rfl, hb1⟩) | (go_at_call 29; refine (B1.out _).mono ?_; rintro e w1 ⟨rfl, hb1⟩) | (go_at_call 37; refine (B2.out _).mono ?_; rintro e w1 ⟨rfl, hb1⟩) | (go_at_call 15; with_reducible first | (refine (O6.out _).mono ?_; rintro e w' ⟨rfl, rfl⟩) | (refine (O7.out _).mono ?_; rintro e w' ⟨rfl, rfl⟩)))
  all_goals go_ret
  all_goals exact ⟨rfl, by repeat (first | exact Below.refl _ _ | apply below_alloc | apply below_drewN | apply below_drew | refine below_via (by assumption) ?_)⟩
set_option maxRecDepth 100000 in
theorem lifted (os : Os) (started : os.Started) (H : Type) (enc : TypeId × Value → H) :
    ReturnsInHanded {} Try.checked os 9 .any (Rows.softWholesSpec.pre6 enc Try.prog Try.f9 Rows.softWholesRow.domain false) (Rows.softWholesSpec.post enc Try.prog Try.f9 false true false false) := by
  refine returnsInHanded_of_change (C := Try.checked) own started (by kernel_rfl) Try.func9
    (ChangeSpec.witness6 (enc := enc) (C := Try.checked) false ⟨#[], #[.int .u64 0, .int .i64 0], []⟩ 8 (by kernel_rfl) (by kernel_rfl) (by kernel_rfl) (by kernel_rfl)) ?_
  intro W base args ds gs before hval0 hW hcnd _
  have hval : ∀ (j : Nat) t v, Try.f9.params[j]? = some t → args[j]? = some v → Value.okWide Try.prog W .any base t v := hval0
  have hW' := hW
  obtain ⟨p, q, hA0, hV, rfl, hfz, hnd⟩ := hW
  have hA : DataW.TrodAll enc Try.prog W 0 (fun _ => true) true Try.f9.params.toList args.toList ds p := hA0
  rw [Try.params9] at hA hval
  obtain ⟨v0, vs0, d0, ds0, p0, q0, hargs, rfl, rfl, h0, r0⟩ := trodAll_cons hA
  obtain ⟨v1, vs1, d1, ds1, p1, q1, rfl, rfl, rfl, h1, r1⟩ := trodAll_cons r0
  obtain ⟨rfl, rfl, rfl⟩ := trodAll_nil r1
  obtain rfl : args = #[v0, v1] := by cases args; simp_all
  obtain ⟨rfl, rfl⟩ := trodVars_none hV
  obtain ⟨a0, rfl, rfl, rfl, w0⟩ := open_int Try.underlying22 (hval 0 22 v0 rfl rfl) h0
  obtain ⟨a1, rfl, rfl, rfl, w1⟩ := open_int Try.underlying2 (hval 1 2 v1 rfl rfl) h1
  clear hA0 hval0
  simp only [List.append_nil] at hW'
  refine (walk a0 a1 w0 w1 W).mono fun e W' ⟨he, bel⟩ => ?_
  subst he
  exact ⟨_, rfl, _, _, _, [], _, [], hW', (trodAll_cons_mk (shut_bool Try.underlying4 _) trodAll_mk0), (trodAll_cons_mk (shut_int Try.underlying22 w0) (trodAll_cons_mk (shut_int Try.underlying2 w1) trodAll_mk0)), rfl, bel.frame _, fun h => by cases h⟩

set_option maxHeartbeats 0 in
theorem over : Rows.softWholesRow.holds Try.pinned (OpenSpec.ofChange Rows.softWholesSpec) :=
  OpenClaim.holds_of_wide 9 Try.f9 rfl rfl rfl rfl rfl rfl rfl ⟨rfl, rfl, rfl, rfl, rfl⟩ rfl rfl rfl rfl rfl (by as_aux_lemma => kernel_rfl) Try.func9 (by as_aux_lemma => kernel_rfl)
    (of_decide_eq_true (by as_aux_lemma => kernel_rfl)) (by as_aux_lemma => unfold Func.isWrapper; first | (rw [if_pos (by decide +kernel)]; kernel_rfl) | (rw [if_neg (by decide +kernel)]; exact ⟨rfl, rfl⟩))
    (fun os started H enc _ => lifted os started H enc)

theorem proved : Rows.SoftWholesSaid :=
  over
#print axioms proved
end Go.Proofs.Ytmemefjhefmfhaa.softWholes
namespace Go.Proofs.Ytmemefjhefmfhaa
theorem softWholes_holds : Rows.SoftWholesSaid := softWholes.proved
end Go.Proofs.Ytmemefjhefmfhaa
