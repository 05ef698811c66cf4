/- For every int32, every uint32 and every bool the call of WordMakes returns true, and its arguments read as before; no condition. -/
import Derived.Test.YtebclfplejjloaaRows
import Derived.WalkKit
import Derived.ProofKit
import Derived.OpenShut
import Derived.Test.YtebclfplejjloaaFw
import Derived.Test.YtebclfplejjloaaVb
namespace Go.Proofs.Ytebclfplejjloaa.wordMakes
open Go.ChangeShapes Go.WideShapes Go.ChangeAt Go.RowKit Fp
set_option linter.unusedSimpArgs false
set_option linter.unusedVariables false      -- a walk need not use every 'w<i>' (that an integer argument fits its kind)

theorem own : ownKnob Try.prog.godebug = none := by kernel_rfl

theorem wf_i32 {a : Int} (h : (Lit.int .i32 a).wf = true) : -2147483648 ≤ a ∧ a < 2147483648 := by
  simp [Lit.wf, IntKind.min, IntKind.max, IntKind.bits, IntKind.signed] at h; omega
theorem wf_u32 {a : Int} (h : (Lit.int .u32 a).wf = true) : 0 ≤ a ∧ a < 4294967296 := by
  simp [Lit.wf, IntKind.min, IntKind.max, IntKind.bits, IntKind.signed] at h; omega
theorem alive (w : World) : Calls Try.prog 15 #[] w fun e w' => e = .returned (.bool true) ∧ Below w.heap.size w w' := by
  have E1 : wI (-1) = 18444773748872577024 + (-1) % 4294967296 := wI_eq _
  have E2 : wB true = 18445336698825998339 := rfl
  have E3 := alive_right
  go_enter Try.func15, Try.ntmps15
  go_wp2_with (first | (go_at_call 9; refine (wInt_calls _ _ (by decide) (by decide)).mono ?_; rintro e w' ⟨rfl, rfl⟩) | (go_at_call 18; refine (wBool_calls _ _).mono ?_; rintro e w' ⟨rfl, rfl⟩) | (go_at_call 17; refine (rInt_calls _ _ (by decide) (by decide)).mono ?_; rintro e w' ⟨rfl, rfl⟩) | (go_at_call 16; refine (Right_calls _ _ ⟨by decide, by decide⟩).mono ?_; rintro e w1 ⟨rfl, hb1⟩))
  go_ret
  exact ⟨rfl, by assumption⟩
set_option maxRecDepth 100000 in
theorem walk (a0 : Int) (a1 : Int) (a2 : Bool) (w0 : (Lit.int .i32 a0).wf = true) (w1 : (Lit.int .u32 a1).wf = true) (w : World) :
    Calls Try.prog 3 #[.int .i32 a0, .int .u32 a1, .bool a2] w fun e w' => e = .returned (.bool true) ∧ Below w.heap.size w w' := by
  obtain ⟨h0, h1⟩ := wf_i32 w0
  obtain ⟨g0, g1⟩ := wf_u32 w1
  clear w0 w1
  have hI := wI_u64 a0
  have i1 := wI_tg a0
  have i2 := wI_pI h0 h1
  have i3 := wI_right a0
  have i4 : (wI a0 == 18444773748872577024 + a0 % 4294967296) = true := by rw [wI_eq]; exact beq_self_eq_true _
  obtain ⟨hO, o1, o2, o3, o4⟩ := tag_facts (t := 65530) (.inl rfl) g0 g1 (Go.bits .or .u64 18445055223849287680 a1) (wO_eq a1 g0 g1)
  obtain ⟨hT, t1, t2, t3, t4⟩ := tag_facts (t := 65532) (.inr rfl) g0 g1 (Go.bits .or .u64 18445618173802708992 a1) (wT_eq a1 g0 g1)
  have o5 := o4 65529 (by decide) (by decide) (by decide)
  have t5 := t4 65530 (by decide) (by decide) (by decide)
  clear o4 t4
  have EO : ∃ o, Go.bits .or .u64 18445055223849287680 a1 = o := ⟨_, rfl⟩
  have ET : ∃ t, Go.bits .or .u64 18445618173802708992 a1 = t := ⟨_, rfl⟩
  obtain ⟨o, EO⟩ := EO
  obtain ⟨t, ET⟩ := ET
  rw [EO] at hO o1 o2 o3 o5
  rw [ET] at hT t1 t2 t3 t5
  have b1 : (wB a2 == 18445336698825998339) = a2 := by cases a2 <;> rfl
  go_enter Try.func3, Try.ntmps3
  go_wp2_with (first | (go_at_call 9; refine (wInt_calls _ _ h0 h1).mono ?_; rintro e w' ⟨rfl, rfl⟩) | (go_at_call 10; refine (wObject_calls _ _ g0 g1).mono ?_; rintro e w' ⟨rfl, rfl⟩) | (go_at_call 11; refine (wText_calls _ _ g0 g1).mono ?_; rintro e w' ⟨rfl, rfl⟩) | (go_at_call 12; refine (IsInt_calls _ _).mono ?_; rintro e w' ⟨rfl, rfl⟩) | (go_at_call 13; refine (IsObject_calls _ _).mono ?_; rintro e w' ⟨rfl, rfl⟩) | (go_at_call 14; refine (IsText_calls _ _).mono ?_; rintro e w' ⟨rfl, rfl⟩) | (go_at_call 15; refine (alive _).mono ?_; rintro e w1 ⟨rfl, hb1⟩) | (go_at_call 16; refine (Right_calls _ _ (by assumption)).mono ?_; rintro e w2 ⟨rfl, hb2⟩) | (go_at_call 17; refine (rInt_calls _ _ h0 h1).mono ?_; rintro e w' ⟨rfl, rfl⟩) | (go_at_call 18; refine (wBool_calls _ _).mono ?_; rintro e w' ⟨rfl, rfl⟩) | (go_at_call 19; refine (rBool_calls _ _).mono ?_; rintro e w' ⟨rfl, rfl⟩))
  go_ret
  exact ⟨rfl, by repeat (first | exact Below.refl _ _ | apply below_alloc | refine below_via (by assumption) ?_)⟩
set_option maxRecDepth 100000 in
theorem lifted (os : Os) (started : os.Started) (H : Type) (enc : TypeId × Value → H) :
    ReturnsInHanded {} Try.checked os 3 .any (Rows.wordMakesSpec.pre6 enc Try.prog Try.f3 Rows.wordMakesRow.domain false) (Rows.wordMakesSpec.post enc Try.prog Try.f3 false true false false) := by
  refine returnsInHanded_of_change (C := Try.checked) own started (by kernel_rfl) Try.func3
    (ChangeSpec.witness6 (enc := enc) (C := Try.checked) false ⟨#[], #[.int .i32 0, .int .u32 0, .bool false], []⟩ 8 (by kernel_rfl) (by kernel_rfl) (by kernel_rfl) (by kernel_rfl)) ?_
  intro W base args ds gs before hval0 hW hcnd _
  have hval : ∀ (j : Nat) t v, Try.f3.params[j]? = some t → args[j]? = some v → Value.okWide Try.prog W .any base t v := hval0
  have hW' := hW
  obtain ⟨p, q, hA0, hV, rfl, hfz, hnd⟩ := hW
  have hA : DataW.TrodAll enc Try.prog W 0 (fun _ => true) true Try.f3.params.toList args.toList ds p := hA0
  rw [Try.params3] at hA hval
  obtain ⟨v0, vs0, d0, ds0, p0, q0, hargs, rfl, rfl, h0, r0⟩ := trodAll_cons hA
  obtain ⟨v1, vs1, d1, ds1, p1, q1, rfl, rfl, rfl, h1, r1⟩ := trodAll_cons r0
  obtain ⟨v2, vs2, d2, ds2, p2, q2, rfl, rfl, rfl, h2, r2⟩ := trodAll_cons r1
  obtain ⟨rfl, rfl, rfl⟩ := trodAll_nil r2
  obtain rfl : args = #[v0, v1, v2] := by cases args; simp_all
  obtain ⟨rfl, rfl⟩ := trodVars_none hV
  obtain ⟨a0, rfl, rfl, rfl, w0⟩ := open_int Try.underlying21 (hval 0 21 v0 rfl rfl) h0
  obtain ⟨a1, rfl, rfl, rfl, w1⟩ := open_int Try.underlying22 (hval 1 22 v1 rfl rfl) h1
  obtain ⟨a2, rfl, rfl, rfl⟩ := open_bool Try.underlying4 (hval 2 4 v2 rfl rfl) h2
  clear hA0 hval0
  simp only [List.append_nil] at hW'
  refine (walk a0 a1 a2 w0 w1 W).mono fun e W' ⟨he, bel⟩ => ?_
  subst he
  exact ⟨_, rfl, _, _, _, [], _, [], hW', (trodAll_cons_mk (shut_bool Try.underlying4 _) trodAll_mk0), (trodAll_cons_mk (shut_int Try.underlying21 w0) (trodAll_cons_mk (shut_int Try.underlying22 w1) (trodAll_cons_mk (shut_bool Try.underlying4 _) trodAll_mk0))), rfl, bel.frame _, fun h => by cases h⟩

set_option maxHeartbeats 0 in
theorem over : Rows.wordMakesRow.holds Try.pinned (OpenSpec.ofChange Rows.wordMakesSpec) :=
  OpenClaim.holds_of_wide 3 Try.f3 rfl rfl rfl rfl rfl rfl rfl ⟨rfl, rfl, rfl, rfl, rfl⟩ rfl rfl rfl rfl rfl (by as_aux_lemma => kernel_rfl) Try.func3 (by as_aux_lemma => kernel_rfl)
    (of_decide_eq_true (by as_aux_lemma => kernel_rfl)) (by as_aux_lemma => unfold Func.isWrapper; first | (rw [if_pos (by decide +kernel)]; kernel_rfl) | (rw [if_neg (by decide +kernel)]; exact ⟨rfl, rfl⟩))
    (fun os started H enc _ => lifted os started H enc)

theorem proved : Rows.WordMakesSaid :=
  over
#print axioms proved
end Go.Proofs.Ytebclfplejjloaa.wordMakes
namespace Go.Proofs.Ytebclfplejjloaa
theorem wordMakes_holds : Rows.WordMakesSaid := wordMakes.proved
end Go.Proofs.Ytebclfplejjloaa
