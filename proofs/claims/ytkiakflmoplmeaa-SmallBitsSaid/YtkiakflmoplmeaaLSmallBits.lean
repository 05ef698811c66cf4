/- For every int and every two uint64s the call of SmallBits returns true, and its arguments read as before; no condition. -/
import Derived.Test.YtkiakflmoplmeaaRows
import Derived.WalkKit
import Derived.ProofKit
import Derived.OpenShut
import Derived.Test.YtkiakflmoplmeaaUc
import Derived.Test.YtkiakflmoplmeaaHd
import Derived.Test.YtkiakflmoplmeaaRb
import Derived.Test.YtkiakflmoplmeaaTa
namespace Go.Proofs.Ytkiakflmoplmeaa.smallBits
open Go.ChangeShapes Go.WideShapes Go.ChangeAt Go.RowKit Fp
set_option linter.unusedSimpArgs false
set_option linter.unusedVariables false      -- a walk need not use every 'w<i>' (that an integer argument fits its kind)

theorem own : ownKnob Try.prog.godebug = none := by kernel_rfl

set_option maxRecDepth 100000 in
set_option maxHeartbeats 1000000 in
theorem walk (a0 : Int) (a1 : Int) (a2 : Int) (w0 : (Lit.int .i64 a0).wf = true) (w1 : (Lit.int .u64 a1).wf = true) (w2 : (Lit.int .u64 a2).wf = true) (w : World) :
    Calls Try.prog 7 #[.int .i64 a0, .int .u64 a1, .int .u64 a2] w fun e w' => e = .returned (.bool true) ∧ Below w.heap.size w w' := by
  have ha := wfU64 w1
  have hb := wfU64 w2
  clear w0 w1 w2
  by_cases h : a0 < 26 ∨ 31 < a0
  · clear ha hb
    rcases h with h | h
    all_goals go_enter Try.func7, Try.ntmps7
    all_goals go_wp2_with (first | (go_at_call 10; refine (alive04 _).mono ?_; rintro e w1 ⟨rfl, hb1⟩))
    all_goals go_ret
    all_goals exact ⟨rfl, by repeat (first | exact Below.refl _ _ | apply below_alloc | apply below_drewN | apply below_drew | refine below_via (by assumption) ?_)⟩
  · have h0 : 26 ≤ a0 := by omega
    have h1 : a0 ≤ 31 := by omega
    have NA := fun w => rNumber_calls a1 ha w
    have NB := fun w => rNumber_calls a2 hb w
    have I0 := fun w => rIntW 0 w (by decide) (by decide)
    have I31 := fun w => rIntW 31 w (by decide) (by decide)
    have ua := (num_facts ha).1
    have ub := (num_facts hb).1
    obtain ⟨x0, x1⟩ := I32_bd (canon a1)
    obtain ⟨y0, y1⟩ := I32_bd (canon a2)
    have S1 := fun w => Slow_calls a0 (NumberG a1) (NumberG a2) ua ub w
    have S2 := fun w => Slow_calls 30 (NumberG a1) (wI 0) ua (wI_u64 _) w
    have S3 := fun w => Slow_calls 30 (NumberG a2) (wI 0) ub (wI_u64 _) w
    have S4 := fun w => Slow_calls 29 (wI (I32 (canon a2))) (wI 31) (wI_u64 _) (wI_u64 _) w
    rw [slow_words ha hb h0 h1] at S1
    rw [slow_or ha] at S2
    rw [slow_or hb] at S3
    rw [slow_and31 y0 y1] at S4
    have hc := cnt_bd (I32 (canon a2))
    by_cases k : a0 ≤ 28
    · have S5 := fun w => Slow_calls a0 (wI (I32 (canon a1))) (wI ((cnt (I32 (canon a2)) : Nat) : Int)) (wI_u64 _) (wI_u64 _) w
      rw [slow_bits x0 x1 (by omega) (by omega) h0 h1, bitsI_cnt _ _ (by omega)] at S5
      clear h ha hb ua ub x0 x1 y0 y1 hc
      generalize NumberG (bitsI a0 (I32 (canon a1)) (I32 (canon a2))) = r at *
      generalize wI ((cnt (I32 (canon a2)) : Nat) : Int) = c at *
      generalize wI (I32 (canon a1)) = x at *
      generalize wI (I32 (canon a2)) = y at *
      generalize NumberG a1 = p at *
      generalize NumberG a2 = q at *
      generalize wI 0 = z at *
      generalize wI 31 = m at *
      replace NA := Lib.hid NA
      replace NB := Lib.hid NB
      replace I0 := Lib.hid I0
      replace I31 := Lib.hid I31
      replace S1 := Lib.hid S1
      replace S2 := Lib.hid S2
      replace S3 := Lib.hid S3
      replace S4 := Lib.hid S4
      replace S5 := Lib.hid S5
      go_enter Try.func7, Try.ntmps7
      go_wp2_with (first | (go_at_call 10; refine (alive04 _).mono ?_; rintro e w1 ⟨rfl, hb1⟩) | (go_at_call 15; with_reducible first | (refine (NA.out _).mono ?_; rintro e w' ⟨rfl, rfl⟩) | (refine (NB.out _).mono ?_; rintro e w' ⟨rfl, rfl⟩)) | (go_at_call 13; with_reducible first | (refine (I0.out _).mono ?_; rintro e w' ⟨rfl, rfl⟩) | (refine (I31.out _).mono ?_; rintro e w' ⟨rfl, rfl⟩)) | (go_at_call 12; with_reducible first | (refine (S1.out _).mono ?_; rintro e w1 ⟨rfl, hb1⟩) | (refine (S2.out _).mono ?_; rintro e w1 ⟨rfl, hb1⟩) | (refine (S3.out _).mono ?_; rintro e w1 ⟨rfl, hb1⟩) | (refine (S4.out _).mono ?_; rintro e w1 ⟨rfl, hb1⟩) | (refine (S5.out _).mono ?_; rintro e w1 ⟨rfl, hb1⟩)))
      all_goals go_ret
      all_goals exact ⟨rfl, by repeat (first | exact Below.refl _ _ | apply below_alloc | apply below_drewN | apply below_drew | refine below_via (by assumption) ?_)⟩
    · have S5 := fun w => Slow_calls a0 (wI (I32 (canon a1))) (wI (I32 (canon a2))) (wI_u64 _) (wI_u64 _) w
      rw [slow_bits x0 x1 y0 y1 h0 h1] at S5
      clear h ha hb ua ub x0 x1 y0 y1 hc S4
      generalize NumberG (bitsI a0 (I32 (canon a1)) (I32 (canon a2))) = r at *
      generalize wI (I32 (canon a1)) = x at *
      generalize wI (I32 (canon a2)) = y at *
      generalize NumberG a1 = p at *
      generalize NumberG a2 = q at *
      generalize wI 0 = z at *
      replace NA := Lib.hid NA
      replace NB := Lib.hid NB
      replace I0 := Lib.hid I0
      replace I31 := Lib.hid I31
      replace S1 := Lib.hid S1
      replace S2 := Lib.hid S2
      replace S3 := Lib.hid S3
      replace S5 := Lib.hid S5
      go_enter Try.func7, Try.ntmps7
      go_wp2_with (first | (go_at_call 10; refine (alive04 _).mono ?_; rintro e w1 ⟨rfl, hb1⟩) | (go_at_call 15; with_reducible first | (refine (NA.out _).mono ?_; rintro e w' ⟨rfl, rfl⟩) | (refine (NB.out _).mono ?_; rintro e w' ⟨rfl, rfl⟩)) | (go_at_call 13; with_reducible first | (refine (I0.out _).mono ?_; rintro e w' ⟨rfl, rfl⟩)) | (go_at_call 12; with_reducible first | (refine (S1.out _).mono ?_; rintro e w1 ⟨rfl, hb1⟩) | (refine (S2.out _).mono ?_; rintro e w1 ⟨rfl, hb1⟩) | (refine (S3.out _).mono ?_; rintro e w1 ⟨rfl, hb1⟩) | (refine (S5.out _).mono ?_; rintro e w1 ⟨rfl, hb1⟩)))
      all_goals go_ret
      all_goals exact ⟨rfl, by repeat (first | exact Below.refl _ _ | apply below_alloc | apply below_drewN | apply below_drew | refine below_via (by assumption) ?_)⟩
set_option maxRecDepth 100000 in
theorem lifted (os : Os) (started : os.Started) (H : Type) (enc : TypeId × Value → H) :
    ReturnsInHanded {} Try.checked os 7 .any (Rows.smallBitsSpec.pre6 enc Try.prog Try.f7 Rows.smallBitsRow.domain false) (Rows.smallBitsSpec.post enc Try.prog Try.f7 false true false false) := by
  refine returnsInHanded_of_change (C := Try.checked) own started (by kernel_rfl) Try.func7
    (ChangeSpec.witness6 (enc := enc) (C := Try.checked) false ⟨#[], #[.int .i64 0, .int .u64 0, .int .u64 0], []⟩ 8 (by kernel_rfl) (by kernel_rfl) (by kernel_rfl) (by kernel_rfl)) ?_
  intro W base args ds gs before hval0 hW hcnd _
  have hval : ∀ (j : Nat) t v, Try.f7.params[j]? = some t → args[j]? = some v → Value.okWide Try.prog W .any base t v := hval0
  have hW' := hW
  obtain ⟨p, q, hA0, hV, rfl, hfz, hnd⟩ := hW
  have hA : DataW.TrodAll enc Try.prog W 0 (fun _ => true) true Try.f7.params.toList args.toList ds p := hA0
  rw [Try.params7] at hA hval
  obtain ⟨v0, vs0, d0, ds0, p0, q0, hargs, rfl, rfl, h0, r0⟩ := trodAll_cons hA
  obtain ⟨v1, vs1, d1, ds1, p1, q1, rfl, rfl, rfl, h1, r1⟩ := trodAll_cons r0
  obtain ⟨v2, vs2, d2, ds2, p2, q2, rfl, rfl, rfl, h2, r2⟩ := trodAll_cons r1
  obtain ⟨rfl, rfl, rfl⟩ := trodAll_nil r2
  obtain rfl : args = #[v0, v1, v2] := by cases args; simp_all
  obtain ⟨rfl, rfl⟩ := trodVars_none hV
  obtain ⟨a0, rfl, rfl, rfl, w0⟩ := open_int Try.underlying3 (hval 0 3 v0 rfl rfl) h0
  obtain ⟨a1, rfl, rfl, rfl, w1⟩ := open_int Try.underlying22 (hval 1 22 v1 rfl rfl) h1
  obtain ⟨a2, rfl, rfl, rfl, w2⟩ := open_int Try.underlying22 (hval 2 22 v2 rfl rfl) h2
  clear hA0 hval0
  simp only [List.append_nil] at hW'
  refine (walk a0 a1 a2 w0 w1 w2 W).mono fun e W' ⟨he, bel⟩ => ?_
  subst he
  exact ⟨_, rfl, _, _, _, [], _, [], hW', (trodAll_cons_mk (shut_bool Try.underlying4 _) trodAll_mk0), (trodAll_cons_mk (shut_int Try.underlying3 w0) (trodAll_cons_mk (shut_int Try.underlying22 w1) (trodAll_cons_mk (shut_int Try.underlying22 w2) trodAll_mk0))), rfl, bel.frame _, fun h => by cases h⟩

set_option maxHeartbeats 0 in
theorem over : Rows.smallBitsRow.holds Try.pinned (OpenSpec.ofChange Rows.smallBitsSpec) :=
  OpenClaim.holds_of_wide 7 Try.f7 rfl rfl rfl rfl rfl rfl rfl ⟨rfl, rfl, rfl, rfl, rfl⟩ rfl rfl rfl rfl rfl (by as_aux_lemma => kernel_rfl) Try.func7 (by as_aux_lemma => kernel_rfl)
    (of_decide_eq_true (by as_aux_lemma => kernel_rfl)) (by as_aux_lemma => unfold Func.isWrapper; first | (rw [if_pos (by decide +kernel)]; kernel_rfl) | (rw [if_neg (by decide +kernel)]; exact ⟨rfl, rfl⟩))
    (fun os started H enc _ => lifted os started H enc)

theorem proved : Rows.SmallBitsSaid :=
  over
#print axioms proved
end Go.Proofs.Ytkiakflmoplmeaa.smallBits
namespace Go.Proofs.Ytkiakflmoplmeaa
theorem smallBits_holds : Rows.SmallBitsSaid := smallBits.proved
end Go.Proofs.Ytkiakflmoplmeaa
