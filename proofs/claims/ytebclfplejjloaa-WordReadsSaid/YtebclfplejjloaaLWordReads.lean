/- For every uint64 the call of WordReads returns true, and its argument reads as before; no condition. -/
import Derived.Test.YtebclfplejjloaaRows
import Derived.WalkKit
import Derived.ProofKit
import Derived.OpenShut
import Derived.Test.YtebclfplejjloaaRc
import Derived.Test.YtebclfplejjloaaAlive03
namespace Go.Proofs.Ytebclfplejjloaa.wordReads
open Go.ChangeShapes Go.WideShapes Go.ChangeAt Go.RowKit Fp
set_option linter.unusedSimpArgs false
set_option linter.unusedVariables false      -- a walk need not use every 'w<i>' (that an integer argument fits its kind)

theorem own : ownKnob Try.prog.godebug = none := by kernel_rfl

theorem payload_eq {a : Int} (h : tg a 65529 = true → tP a = a % 4294967296) (hi : isT a 65529 = tg a 65529) : (pI a 65529 == wrap32 (isTP a 65529)) = true := by
  rw [beq_iff_eq]
  unfold pI isTP
  rw [hi]
  cases ht : tg a 65529
  · rw [if_neg (by decide), if_neg (by decide)]; unfold wrap32; omega
  · rw [if_pos rfl, if_pos rfl, h ht]
theorem payloadU_eq {a t : Int} (h : tg a t = true → tP a = a % 4294967296) (hi : isT a t = tg a t) : (pU a t == isTP a t) = true := by
  rw [beq_iff_eq]
  unfold pU isTP
  rw [hi]
  cases ht : tg a t
  · rw [if_neg (by decide), if_neg (by decide)]
  · rw [if_pos rfl, if_pos rfl, h ht]
set_option maxRecDepth 100000 in
theorem walk (a0 : Int) (w0 : (Lit.int .u64 a0).wf = true) (w : World) :
    Calls Try.prog 8 #[.int .u64 a0] w fun e w' => e = .returned (.bool true) ∧ Below w.heap.size w w' := by
  have ha := wf_u64 w0
  clear w0
  obtain ⟨p0, p1⟩ := pI_bd a0 65529
  obtain ⟨i1, j1⟩ := isT_eq (t := 65529) ha (.inl rfl)
  obtain ⟨i2, j2⟩ := isT_eq (t := 65530) ha (.inr (.inl rfl))
  obtain ⟨i3, j3⟩ := isT_eq (t := 65532) ha (.inr (.inr rfl))
  have k1 := payload_eq j1 i1
  have k2 := payloadU_eq j2 i2
  have k3 := payloadU_eq j3 i3
  have BA := fun w => Bits_calls a0 w ha p0 p1
  have RB := fun w => rBits_calls a0 ha w
  have I1 := fun w => rIsTag_calls a0 65529 ha w
  have I2 := fun w => rIsTag_calls a0 65530 ha w
  have I3 := fun w => rIsTag_calls a0 65532 ha w
  have R1 := fun w => Right_calls a0 w ha
  have R2 := fun w => rRight_calls a0 ha w
  have M1 := fun w => IsInt_calls a0 w
  have M2 := fun w => IsObject_calls a0 w
  have M3 := fun w => IsText_calls a0 w
  rw [i1] at I1
  rw [i2] at I2
  rw [i3] at I3
  clear i1 i2 i3 j1 j2 j3 p0 p1
  generalize tg a0 65529 = t1 at *
  generalize tg a0 65530 = t2 at *
  generalize tg a0 65532 = t3 at *
  generalize (BitsG a0).1 = x at *
  generalize (BitsG a0).2 = b at *
  generalize RightG a0 = r at *
  generalize pI a0 65529 = n1 at *
  generalize isTP a0 65529 = m1 at *
  generalize pU a0 65530 = n2 at *
  generalize isTP a0 65530 = m2 at *
  generalize pU a0 65532 = n3 at *
  generalize isTP a0 65532 = m3 at *
  obtain rfl := beq_iff_eq.mp k2
  obtain rfl := beq_iff_eq.mp k3
  obtain rfl := beq_iff_eq.mp k1
  clear k1 k2 k3
  have HA := Lib.hid BA; clear BA
  have HB := Lib.hid RB; clear RB
  have H1 := Lib.hid I1; clear I1
  have H2 := Lib.hid I2; clear I2
  have H3 := Lib.hid I3; clear I3
  have HR := Lib.hid R1; clear R1
  have HS := Lib.hid R2; clear R2
  have J1 := Lib.hid M1; clear M1
  have J2 := Lib.hid M2; clear M2
  have J3 := Lib.hid M3; clear M3
  go_enter Try.func8, Try.ntmps8
  go_wp2_with (first | (go_at_call 15; refine (alive03 _).mono ?_; rintro e w1 ⟨rfl, hb1⟩) | (go_at_call 20; refine (HA.out _).mono ?_; rintro e w1 ⟨rfl, hb1⟩) | (go_at_call 22; refine (HB.out _).mono ?_; rintro e w' ⟨rfl, rfl⟩) | (go_at_call 16; refine (HR.out _).mono ?_; rintro e w1 ⟨rfl, hb1⟩) | (go_at_call 25; refine (HS.out _).mono ?_; rintro e w' ⟨rfl, rfl⟩) | (go_at_call 12; refine (J1.out _).mono ?_; rintro e w' ⟨rfl, rfl⟩) | (go_at_call 13; refine (J2.out _).mono ?_; rintro e w' ⟨rfl, rfl⟩) | (go_at_call 14; refine (J3.out _).mono ?_; rintro e w' ⟨rfl, rfl⟩) | (go_at_call 24; with_reducible first | (refine (H1.out _).mono ?_; rintro e w' ⟨rfl, rfl⟩) | (refine (H2.out _).mono ?_; rintro e w' ⟨rfl, rfl⟩) | (refine (H3.out _).mono ?_; rintro e w' ⟨rfl, rfl⟩)))
  all_goals go_ret
  all_goals exact ⟨rfl, by repeat (first | exact Below.refl _ _ | apply below_alloc | refine below_via (by assumption) ?_)⟩
set_option maxRecDepth 100000 in
theorem lifted (os : Os) (started : os.Started) (H : Type) (enc : TypeId × Value → H) :
    ReturnsInHanded {} Try.checked os 8 .any (Rows.wordReadsSpec.pre6 enc Try.prog Try.f8 Rows.wordReadsRow.domain false) (Rows.wordReadsSpec.post enc Try.prog Try.f8 false true false false) := by
  refine returnsInHanded_of_change (C := Try.checked) own started (by kernel_rfl) Try.func8
    (ChangeSpec.witness6 (enc := enc) (C := Try.checked) false ⟨#[], #[.int .u64 0], []⟩ 8 (by kernel_rfl) (by kernel_rfl) (by kernel_rfl) (by kernel_rfl)) ?_
  intro W base args ds gs before hval0 hW hcnd _
  have hval : ∀ (j : Nat) t v, Try.f8.params[j]? = some t → args[j]? = some v → Value.okWide Try.prog W .any base t v := hval0
  have hW' := hW
  obtain ⟨p, q, hA0, hV, rfl, hfz, hnd⟩ := hW
  have hA : DataW.TrodAll enc Try.prog W 0 (fun _ => true) true Try.f8.params.toList args.toList ds p := hA0
  rw [Try.params8] at hA hval
  obtain ⟨v0, vs0, d0, ds0, p0, q0, hargs, rfl, rfl, h0, r0⟩ := trodAll_cons hA
  obtain ⟨rfl, rfl, rfl⟩ := trodAll_nil r0
  obtain rfl : args = #[v0] := by cases args; simp_all
  obtain ⟨rfl, rfl⟩ := trodVars_none hV
  obtain ⟨a0, rfl, rfl, rfl, w0⟩ := open_int Try.underlying24 (hval 0 24 v0 rfl rfl) h0
  clear hA0 hval0
  simp only [List.append_nil] at hW'
  refine (walk a0 w0 W).mono fun e W' ⟨he, bel⟩ => ?_
  subst he
  exact ⟨_, rfl, _, _, _, [], _, [], hW', (trodAll_cons_mk (shut_bool Try.underlying4 _) trodAll_mk0), (trodAll_cons_mk (shut_int Try.underlying24 w0) trodAll_mk0), rfl, bel.frame _, fun h => by cases h⟩

set_option maxHeartbeats 0 in
theorem over : Rows.wordReadsRow.holds Try.pinned (OpenSpec.ofChange Rows.wordReadsSpec) :=
  OpenClaim.holds_of_wide 8 Try.f8 rfl rfl rfl rfl rfl rfl rfl ⟨rfl, rfl, rfl, rfl, rfl⟩ rfl rfl rfl rfl rfl (by as_aux_lemma => kernel_rfl) Try.func8 (by as_aux_lemma => kernel_rfl)
    (of_decide_eq_true (by as_aux_lemma => kernel_rfl)) (by as_aux_lemma => unfold Func.isWrapper; first | (rw [if_pos (by decide +kernel)]; kernel_rfl) | (rw [if_neg (by decide +kernel)]; exact ⟨rfl, rfl⟩))
    (fun os started H enc _ => lifted os started H enc)

theorem proved : Rows.WordReadsSaid :=
  over
#print axioms proved
end Go.Proofs.Ytebclfplejjloaa.wordReads
namespace Go.Proofs.Ytebclfplejjloaa
theorem wordReads_holds : Rows.WordReadsSaid := wordReads.proved
end Go.Proofs.Ytebclfplejjloaa
