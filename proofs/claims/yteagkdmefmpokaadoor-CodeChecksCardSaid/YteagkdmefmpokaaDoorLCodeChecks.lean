/- For every program the call of CodeChecks returns true, and its argument reads as before; the package-level table starts as the program's text lays it (the card ties it). -/
import Derived.Test.YteagkdmefmpokaaDoorEp
import Derived.Test.YteagkdmefmpokaaDoorCards
import Derived.Test.YteagkdmefmpokaaDoorTie
import Derived.ProofKit
import Derived.OpenShut
import Derived.Carry
import Derived.Deep.DeepHandedRow
import Derived.Lib.LaidTab
import Derived.JoinedOf
import Derived.SizedLaws
import Derived.JoinedCond
namespace Go.Proofs.YteagkdmefmpokaaDoor.codeChecks
open Go.ChangeShapes Go.WideShapes Go.ChangeAt Go.RowKit Go.Deep Go
set_option linter.unusedSimpArgs false
set_option linter.unusedVariables false
theorem last2 {a b : Prop} (x : a ∧ b) : b := x.2
set_option maxRecDepth 100000 in
set_option maxHeartbeats 4000000 in
theorem walk (w : World) (hT : Tab w) (A : Option Addr) (n c : Nat) (Fs : List Fn) (hP : PIs w A n Fs) : Calls Tryd.prog 3 #[pv A n c] w fun e w' => e = .returned (.bool true) ∧ Below w.heap.size w w' := by
  have B0 := Lib.hid (below_new w (.cells #[.slice A n c] 24))
  have HC := Lib.hid (fun (W : World) (b : Below (box1 w A n c).heap.size (box1 w A n c) W) => (⟨(box1_cell b).1, b⟩ : W.cell? ⟨w.heap.size, 0, none⟩ = some (.slice A n c) ∧ Below (box1 w A n c).heap.size (box1 w A n c) W))
  have BL := Lib.hid (Below.refl (box1 w A n c).heap.size (box1 w A n c))
  have KA := Lib.hid (fun (W : World) (b : Below (box1 w A n c).heap.size (box1 w A n c) W) => alive_calls W ((hT.later B0.out).later b))
  have KC := fun (W : World) (b : Below (box1 w A n c).heap.size (box1 w A n c) W) => check_calls W A n c Fs ((hT.later B0.out).later b) ((hP.later B0.out).later b)
  have KR := fun (W : World) (b : Below (box1 w A n c).heap.size (box1 w A n c) W) => rcheck_calls W A n c Fs ((hP.later B0.out).later b)
  generalize chkV (chk n Fs) = z at *
  have KC' := Lib.hid KC
  have KR' := Lib.hid KR
  have hz : (z == z) = true := by simp
  unfold pv
  clear KC KR hT hP
  go_enter Tryd.func3, Tryd.ntmps3
  go_wp2_with fail
  go_region_held3 (fun w' => w'.cell? ⟨w.heap.size, 0, none⟩ = some (.slice A n c) ∧ Below (box1 w A n c).heap.size (box1 w A n c) w') (first | exact HC.out _ (Below.drew BL.out) | exact HC.out _ (below_via (last2 (by assumption)) (by assumption)) | assumption) (first | (go_at_call 9; (with_reducible refine (KA.out _ (last2 (by assumption))).mono ?_); rintro r w1 ⟨rfl, hb1⟩) | (go_at_call 10; (with_reducible refine (KC'.out _ (last2 (by assumption))).mono ?_); rintro r w2 ⟨rfl, hb2⟩) | (go_at_call 11; (with_reducible refine (KR'.out _ (last2 (by assumption))).mono ?_); rintro r w3 ⟨rfl, hb3⟩))
  go_wp2_with fail
  go_ret
  exact ⟨rfl, below_via B0.out (last2 (by assumption))⟩
theorem call {H : Type} {enc : TypeId × Value → H} {W : World} {base : Nat} {v0 : Value} {d0 : DataW H} {p0 : List MemPlace}
    (hL : Tab W) (o0 : Value.okWide Tryd.prog W .any base 24 v0) (h0 : DataW.Trod enc Tryd.prog W 0 (fun _ => true) true 24 v0 d0 p0) (z0 : ∀ n ∈ d0.weights Tryd.prog 24, n ≤ reachBytes) :
    Calls Tryd.prog 3 #[v0] W fun e w' => e = .returned (.bool true) ∧ Below W.heap.size W w' := by
  obtain ⟨A, n, c, Fs, rfl, hP, _, _, _⟩ := open_prog o0 h0 z0
  exact walk W hL A n c Fs hP
theorem own : ownKnob Tryd.prog.godebug = none := by kernel_rfl
theorem laidOut : laidOutB Tryd.prog = true := by kernel_rfl
set_option maxHeartbeats 0 in
/-- what the walk gives. -/
theorem contract (H : Type) (enc : TypeId × Value → H) (W : World) (base : Nat) (args : Array Value) (ds gs : List (DataW H)) (before : List MemPlace)
    (hval : ∀ (j : Nat) t v, Tryd.f3.params[j]? = some t → args[j]? = some v → Value.okWide Tryd.prog W .any base t v)
    (hW : DataW.Whole enc Tryd.prog Tryd.f3.params.toList Rows.codeChecksSpec.vars false W args.toList ds gs before)
    (hsz : (DataW.weightsEach Tryd.prog (Tryd.f3.params.toList ++ Rows.codeChecksSpec.plain.varTypes Tryd.prog) (ds ++ gs)).all (· ≤ reachBytes) = true) (hL : laidMetH Tryd.prog Rows.codeChecksRow.laid W) :
    Calls Tryd.prog 3 args W fun e W' => ∃ v, e = .returned v ∧ Rows.codeChecksSpec.post enc Tryd.prog Tryd.f3 false true false false W args v W' := by
  have hW' := hW
  obtain ⟨p, q, hA0, hV, rfl, hfz, hnd⟩ := hW
  have hA : DataW.TrodAll enc Tryd.prog W 0 (fun _ => true) true Tryd.f3.params.toList args.toList ds p := hA0
  rw [Tryd.params3] at hA hval hsz
  obtain ⟨v0, vs0, d0, ds0, p0, q0, hargs, rfl, rfl, h0, r0⟩ := trodAll_cons hA
  obtain ⟨rfl, rfl, rfl⟩ := trodAll_nil r0
  obtain rfl : args = #[v0] := by cases args; simp_all
  obtain ⟨rfl, rfl⟩ := trodVars_none hV
  clear hA0
  simp only [List.append_nil] at hW'
  have lt0 : ∀ x ∈ p0, x.block < W.heap.size := fun x hx => hW'.lt x (by simp [hx])
  refine (call (tab_of hL) (hval 0 24 v0 rfl rfl) h0 (fun n hn => by have := List.all_eq_true.1 hsz n (DataW.weights_mem_each (j := 0) (t := 24) rfl rfl n hn); simpa using this)).mono fun e W' ⟨he, bel⟩ => ?_
  subst he
  exact ⟨_, rfl, _, _, _, [], _, [], hW', (trodAll_cons_mk (shut_bool Tryd.underlying4 _) trodAll_mk0), (trodAll_cons_mk (Below.trod laidOut (by kernel_rfl) (of_decide_eq_true (by kernel_rfl)) h0 bel lt0) trodAll_mk0), rfl, bel.frame _, fun h => by cases h⟩
theorem laid_met (os : Os) : laidMet Tryd.prog Rows.codeChecksRow.laid ((laidWorld os).forCall (fun _ _ => 0) ⟨#[], #[.agg #[.slice none 0 0]], []⟩).memory :=
  laidMet_of_run' 8 (by kernel_rfl) (by kernel_rfl)
theorem reads (os : Os) {H : Type} (enc : TypeId × Value → H) : ∃ places, DataW.whole enc Tryd.prog ((laidWorld os).forCall (fun _ _ => 0) ⟨#[], #[.agg #[.slice none 0 0]], []⟩).memory Tryd.f3.params.toList Rows.codeChecksSpec.vars false #[.agg #[.slice none 0 0]].toList 8 = some ([.agg [.nil]], [], places) :=
  ⟨[], by kernel_rfl⟩
set_option maxRecDepth 100000 in
theorem lifted (os : Os) (started : os.Started) (H : Type) (enc : TypeId × Value → H) (F : Stop.Interp) :
    ReturnsInHanded {} Tryd.checked os 3 .any ((OpenSpec.ofChange Rows.codeChecksSpec).preRow enc Tryd.prog Tryd.f3 Rows.codeChecksRow.domain false Rows.codeChecksRow.laid) (((OpenSpec.ofChange Rows.codeChecksSpec).at F).post enc Tryd.prog Tryd.f3 false true false false) := by
  obtain ⟨places, hx⟩ := reads os enc
  refine returnsInHanded_of_row (C := Tryd.checked) (s := OpenSpec.ofChange Rows.codeChecksSpec) own started (by kernel_rfl) Tryd.func3
    (witness_row_at (enc := enc) (C := Tryd.checked) false (laidWorld os) #[.agg #[.slice none 0 0]] rfl (by kernel_rfl) (by kernel_rfl) (by kernel_rfl)
      (OpenSpec.preRow_of_cond 8 hx (by kernel_rfl) (fun k hk => by cases hk) (by kernel_rfl) (laid_met os))) ?_
  intro W base args ds gs before hval hW _ hcond hsz hL _ _
  exact contract H enc W base args ds gs before hval hW hsz hL
set_option maxHeartbeats 0 in
theorem over : Rows.codeChecksRow.holds Tryd.pinned (OpenSpec.ofChange Rows.codeChecksSpec) :=
  OpenClaim.holds_of_cond 3 Tryd.f3 rfl rfl rfl rfl rfl rfl rfl ⟨rfl, rfl, rfl, rfl, rfl⟩ rfl rfl rfl rfl rfl (by as_aux_lemma => kernel_rfl) Tryd.func3 (by as_aux_lemma => kernel_rfl)
    (of_decide_eq_true (by as_aux_lemma => kernel_rfl)) (by as_aux_lemma => unfold Func.isWrapper; first | (rw [if_pos (by decide +kernel)]; kernel_rfl) | (rw [if_neg (by decide +kernel)]; exact ⟨rfl, rfl⟩))
    (fun os started H enc _ F => by rw [OpenClaim.pre_eq_preRow]; exact lifted os started H enc F)
theorem plain (f : FuncId) (fn : Func) (hf : Tryd.pinned.checked.prog.funcNamed "brazier/brazierlaw08.CodeChecks" = some f) (hfn : Tryd.pinned.checked.prog.funcs[f]? = some fn) :
    false = Tryd.pinned.checked.prog.looks [] ∧ ∀ (j : Nat) t, fn.params[j]? = some t → Tryd.pinned.checked.prog.wantsStandIn t = false := by
  obtain rfl : f = 3 := Option.some.inj ((show Tryd.prog.funcNamed "brazier/brazierlaw08.CodeChecks" = some 3 by kernel_rfl).symm.trans hf) |>.symm
  obtain rfl : fn = Tryd.f3 := (Option.some.inj (Tryd.func3.symm.trans hfn)).symm
  refine ⟨by kernel_rfl, fun j t ht => ?_⟩
  rw [Tryd.params3] at ht
  have hm : t = 24 := by simpa using Array.mem_of_getElem? ht
  subst hm
  exact (show Tryd.prog.wantsStandIn 24 = false by kernel_rfl)
theorem proved : Rows.CodeChecksCardSaid :=
  Claim7.holds_tied_plain_at .later [] _ _ _ _ over (fun _ h => by cases h) (by kernel_rfl) (fun _ h => by cases h) codeChecks_row_tie rfl ⟨rfl, rfl⟩ (by kernel_rfl) rfl plain (by kernel_rfl)
#print axioms proved
end Go.Proofs.YteagkdmefmpokaaDoor.codeChecks
namespace Go.Proofs.YteagkdmefmpokaaDoor
theorem codeChecks_holds : Rows.CodeChecksCardSaid := codeChecks.proved
end Go.Proofs.YteagkdmefmpokaaDoor
