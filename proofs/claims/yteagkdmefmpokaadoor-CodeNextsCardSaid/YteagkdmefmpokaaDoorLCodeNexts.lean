/- For every function and every place the call of CodeNexts returns true, and its arguments read as before; the package-level table starts as the program's text lays it (the card ties it). -/
import Derived.Test.YteagkdmefmpokaaDoorEp
import Derived.Test.YteagkdmefmpokaaDoorCards
import Derived.Test.YteagkdmefmpokaaDoorTie
import Derived.ProofKit
import Derived.OpenShut
import Derived.Carry
import Derived.Deep.DeepHandedRow
import Derived.Lib.LaidTab
import Derived.JoinedOf
import Derived.SizedLaws
import Derived.JoinedCond
namespace Go.Proofs.YteagkdmefmpokaaDoor.codeNexts
open Go.ChangeShapes Go.WideShapes Go.ChangeAt Go.RowKit Go.Deep Go
set_option linter.unusedSimpArgs false
set_option linter.unusedVariables false
theorem last9 {a b c d e f g h i : Prop} (x : a ∧ b ∧ c ∧ d ∧ e ∧ f ∧ g ∧ h ∧ i) : i := x.2.2.2.2.2.2.2.2
def RdF (g : Nat) (h : Hd) (W1 w : World) : Prop :=
  w.cell? ⟨g, 0, none⟩ = some (.string h.nm) ∧ w.cell? ⟨g, 1, none⟩ = some (.int .i64 h.pa) ∧ w.cell? ⟨g, 2, none⟩ = some (.int .i64 h.re) ∧ w.cell? ⟨g, 3, none⟩ = some (.bool h.ge) ∧ w.cell? ⟨g, 4, none⟩ = some (.slice h.Ac h.nc h.cc) ∧ w.cell? ⟨g, 5, none⟩ = some (.slice h.Ak h.nk h.ck) ∧ w.cell? ⟨g, 6, none⟩ = some (.slice h.Ap h.np h.cp) ∧ w.cell? ⟨g, 7, none⟩ = some (.slice h.Ah h.nh h.ch) ∧ Below W1.heap.size W1 w
theorem rdF_of {w wr : World} {h : Hd} (b : Below (h.box w).heap.size (h.box w) wr) : RdF w.heap.size h (h.box w) wr := by
  obtain ⟨i0, i1, i2, i3, i4, i5, i6, i7, _⟩ := Hd.eight (h.all b)
  exact ⟨i0, i1, i2, i3, i4, i5, i6, i7, b⟩
set_option maxRecDepth 100000 in
set_option maxHeartbeats 8000000 in
theorem walk (w : World) (hT : Tab w) (F : Fn) (hF : F.Is w) (x : Int) : Calls Tryd.prog 7 #[F.hd.v, .int .i64 x] w fun e w' => e = .returned (.bool true) ∧ Below w.heap.size w w' := by
  have B0 := Lib.hid (below_new w (.cells F.hd.b 36))
  have HC := Lib.hid (fun (W : World) (b : Below (F.hd.box w).heap.size (F.hd.box w) W) => rdF_of b)
  have BL := Lib.hid (Below.refl (F.hd.box w).heap.size (F.hd.box w))
  have KA := Lib.hid (fun (W : World) (b : Below (F.hd.box w).heap.size (F.hd.box w) W) => alive_calls W ((hT.later B0.out).later b))
  have KN := fun (W : World) (b : Below (F.hd.box w).heap.size (F.hd.box w) W) => next_calls W F.hd F.C F.T ((hF.later B0.out).later b).his x
  have KR := fun (W : World) (b : Below (F.hd.box w).heap.size (F.hd.box w) W) => rnext_calls W F.hd F.C F.T ((hF.later B0.out).later b).his x
  have KS := fun (W : World) (b : Below (F.hd.box w).heap.size (F.hd.box w) W) => starts2_calls W F.hd F.C F.T ((hF.later B0.out).later b).his
  have KT := fun (W : World) (b : Below (F.hd.box w).heap.size (F.hd.box w) W) => rstarts2_calls W F.hd F.C F.T ((hF.later B0.out).later b).his
  have hnc := hF.his.nc
  have hnh := hF.his.nh
  generalize nxt F.hd.nc F.C F.T x = X at *
  unfold Hd.v at *
  have KN' := Lib.hid KN
  have KR' := Lib.hid KR
  have KS' := Lib.hid KS
  have KT' := Lib.hid KT
  clear KN KR KS KT hT hF
  go_enter Tryd.func7, Tryd.ntmps7
  go_wp2_with fail
  go_region_held3 (fun w' => w'.cell? ⟨w.heap.size, 0, none⟩ = some (.string F.hd.nm) ∧ w'.cell? ⟨w.heap.size, 1, none⟩ = some (.int .i64 F.hd.pa) ∧ w'.cell? ⟨w.heap.size, 2, none⟩ = some (.int .i64 F.hd.re) ∧ w'.cell? ⟨w.heap.size, 3, none⟩ = some (.bool F.hd.ge) ∧ w'.cell? ⟨w.heap.size, 4, none⟩ = some (.slice F.hd.Ac F.hd.nc F.hd.cc) ∧ w'.cell? ⟨w.heap.size, 5, none⟩ = some (.slice F.hd.Ak F.hd.nk F.hd.ck) ∧ w'.cell? ⟨w.heap.size, 6, none⟩ = some (.slice F.hd.Ap F.hd.np F.hd.cp) ∧ w'.cell? ⟨w.heap.size, 7, none⟩ = some (.slice F.hd.Ah F.hd.nh F.hd.ch) ∧ Below (F.hd.box w).heap.size (F.hd.box w) w') (first | exact HC.out _ (Below.drew BL.out) | exact HC.out _ (below_via (last9 (by assumption)) hb7) | exact HC.out _ (below_via (last9 (by assumption)) hb6) | exact HC.out _ (below_via (last9 (by assumption)) hb5) | exact HC.out _ (below_via (last9 (by assumption)) hb4) | exact HC.out _ (below_via (last9 (by assumption)) hb3) | exact HC.out _ (below_via (last9 (by assumption)) hb2) | exact HC.out _ (below_via (last9 (by assumption)) hb1)) (first | (go_at_call 9; (with_reducible refine (KA.out _ (last9 (by assumption))).mono ?_); rintro r w1 ⟨rfl, hb1⟩) | (go_at_call 14; (with_reducible refine (KN'.out _ (last9 (by assumption))).mono ?_); rintro r w2 ⟨A2, n2, q2, L2, rfl, hr2, ⟨hm2, hs2⟩, hn2, hb2⟩) | (go_at_call 16; (with_reducible refine (KR'.out _ (last9 (by assumption))).mono ?_); rintro r w3 ⟨A3, n3, q3, L3, rfl, hr3, ⟨hm3, hs3⟩, hn3, hb3⟩; obtain rfl := strict_ext hs3 hs2 (fun y => (hm3 y).trans (hm2 y).symm)) | (go_at_call 15; (with_reducible refine (ints_calls _ A2 A3 n2 q2 n3 q3 L3 ((hr2.below hb3).more hb3.size) hr3 (by omega)).mono ?_); rintro r w4 ⟨rfl, hb4⟩) | (go_at_call 17; (with_reducible refine (KS'.out _ (last9 (by assumption))).mono ?_); rintro r w5 ⟨A5, n5, q5, L5, rfl, hr5, ⟨hm5, hs5⟩, hn5, hb5⟩) | (go_at_call 18; (with_reducible refine (KT'.out _ (last9 (by assumption))).mono ?_); rintro r w6 ⟨A6, n6, q6, L6, rfl, hr6, ⟨hm6, hs6⟩, hn6, hb6⟩; obtain rfl := strict_ext hs6 hs5 (fun y => (hm6 y).trans (hm5 y).symm)) | (go_at_call 15; (with_reducible refine (ints_calls _ A5 A6 n5 q5 n6 q6 L6 ((hr5.below hb6).more hb6.size) hr6 (by omega)).mono ?_); rintro r w7 ⟨rfl, hb7⟩))
  go_wp2_with fail
  go_ret
  exact ⟨rfl, below_via B0.out (last9 (by assumption))⟩
theorem call {H : Type} {enc : TypeId × Value → H} {W : World} {base : Nat} {v0 : Value} {d0 : DataW H} {p0 : List MemPlace} {v1 : Value} {d1 : DataW H} {p1 : List MemPlace}
    (hL : Tab W) (o0 : Value.okWide Tryd.prog W .any base 36 v0) (h0 : DataW.Trod enc Tryd.prog W 0 (fun _ => true) true 36 v0 d0 p0) (o1 : Value.okWide Tryd.prog W .any base 3 v1) (h1 : DataW.Trod enc Tryd.prog W 0 (fun _ => true) true 3 v1 d1 p1) (z0 : ∀ n ∈ d0.weights Tryd.prog 36, n ≤ reachBytes) (z1 : ∀ n ∈ d1.weights Tryd.prog 3, n ≤ reachBytes) :
    Calls Tryd.prog 7 #[v0, v1] W fun e w' => e = .returned (.bool true) ∧ Below W.heap.size W w' := by
  obtain ⟨F, rfl, hq⟩ := open_func o0 h0 z0
  obtain ⟨fuel, h'⟩ := h1
  obtain ⟨x, hx, _, hxw⟩ := DataW.trod_int Tryd.underlying3 h'
  have hxx : v1 = .int .i64 x := by
    obtain ⟨y, rfl⟩ := okWide_int Tryd.underlying3 o1
    simpa [Value.cells] using hx
  subst hxx
  exact walk W hL F hq.1 x
theorem own : ownKnob Tryd.prog.godebug = none := by kernel_rfl
theorem laidOut : laidOutB Tryd.prog = true := by kernel_rfl
set_option maxHeartbeats 0 in
/-- what the walk gives. -/
theorem contract (H : Type) (enc : TypeId × Value → H) (W : World) (base : Nat) (args : Array Value) (ds gs : List (DataW H)) (before : List MemPlace)
    (hval : ∀ (j : Nat) t v, Tryd.f7.params[j]? = some t → args[j]? = some v → Value.okWide Tryd.prog W .any base t v)
    (hW : DataW.Whole enc Tryd.prog Tryd.f7.params.toList Rows.codeNextsSpec.vars false W args.toList ds gs before)
    (hsz : (DataW.weightsEach Tryd.prog (Tryd.f7.params.toList ++ Rows.codeNextsSpec.plain.varTypes Tryd.prog) (ds ++ gs)).all (· ≤ reachBytes) = true) (hL : laidMetH Tryd.prog Rows.codeNextsRow.laid W) :
    Calls Tryd.prog 7 args W fun e W' => ∃ v, e = .returned v ∧ Rows.codeNextsSpec.post enc Tryd.prog Tryd.f7 false true false false W args v W' := by
  have hW' := hW
  obtain ⟨p, q, hA0, hV, rfl, hfz, hnd⟩ := hW
  have hA : DataW.TrodAll enc Tryd.prog W 0 (fun _ => true) true Tryd.f7.params.toList args.toList ds p := hA0
  rw [Tryd.params7] at hA hval hsz
  obtain ⟨v0, vs0, d0, ds0, p0, q0, hargs, rfl, rfl, h0, r0⟩ := trodAll_cons hA
  obtain ⟨v1, vs1, d1, ds1, p1, q1, rfl, rfl, rfl, h1, r1⟩ := trodAll_cons r0
  obtain ⟨rfl, rfl, rfl⟩ := trodAll_nil r1
  obtain rfl : args = #[v0, v1] := by cases args; simp_all
  obtain ⟨rfl, rfl⟩ := trodVars_none hV
  clear hA0
  simp only [List.append_nil] at hW'
  have lt0 : ∀ x ∈ p0, x.block < W.heap.size := fun x hx => hW'.lt x (by simp [hx])
  have lt1 : ∀ x ∈ p1, x.block < W.heap.size := fun x hx => hW'.lt x (by simp [hx])
  refine (call (tab_of hL) (hval 0 36 v0 rfl rfl) h0 (hval 1 3 v1 rfl rfl) h1 (fun n hn => by have := List.all_eq_true.1 hsz n (DataW.weights_mem_each (j := 0) (t := 36) rfl rfl n hn); simpa using this) (fun n hn => by have := List.all_eq_true.1 hsz n (DataW.weights_mem_each (j := 1) (t := 3) rfl rfl n hn); simpa using this)).mono fun e W' ⟨he, bel⟩ => ?_
  subst he
  exact ⟨_, rfl, _, _, _, [], _, [], hW', (trodAll_cons_mk (shut_bool Tryd.underlying4 _) trodAll_mk0), (trodAll_cons_mk (Below.trod laidOut (by kernel_rfl) (of_decide_eq_true (by kernel_rfl)) h0 bel lt0) (trodAll_cons_mk (Below.trod laidOut (by kernel_rfl) (of_decide_eq_true (by kernel_rfl)) h1 bel lt1) trodAll_mk0)), rfl, bel.frame _, fun h => by cases h⟩
theorem laid_met (os : Os) : laidMet Tryd.prog Rows.codeNextsRow.laid ((laidWorld os).forCall (fun _ _ => 0) ⟨#[], #[.agg #[.string ⟨#[]⟩, .int .i64 0, .int .i64 0, .bool false, .slice none 0 0, .slice none 0 0, .slice none 0 0, .slice none 0 0], .int .i64 0], []⟩).memory :=
  laidMet_of_run' 8 (by kernel_rfl) (by kernel_rfl)
theorem reads (os : Os) {H : Type} (enc : TypeId × Value → H) : ∃ places, DataW.whole enc Tryd.prog ((laidWorld os).forCall (fun _ _ => 0) ⟨#[], #[.agg #[.string ⟨#[]⟩, .int .i64 0, .int .i64 0, .bool false, .slice none 0 0, .slice none 0 0, .slice none 0 0, .slice none 0 0], .int .i64 0], []⟩).memory Tryd.f7.params.toList Rows.codeNextsSpec.vars false #[.agg #[.string ⟨#[]⟩, .int .i64 0, .int .i64 0, .bool false, .slice none 0 0, .slice none 0 0, .slice none 0 0, .slice none 0 0], .int .i64 0].toList 8 = some ([.agg [.lit (.string []), .lit (.int .i64 0), .lit (.int .i64 0), .lit (.bool false), .nil, .nil, .nil, .nil], .lit (.int .i64 0)], [], places) :=
  ⟨[], by kernel_rfl⟩
set_option maxRecDepth 100000 in
theorem lifted (os : Os) (started : os.Started) (H : Type) (enc : TypeId × Value → H) (F : Stop.Interp) :
    ReturnsInHanded {} Tryd.checked os 7 .any ((OpenSpec.ofChange Rows.codeNextsSpec).preRow enc Tryd.prog Tryd.f7 Rows.codeNextsRow.domain false Rows.codeNextsRow.laid) (((OpenSpec.ofChange Rows.codeNextsSpec).at F).post enc Tryd.prog Tryd.f7 false true false false) := by
  obtain ⟨places, hx⟩ := reads os enc
  refine returnsInHanded_of_row (C := Tryd.checked) (s := OpenSpec.ofChange Rows.codeNextsSpec) own started (by kernel_rfl) Tryd.func7
    (witness_row_at (enc := enc) (C := Tryd.checked) false (laidWorld os) #[.agg #[.string ⟨#[]⟩, .int .i64 0, .int .i64 0, .bool false, .slice none 0 0, .slice none 0 0, .slice none 0 0, .slice none 0 0], .int .i64 0] rfl (by kernel_rfl) (by kernel_rfl) (by kernel_rfl)
      (OpenSpec.preRow_of_cond 8 hx (by kernel_rfl) (fun k hk => by cases hk) (by kernel_rfl) (laid_met os))) ?_
  intro W base args ds gs before hval hW _ hcond hsz hL _ _
  exact contract H enc W base args ds gs before hval hW hsz hL
set_option maxHeartbeats 0 in
theorem over : Rows.codeNextsRow.holds Tryd.pinned (OpenSpec.ofChange Rows.codeNextsSpec) :=
  OpenClaim.holds_of_cond 7 Tryd.f7 rfl rfl rfl rfl rfl rfl rfl ⟨rfl, rfl, rfl, rfl, rfl⟩ rfl rfl rfl rfl rfl (by as_aux_lemma => kernel_rfl) Tryd.func7 (by as_aux_lemma => kernel_rfl)
    (of_decide_eq_true (by as_aux_lemma => kernel_rfl)) (by as_aux_lemma => unfold Func.isWrapper; first | (rw [if_pos (by decide +kernel)]; kernel_rfl) | (rw [if_neg (by decide +kernel)]; exact ⟨rfl, rfl⟩))
    (fun os started H enc _ F => by rw [OpenClaim.pre_eq_preRow]; exact lifted os started H enc F)
theorem plain (f : FuncId) (fn : Func) (hf : Tryd.pinned.checked.prog.funcNamed "brazier/brazierlaw08.CodeNexts" = some f) (hfn : Tryd.pinned.checked.prog.funcs[f]? = some fn) :
    false = Tryd.pinned.checked.prog.looks [] ∧ ∀ (j : Nat) t, fn.params[j]? = some t → Tryd.pinned.checked.prog.wantsStandIn t = false := by
  obtain rfl : f = 7 := Option.some.inj ((show Tryd.prog.funcNamed "brazier/brazierlaw08.CodeNexts" = some 7 by kernel_rfl).symm.trans hf) |>.symm
  obtain rfl : fn = Tryd.f7 := (Option.some.inj (Tryd.func7.symm.trans hfn)).symm
  refine ⟨by kernel_rfl, fun j t ht => ?_⟩
  rw [Tryd.params7] at ht
  have hm : t = 36 ∨ t = 3 := by simpa using Array.mem_of_getElem? ht
  rcases hm with rfl | rfl
  · exact (show Tryd.prog.wantsStandIn 36 = false by kernel_rfl)
  · exact (show Tryd.prog.wantsStandIn 3 = false by kernel_rfl)
theorem proved : Rows.CodeNextsCardSaid :=
  Claim7.holds_tied_plain_at .later [] _ _ _ _ over (fun _ h => by cases h) (by kernel_rfl) (fun _ h => by cases h) codeNexts_row_tie rfl ⟨rfl, rfl⟩ (by kernel_rfl) rfl plain (by kernel_rfl)
#print axioms proved
end Go.Proofs.YteagkdmefmpokaaDoor.codeNexts
namespace Go.Proofs.YteagkdmefmpokaaDoor
theorem codeNexts_holds : Rows.CodeNextsCardSaid := codeNexts.proved
end Go.Proofs.YteagkdmefmpokaaDoor
