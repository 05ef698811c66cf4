/- For every function and every place the call of FuseWhere returns true, and its arguments read as before; no condition. -/
import Derived.Test.YtblkedhkkhppnaaDn
import Derived.Test.YtblkedhkkhppnaaRows
import Derived.ProofKit
import Derived.OpenShut
import Derived.Carry
import Derived.JoinedOf
import Derived.SizedLaws
namespace Go.Proofs.Ytblkedhkkhppnaa.fuseWhere
open Go.ChangeShapes Go.WideShapes Go.ChangeAt Go.RowKit Go.Deep Go
set_option linter.unusedSimpArgs false
set_option linter.unusedVariables false
set_option maxRecDepth 100000 in
set_option maxHeartbeats 4000000 in
theorem walk (w : World) (h : Hd) (C : List En) (T : List Tr) (x : Int) (hi : h.Is w C T) (hcc : h.nc ≤ h.cc) (hmx : h.cc ≤ 9223372036854775807) (hx : x ≤ 9223372036854775807) :
    Calls Try.prog 4 #[h.v, .int .i64 x] w fun e w' => e = .returned (.bool true) ∧ Below w.heap.size w w' := by
  have B0 := Lib.hid (below_new w (.cells h.b 27))
  have hnc := hi.nc
  have K1 := groups_calls (h.box w) h C T (hi.later B0.out) hcc hmx
  have HALL := Lib.hid (fun (wr : World) (b : Below (h.box w).heap.size (h.box w) wr) => Hd.eight (h.all b))
  have hlg := grps_len (has (jmp C ++ tgt T)) C
  have hl := reads_len hi.code
  rw [hl] at hlg
  have KW := fun (w1 : World) (A : Option Addr) (m c : Nat) (hr : Reads w1 w1.heap.size 3 A m (tf (grps (has (jmp C ++ tgt T)) C))) => where_calls w1 x A m c _ hr (by have := reads_len3 hr; omega) grps_pos hx
  have hin := cov_in (has (jmp C ++ tgt T)) C x
  have hout := cov_out (has (jmp C ++ tgt T)) C x
  rw [hl] at hin hout
  have AL := Lib.hid alive10
  generalize grps (has (jmp C ++ tgt T)) C = G at *
  unfold Hd.v at *
  unfold Hd.box Hd.b at K1
  replace K1 := Lib.hid K1
  by_cases hc : 0 ≤ x ∧ x < h.nc
  · obtain ⟨i, e, hf, he, e0, e1, e2, e3⟩ := hin hc.1 hc.2
    obtain ⟨hc0, hc1⟩ := hc
    rw [hf] at KW
    unfold whr3 at KW
    simp only at KW
    replace KW := Lib.hid KW
    have hiG := (List.getElem?_eq_some_iff.1 he).1
    have hx0 : ¬ x < 0 := by omega
    have hx1 : ¬ (h.nc : Int) ≤ x := by omega
    have hw : IntKind.i64.wrap (e.x + (x - e.x)) = x := by rw [show e.x + (x - e.x) = x by omega]; exact IntWalk.i64_in _ (by omega)
    have hw2 : e.x + (x - e.x) = x := by omega
    have hf0 : (0 : Int) ≤ x - e.x := by omega
    clear hi hin hout hf
    go_enter Try.func4, Try.ntmps4
    go_wp2_with (first | (go_at_call 7; (with_reducible refine K1.out.mono ?_); rintro r w1 ⟨A, n, c, rfl, hrd, hb1⟩; have HR1 := Lib.hid hrd; have HB1 := Lib.hid hb1; have hn := reads_len3 hrd; have hin' : (i : Int) < n := (by omega); clear hrd hb1) | (go_at_call 10; (with_reducible refine (KW.out _ _ _ _ HR1.out).mono ?_); rintro r w2 ⟨rfl, hb2⟩; obtain ⟨i0, i1, i2, i3, i4, i5, i6, i7, ilt⟩ := HALL.out w2 (below_via HB1.out hb2); have HR2 := Lib.hid ((HR1.out.below hb2).more hb2.size); have HB2 := Lib.hid (below_via B0.out (below_via HB1.out hb2)); clear hb2) | (go_at_call 9; (with_reducible refine (AL.out _).mono ?_); rintro r w3 ⟨rfl, hb3⟩; obtain ⟨b, off, hA, _, c0, c1, c2⟩ := reads_at3 (HR2.out.below hb3) he; subst hA; have HB3 := Lib.hid (below_via HB2.out hb3); clear hb3))
    go_ret
    exact ⟨rfl, HB3.out⟩
  · have hc' : x < 0 ∨ (h.nc : Int) ≤ x := by omega
    rw [hout hc'] at KW
    unfold whr3 at KW
    simp only at KW
    replace KW := Lib.hid KW
    clear hi hin hout hc
    rcases hc' with hx0 | hx0
    all_goals
      go_enter Try.func4, Try.ntmps4
      go_wp2_with (first | (go_at_call 7; (with_reducible refine K1.out.mono ?_); rintro r w1 ⟨A, n, c, rfl, hrd, hb1⟩; have HR1 := Lib.hid hrd; have HB1 := Lib.hid hb1; clear hrd hb1) | (go_at_call 10; (with_reducible refine (KW.out _ _ _ _ HR1.out).mono ?_); rintro r w2 ⟨rfl, hb2⟩; obtain ⟨i0, i1, i2, i3, i4, i5, i6, i7, ilt⟩ := HALL.out w2 (below_via HB1.out hb2); have HB2 := Lib.hid (below_via B0.out (below_via HB1.out hb2)); clear hb2) | (go_at_call 9; (with_reducible refine (AL.out _).mono ?_); rintro r w3 ⟨rfl, hb3⟩; have HB3 := Lib.hid (below_via HB2.out hb3); clear hb3))
      go_ret
      exact ⟨rfl, HB3.out⟩
theorem call {H : Type} {enc : TypeId × Value → H} {W : World} {base : Nat} {v0 : Value} {d0 : DataW H} {p0 : List MemPlace} {v1 : Value} {d1 : DataW H} {p1 : List MemPlace}
    (o0 : Value.okWide Try.prog W .any base 27 v0) (h0 : DataW.Trod enc Try.prog W 0 (fun _ => true) true 27 v0 d0 p0) (o1 : Value.okWide Try.prog W .any base 3 v1) (h1 : DataW.Trod enc Try.prog W 0 (fun _ => true) true 3 v1 d1 p1) (z0 : ∀ n ∈ d0.weights Try.prog 27, n ≤ reachBytes) (z1 : ∀ n ∈ d1.weights Try.prog 3, n ≤ reachBytes) :
    Calls Try.prog 4 #[v0, v1] W fun e w' => e = .returned (.bool true) ∧ Below W.heap.size W w' := by
  obtain ⟨h, C, T, rfl, hi, hcc, hmx⟩ := open_func o0 h0 z0
  obtain ⟨fuel, h'⟩ := h1
  obtain ⟨x, hx, _, hxw⟩ := DataW.trod_int Try.underlying3 h'
  have hxx : v1 = .int .i64 x := by
    obtain ⟨y, rfl⟩ := okWide_int Try.underlying3 o1
    simpa [Value.cells] using hx
  subst hxx
  exact walk W h C T x hi hcc hmx (by simp [Lit.wf, IntKind.min, IntKind.max, IntKind.bits, IntKind.signed] at hxw; omega)
theorem own : ownKnob Try.prog.godebug = none := by kernel_rfl
theorem laidOut : laidOutB Try.prog = true := by kernel_rfl
set_option maxHeartbeats 0 in
/-- what the walk gives. -/
theorem contract (H : Type) (enc : TypeId × Value → H) (W : World) (base : Nat) (args : Array Value) (ds gs : List (DataW H)) (before : List MemPlace)
    (hval : ∀ (j : Nat) t v, Try.f4.params[j]? = some t → args[j]? = some v → Value.okWide Try.prog W .any base t v)
    (hW : DataW.Whole enc Try.prog Try.f4.params.toList Rows.fuseWhereSpec.vars false W args.toList ds gs before) (hsz : (DataW.weightsEach Try.prog (Try.f4.params.toList ++ Rows.fuseWhereSpec.plain.varTypes Try.prog) (ds ++ gs)).all (· ≤ reachBytes) = true) :
    Calls Try.prog 4 args W fun e W' => ∃ v, e = .returned v ∧ Rows.fuseWhereSpec.post enc Try.prog Try.f4 false true false false W args v W' := by
  have hW' := hW
  obtain ⟨p, q, hA0, hV, rfl, hfz, hnd⟩ := hW
  have hA : DataW.TrodAll enc Try.prog W 0 (fun _ => true) true Try.f4.params.toList args.toList ds p := hA0
  rw [Try.params4] at hA hval hsz
  obtain ⟨v0, vs0, d0, ds0, p0, q0, hargs, rfl, rfl, h0, r0⟩ := trodAll_cons hA
  obtain ⟨v1, vs1, d1, ds1, p1, q1, rfl, rfl, rfl, h1, r1⟩ := trodAll_cons r0
  obtain ⟨rfl, rfl, rfl⟩ := trodAll_nil r1
  obtain rfl : args = #[v0, v1] := by cases args; simp_all
  obtain ⟨rfl, rfl⟩ := trodVars_none hV
  clear hA0
  simp only [List.append_nil] at hW'
  have lt0 : ∀ x ∈ p0, x.block < W.heap.size := fun x hx => hW'.lt x (by simp [hx])
  have lt1 : ∀ x ∈ p1, x.block < W.heap.size := fun x hx => hW'.lt x (by simp [hx])
  refine (call (hval 0 27 v0 rfl rfl) h0 (hval 1 3 v1 rfl rfl) h1 (fun n hn => by have := List.all_eq_true.1 hsz n (DataW.weights_mem_each (j := 0) (t := 27) rfl rfl n hn); simpa using this) (fun n hn => by have := List.all_eq_true.1 hsz n (DataW.weights_mem_each (j := 1) (t := 3) rfl rfl n hn); simpa using this)).mono fun e W' ⟨he, bel⟩ => ?_
  subst he
  exact ⟨_, rfl, _, _, _, [], _, [], hW', (trodAll_cons_mk (shut_bool Try.underlying4 _) trodAll_mk0), (trodAll_cons_mk (Below.trod laidOut (by kernel_rfl) (of_decide_eq_true (by kernel_rfl)) h0 bel lt0) (trodAll_cons_mk (Below.trod laidOut (by kernel_rfl) (of_decide_eq_true (by kernel_rfl)) h1 bel lt1) trodAll_mk0)), rfl, bel.frame _, fun h => by cases h⟩
set_option maxRecDepth 100000 in
theorem lifted (os : Os) (started : os.Started) (H : Type) (enc : TypeId × Value → H) :
    ReturnsInHanded {} Try.checked os 4 .any (Rows.fuseWhereSpec.pre6 enc Try.prog Try.f4 Rows.fuseWhereRow.domain false) (Rows.fuseWhereSpec.post enc Try.prog Try.f4 false true false false) := by
  refine returnsInHanded_of_change_sized (C := Try.checked) own started (by kernel_rfl) Try.func4
    (ChangeSpec.witness6 (enc := enc) (C := Try.checked) false ⟨#[], #[.agg #[.string ⟨#[]⟩, .int .i64 0, .int .i64 0, .bool false, .slice none 0 0, .slice none 0 0, .slice none 0 0, .slice none 0 0], .int .i64 0], []⟩ 8 (by kernel_rfl) (by kernel_rfl) (by kernel_rfl) (by kernel_rfl)) ?_
  intro W base args ds gs before hval0 hW hcnd hsz _
  exact contract H enc W base args ds gs before hval0 hW hsz
set_option maxHeartbeats 0 in
theorem over : Rows.fuseWhereRow.holds Try.pinned (OpenSpec.ofChange Rows.fuseWhereSpec) :=
  OpenClaim.holds_of_wide 4 Try.f4 rfl rfl rfl rfl rfl rfl rfl ⟨rfl, rfl, rfl, rfl, rfl⟩ rfl rfl rfl rfl rfl (by as_aux_lemma => kernel_rfl) Try.func4 (by as_aux_lemma => kernel_rfl)
    (of_decide_eq_true (by as_aux_lemma => kernel_rfl)) (by as_aux_lemma => unfold Func.isWrapper; first | (rw [if_pos (by decide +kernel)]; kernel_rfl) | (rw [if_neg (by decide +kernel)]; exact ⟨rfl, rfl⟩))
    (fun os started H enc _ => lifted os started H enc)
theorem proved : Rows.FuseWhereSaid :=
  over
#print axioms proved
end Go.Proofs.Ytblkedhkkhppnaa.fuseWhere
namespace Go.Proofs.Ytblkedhkkhppnaa
theorem fuseWhere_holds : Rows.FuseWhereSaid := fuseWhere.proved
end Go.Proofs.Ytblkedhkkhppnaa
