/- For every function the call of FuseGroups returns true, and its argument reads as before; no condition. -/
import Derived.Test.YtblkedhkkhppnaaDm
import Derived.Test.YtblkedhkkhppnaaRows
import Derived.ProofKit
import Derived.OpenShut
import Derived.Carry
import Derived.JoinedOf
import Derived.SizedLaws
namespace Go.Proofs.Ytblkedhkkhppnaa.fuseGroups
open Go.ChangeShapes Go.WideShapes Go.ChangeAt Go.RowKit Go.Deep Go
set_option linter.unusedSimpArgs false
set_option linter.unusedVariables false
set_option maxRecDepth 100000 in
set_option maxHeartbeats 4000000 in
theorem walk (w : World) (h : Hd) (C : List En) (T : List Tr) (hi : h.Is w C T) (hcc : h.nc ≤ h.cc) (hmx : h.cc ≤ 9223372036854775807) :
    Calls Try.prog 3 #[h.v] w fun e w' => e = .returned (.bool true) ∧ Below w.heap.size w w' := by
  have B0 := Lib.hid (below_new w (.cells h.b 27))
  have hnc := hi.nc
  have K1 := groups_calls (h.box w) h C T (hi.later B0.out) hcc hmx
  have K2 := fun (w1 : World) (b : Below (h.box w).heap.size (h.box w) w1) => rgroups_calls w1 h C T ((hi.later B0.out).later b)
  have HALL := Lib.hid (fun (wr : World) (b : Below (h.box w).heap.size (h.box w) wr) => Hd.eight (h.all b))
  have hlg := grps_len (has (jmp C ++ tgt T)) C
  rw [reads_len hi.code] at hlg
  have AL := Lib.hid alive10
  generalize grps (has (jmp C ++ tgt T)) C = G at *
  unfold Hd.v at *
  unfold Hd.box Hd.b at K1
  replace K1 := Lib.hid K1
  replace K2 := Lib.hid K2
  clear hi
  go_enter Try.func3, Try.ntmps3
  go_upto_region 5 with (first | (go_at_call 7; (with_reducible refine K1.out.mono ?_); rintro r w1 ⟨A, n, c, rfl, hrd, hb1⟩; obtain ⟨i0, i1, i2, i3, i4, i5, i6, i7, ilt⟩ := HALL.out w1 hb1; have HR1 := Lib.hid hrd; have HB1 := Lib.hid hb1; have K2' := Lib.hid (K2.out w1 hb1); clear hrd hb1) | (go_at_call 8; (with_reducible refine K2'.out.mono ?_); rintro r w2 ⟨A2, n2, c2, rfl, hrd2, hb2⟩; have hn := reads_len3 HR1.out; have hn2 := reads_len3 hrd2; have e2 : n2 = n := hn2.symm.trans hn; subst e2; have HR2 := Lib.hid hrd2; have HB2 := Lib.hid hb2; clear hrd2 hb2) | (go_at_call 9; (with_reducible refine (AL.out _).mono ?_); rintro r w3 ⟨rfl, hb3⟩; have HB3 := Lib.hid hb3; clear hb3))
  have HR2' := Lib.hid ((HR2.out.below HB3.out).more HB3.out.size)
  have HR1' := Lib.hid ((((HR1.out.below HB2.out).more HB2.out.size).below HB3.out).more HB3.out.size)
  have HG := Lib.hid hn
  have hnl : n2 ≤ h.nc := by omega
  clear i0 i1 i2 i3 i4 i5 i6 i7 ilt hn hn2 hlg
  go_wp2
  go_loopg [21] n2 (fun f i wr => ∃ k : Nat, i = .int .i64 k ∧ k + f = n2 ∧ Below w3.heap.size w3 wr)
  case atStart => exact ⟨0, rfl, by omega, Below.refl _ _⟩
  case round =>
    obtain ⟨k, rfl, hf, hB⟩ := hrel
    have HB := Lib.hid hB
    by_cases hk : k < n2
    · obtain ⟨e, hx⟩ : ∃ e, G[k]? = some e := ⟨_, List.getElem?_eq_getElem (by have := HG.out; omega)⟩
      obtain ⟨b, off, hA, _, x0, x1, x2⟩ := reads_at3 (HR1'.out.below hB) hx
      obtain ⟨b2, off2, hA2, _, y0, y1, y2⟩ := reads_at3 (HR2'.out.below hB) hx
      subst hA hA2
      have hk' : (k : Int) < n2 := by omega
      obtain ⟨f', hf'⟩ : ∃ f', gk = f' + 1 := ⟨gk - 1, by omega⟩
      have HF' := Lib.hid hf'
      have HF := Lib.hid hf
      have hg := fun op x y xs ys w => run_guard32 op x y xs ys w
      have hne := fun w => neq_same e w
      clear hx hf hf' hB
      go_wp2
      go_quiet (fail)
      go_wp2
      go_roundg f'
      case measure => have := HF'.out; omega
      case rel => exact ⟨k + 1, by simp, by have := HF'.out; have := HF.out; omega, below_drewN HB.out _⟩
    · have hk' : ¬ (k : Int) < n2 := by omega
      clear hf hB
      go_wp2
      go_ret
      exact ⟨rfl, below_via B0.out (below_via HB1.out (below_via HB2.out (below_via HB3.out HB.out)))⟩
theorem call {H : Type} {enc : TypeId × Value → H} {W : World} {base : Nat} {v0 : Value} {d0 : DataW H} {p0 : List MemPlace}
    (o0 : Value.okWide Try.prog W .any base 27 v0) (h0 : DataW.Trod enc Try.prog W 0 (fun _ => true) true 27 v0 d0 p0) (z0 : ∀ n ∈ d0.weights Try.prog 27, n ≤ reachBytes) :
    Calls Try.prog 3 #[v0] W fun e w' => e = .returned (.bool true) ∧ Below W.heap.size W w' := by
  obtain ⟨h, C, T, rfl, hi, hcc, hmx⟩ := open_func o0 h0 z0
  exact walk W h C T hi hcc hmx
theorem own : ownKnob Try.prog.godebug = none := by kernel_rfl
theorem laidOut : laidOutB Try.prog = true := by kernel_rfl
set_option maxHeartbeats 0 in
/-- what the walk gives. -/
theorem contract (H : Type) (enc : TypeId × Value → H) (W : World) (base : Nat) (args : Array Value) (ds gs : List (DataW H)) (before : List MemPlace)
    (hval : ∀ (j : Nat) t v, Try.f3.params[j]? = some t → args[j]? = some v → Value.okWide Try.prog W .any base t v)
    (hW : DataW.Whole enc Try.prog Try.f3.params.toList Rows.fuseGroupsSpec.vars false W args.toList ds gs before) (hsz : (DataW.weightsEach Try.prog (Try.f3.params.toList ++ Rows.fuseGroupsSpec.plain.varTypes Try.prog) (ds ++ gs)).all (· ≤ reachBytes) = true) :
    Calls Try.prog 3 args W fun e W' => ∃ v, e = .returned v ∧ Rows.fuseGroupsSpec.post enc Try.prog Try.f3 false true false false W args v W' := by
  have hW' := hW
  obtain ⟨p, q, hA0, hV, rfl, hfz, hnd⟩ := hW
  have hA : DataW.TrodAll enc Try.prog W 0 (fun _ => true) true Try.f3.params.toList args.toList ds p := hA0
  rw [Try.params3] at hA hval hsz
  obtain ⟨v0, vs0, d0, ds0, p0, q0, hargs, rfl, rfl, h0, r0⟩ := trodAll_cons hA
  obtain ⟨rfl, rfl, rfl⟩ := trodAll_nil r0
  obtain rfl : args = #[v0] := by cases args; simp_all
  obtain ⟨rfl, rfl⟩ := trodVars_none hV
  clear hA0
  simp only [List.append_nil] at hW'
  have lt0 : ∀ x ∈ p0, x.block < W.heap.size := fun x hx => hW'.lt x (by simp [hx])
  refine (call (hval 0 27 v0 rfl rfl) h0 (fun n hn => by have := List.all_eq_true.1 hsz n (DataW.weights_mem_each (j := 0) (t := 27) rfl rfl n hn); simpa using this)).mono fun e W' ⟨he, bel⟩ => ?_
  subst he
  exact ⟨_, rfl, _, _, _, [], _, [], hW', (trodAll_cons_mk (shut_bool Try.underlying4 _) trodAll_mk0), (trodAll_cons_mk (Below.trod laidOut (by kernel_rfl) (of_decide_eq_true (by kernel_rfl)) h0 bel lt0) trodAll_mk0), rfl, bel.frame _, fun h => by cases h⟩
set_option maxRecDepth 100000 in
theorem lifted (os : Os) (started : os.Started) (H : Type) (enc : TypeId × Value → H) :
    ReturnsInHanded {} Try.checked os 3 .any (Rows.fuseGroupsSpec.pre6 enc Try.prog Try.f3 Rows.fuseGroupsRow.domain false) (Rows.fuseGroupsSpec.post enc Try.prog Try.f3 false true false false) := by
  refine returnsInHanded_of_change_sized (C := Try.checked) own started (by kernel_rfl) Try.func3
    (ChangeSpec.witness6 (enc := enc) (C := Try.checked) false ⟨#[], #[.agg #[.string ⟨#[]⟩, .int .i64 0, .int .i64 0, .bool false, .slice none 0 0, .slice none 0 0, .slice none 0 0, .slice none 0 0]], []⟩ 8 (by kernel_rfl) (by kernel_rfl) (by kernel_rfl) (by kernel_rfl)) ?_
  intro W base args ds gs before hval0 hW hcnd hsz _
  exact contract H enc W base args ds gs before hval0 hW hsz
set_option maxHeartbeats 0 in
theorem over : Rows.fuseGroupsRow.holds Try.pinned (OpenSpec.ofChange Rows.fuseGroupsSpec) :=
  OpenClaim.holds_of_wide 3 Try.f3 rfl rfl rfl rfl rfl rfl rfl ⟨rfl, rfl, rfl, rfl, rfl⟩ rfl rfl rfl rfl rfl (by as_aux_lemma => kernel_rfl) Try.func3 (by as_aux_lemma => kernel_rfl)
    (of_decide_eq_true (by as_aux_lemma => kernel_rfl)) (by as_aux_lemma => unfold Func.isWrapper; first | (rw [if_pos (by decide +kernel)]; kernel_rfl) | (rw [if_neg (by decide +kernel)]; exact ⟨rfl, rfl⟩))
    (fun os started H enc _ => lifted os started H enc)
theorem proved : Rows.FuseGroupsSaid :=
  over
#print axioms proved
end Go.Proofs.Ytblkedhkkhppnaa.fuseGroups
namespace Go.Proofs.Ytblkedhkkhppnaa
theorem fuseGroups_holds : Rows.FuseGroupsSaid := fuseGroups.proved
end Go.Proofs.Ytblkedhkkhppnaa
