/- For every text the call of ScopeBuiltins returns true, and its argument reads as before; the package-level tables start as the program's text lays them (the card ties it). -/
import Derived.Test.YtlenhcmgcgccmaaDoorVf
import Derived.Test.YtlenhcmgcgccmaaDoorCards
import Derived.Test.YtlenhcmgcgccmaaDoorTie
import Derived.ProofKit
import Derived.OpenShut
import Derived.Carry
import Derived.Deep.DeepHandedRow
import Derived.Lib.LaidTab
import Derived.JoinedOf
import Derived.SizedLaws
import Derived.JoinedCond
import Derived.Deep.DeepWitnessRowRef
import Derived.Deep.DeepLaidRun
namespace Go.Proofs.YtlenhcmgcgccmaaDoor.scopeBuiltins
open Go.ChangeShapes Go.WideShapes Go.ChangeAt Go.RowKit Go.Deep Go
set_option linter.unusedSimpArgs false
set_option linter.unusedVariables false
theorem nv_cells {w : World} {g : Nat} (h : Blk w g 9 namesV) (k : Nat) (hk : k < 14) : w.cell? ⟨g, k, none⟩ = some (.string (names.getD k ⟨#[]⟩)) := by
  have hx : names[k]? = some (names.getD k ⟨#[]⟩) := by rw [List.getD_eq_getElem?_getD, List.getElem?_eq_getElem (by rw [names_len]; omega)]; rfl
  have := nm_cell h hx
  simpa using this
set_option maxRecDepth 100000 in
set_option maxHeartbeats 4000000 in
theorem walk (w : World) (hT : Lib.TabIs Tryd.prog w "strings.asciiSpace" .u8 Lib.asciiSpaceTab) (x : ByteArray) : Calls Tryd.prog 3 #[.string x] w fun e w' => e = .returned (.bool true) ∧ Below w.heap.size w w' := by
  have hB2 : Below w.heap.size w ((w.alloc (.cells namesV 9)).alloc (.cells namesV 9)) := below_alloc (below_alloc (Below.refl _ _))
  have B0 := Lib.hid builtins_calls
  have N0 := Lib.hid names_calls
  have AL := Lib.hid (alive_calls _ ((tabl_of hT).on hB2).here)
  have b0 : Blk ((w.alloc (.cells namesV 9)).alloc (.cells namesV 9)) w.heap.size 9 namesV := (Blk.new _ _ _).alloc _
  have b1 : Blk ((w.alloc (.cells namesV 9)).alloc (.cells namesV 9)) (w.heap.size + 1) 9 namesV := by have h1 := Blk.new (w.alloc (.cells namesV 9)) 9 namesV; rw [size_alloc] at h1; exact h1
  have HB2 := Lib.hid hB2
  have KX := Lib.hid (fun (v : World) (b : Below w.heap.size w v) (b' : Below (w.heap.size + 2) ((w.alloc (.cells namesV 9)).alloc (.cells namesV 9)) v) (k : Nat) (hk : k < 14) => show v.cell? ⟨w.heap.size, k, none⟩ = some (.string (names.getD k ⟨#[]⟩)) ∧ v.cell? ⟨w.heap.size + 1, k, none⟩ = some (.string (names.getD k ⟨#[]⟩)) ∧ w.heap.size < v.heap.size ∧ w.heap.size + 1 < v.heap.size from by
    have c0 := b0.below b' (by omega)
    have c1 := b1.below b' (by omega)
    exact ⟨nv_cells c0 k hk, nv_cells c1 k hk, c0.lt, c1.lt⟩)
  have hn : ∀ (b : Bool) w1, (Op.unary .not (.bool b)).run Tryd.prog w1 = .ok (.bool (!b)) w1 := fun _ _ => rfl
  have BC := Lib.hid builtin_calls
  have RC := Lib.hid rbuiltin_calls
  have BA := Lib.hid bi_at
  clear hT hB2 b0 b1
  go_enter Tryd.func3, Tryd.ntmps3
  go_wp2_with (first | (go_at_call 8; (with_reducible refine (B0.out _).mono ?_); rintro e w1 ⟨rfl, rfl⟩) | (go_at_call 9; (with_reducible refine (N0.out _).mono ?_); rintro e w1 ⟨rfl, rfl⟩) | (go_at_call 10; (with_reducible refine AL.out.mono ?_); rintro e w1 ⟨rfl, ba⟩; have BA1 := Lib.hid ba; clear ba))
  have hsz : ((w.alloc (.cells namesV 9)).alloc (.cells namesV 9)).heap.size = w.heap.size + 2 := by simp only [size_alloc]
  have b1' : Below (w.heap.size + 2) ((w.alloc (.cells namesV 9)).alloc (.cells namesV 9)) w1 := by have h1 := BA1.out; rw [hsz] at h1; exact h1
  have b1 : Below w.heap.size w w1 := HB2.out.trans (b1'.mono (by omega))
  have H1 := Lib.hid b1
  have H1' := Lib.hid b1'
  clear b1 b1' hsz
  go_loopg [25] 14 (fun f i wr => ∃ k : Nat, i = .int .i64 k ∧ k + f = 14 ∧ Below w.heap.size w wr ∧ Below (w.heap.size + 2) ((w.alloc (.cells namesV 9)).alloc (.cells namesV 9)) wr)
  case atStart => exact ⟨0, rfl, by omega, H1.out, H1'.out⟩
  case round =>
    obtain ⟨k, rfl, hf, h1, h2⟩ := hrel
    by_cases hk : k < 14
    · have hk' : (k : Int) < 14 := by omega
      have hk'' : (0 : Int) ≤ (k : Int) ∧ (k : Int) ≤ 14 := by omega
      obtain ⟨f', hf'⟩ : ∃ f', gk = f' + 1 := ⟨gk - 1, by omega⟩
      obtain ⟨c0, c1, l0, l1⟩ := KX.out wr h1 h2 k hk
      have h3 : Below w.heap.size w (wr.alloc (.cells namesV 9)) := h1.alloc h1.size _
      have h4 : Below (w.heap.size + 2) ((w.alloc (.cells namesV 9)).alloc (.cells namesV 9)) (wr.alloc (.cells namesV 9)) := h2.alloc (by omega) _
      obtain ⟨c2, c3, l2, l3⟩ := KX.out _ h3 h4 k hk
      have BK := BC.out wr (names.getD k ⟨#[]⟩)
      rw [BA.out k hk] at BK
      replace BK := Lib.hid BK
      have HF := Lib.hid (And.intro hf hf')
      have H3 := Lib.hid h3
      have H4 := Lib.hid h4
      generalize names.getD k ⟨#[]⟩ = nk at *
      clear h1 h2 h3 h4 hf hf'
      go_wp2_with (first | (go_at_call 11; (with_reducible refine BK.out.mono ?_); rintro e w2 ⟨rfl, rfl⟩))
      go_quiet (fail)
      go_wp2
      go_roundg f'
      case measure => have := HF.out; omega
      case rel => exact ⟨k + 1, by simp, by have := HF.out; omega, H3.out.trans ⟨rfl, rfl, rfl, Nat.le_refl _, fun _ _ => rfl⟩, H4.out.trans ⟨rfl, rfl, rfl, Nat.le_refl _, fun _ _ => rfl⟩⟩
    · have hk' : ¬ (k : Int) < 14 := by omega
      have H5 := Lib.hid h1
      clear hf h1 h2
      go_wp2_with (first | (go_at_call 11; (with_reducible refine (BC.out _ _).mono ?_); rintro e w2 ⟨rfl, rfl⟩) | (go_at_call 12; (with_reducible refine (RC.out _ _).mono ?_); rintro e w2 ⟨rfl, rfl⟩))
      go_ret
      exact ⟨rfl, below_alloc (below_alloc H5.out)⟩
set_option maxRecDepth 100000 in
theorem call {H : Type} {enc : TypeId × Value → H} {W : World} {base : Nat} {v0 : Value} {d0 : DataW H} {p0 : List MemPlace}
    (hL : Lib.TabIs Tryd.prog W "strings.asciiSpace" .u8 Lib.asciiSpaceTab) (o0 : Value.okWide Tryd.prog W .any base 9 v0) (h0 : DataW.Trod enc Tryd.prog W 0 (fun _ => true) true 9 v0 d0 p0) (z0 : ∀ n ∈ d0.weights Tryd.prog 9, n ≤ reachBytes) :
    Calls Tryd.prog 3 #[v0] W fun e w' => e = .returned (.bool true) ∧ Below W.heap.size W w' := by
  obtain ⟨x, rfl⟩ := okWide_string Tryd.underlying9 o0
  exact walk W hL x
theorem own : ownKnob Tryd.prog.godebug = none := by kernel_rfl
theorem laidOut : laidOutB Tryd.prog = true := by kernel_rfl
set_option maxRecDepth 100000 in
set_option maxHeartbeats 0 in
/-- what the walk gives. -/
theorem contract (H : Type) (enc : TypeId × Value → H) (W : World) (base : Nat) (args : Array Value) (ds gs : List (DataW H)) (before : List MemPlace)
    (hval : ∀ (j : Nat) t v, Tryd.f3.params[j]? = some t → args[j]? = some v → Value.okWide Tryd.prog W .any base t v)
    (hW : DataW.Whole enc Tryd.prog Tryd.f3.params.toList Rows.scopeBuiltinsSpec.vars false W args.toList ds gs before)
    (hsz : (DataW.weightsEach Tryd.prog (Tryd.f3.params.toList ++ Rows.scopeBuiltinsSpec.plain.varTypes Tryd.prog) (ds ++ gs)).all (· ≤ reachBytes) = true) (hL : laidMetH Tryd.prog Rows.scopeBuiltinsRow.laid W) :
    Calls Tryd.prog 3 args W fun e W' => ∃ v, e = .returned v ∧ Rows.scopeBuiltinsSpec.post enc Tryd.prog Tryd.f3 false true false false W args v W' := by
  have hW' := hW
  obtain ⟨p, q, hA0, hV, rfl, hfz, hnd⟩ := hW
  have hA : DataW.TrodAll enc Tryd.prog W 0 (fun _ => true) true Tryd.f3.params.toList args.toList ds p := hA0
  rw [Tryd.params3] at hA hval hsz
  obtain ⟨v0, vs0, d0, ds0, p0, q0, hargs, rfl, rfl, h0, r0⟩ := trodAll_cons hA
  obtain ⟨rfl, rfl, rfl⟩ := trodAll_nil r0
  obtain rfl : args = #[v0] := by cases args; simp_all
  obtain ⟨rfl, rfl⟩ := trodVars_none hV
  clear hA0
  simp only [List.append_nil] at hW'
  have lt0 : ∀ x ∈ p0, x.block < W.heap.size := fun x hx => hW'.lt x (by simp [hx])
  refine (call (tab_ofH hL) (hval 0 9 v0 rfl rfl) h0 (fun n hn => by have := List.all_eq_true.1 hsz n (DataW.weights_mem_each (j := 0) (t := 9) rfl rfl n hn); simpa using this)).mono fun e W' ⟨he, bel⟩ => ?_
  subst he
  exact ⟨_, rfl, _, _, _, [], _, [], hW', (trodAll_cons_mk (shut_bool Tryd.underlying4 _) trodAll_mk0), (trodAll_cons_mk (Below.trod laidOut (by kernel_rfl) (of_decide_eq_true (by kernel_rfl)) h0 bel lt0) trodAll_mk0), rfl, bel.frame _, fun h => by cases h⟩
theorem laid_met (os : Os) : laidMet Tryd.prog Rows.scopeBuiltinsRow.laid ((laidWorld os).forCall (fun _ _ => 0) ⟨#[], #[.string ⟨#[]⟩], []⟩).memory :=
  laidMet_of_run3 10 (by kernel_rfl) (by kernel_rfl) (by kernel_rfl)
theorem reads (os : Os) {H : Type} (enc : TypeId × Value → H) : ∃ places, DataW.whole enc Tryd.prog ((laidWorld os).forCall (fun _ _ => 0) ⟨#[], #[.string ⟨#[]⟩], []⟩).memory Tryd.f3.params.toList Rows.scopeBuiltinsSpec.vars false #[.string ⟨#[]⟩].toList 8 = some ([.lit (.string [])], [], places) :=
  ⟨[], by kernel_rfl⟩
set_option maxRecDepth 100000 in
theorem lifted (os : Os) (started : os.Started) (H : Type) (enc : TypeId × Value → H) (F : Stop.Interp) :
    ReturnsInHanded {} Tryd.checked os 3 .any ((OpenSpec.ofChange Rows.scopeBuiltinsSpec).preRow enc Tryd.prog Tryd.f3 Rows.scopeBuiltinsRow.domain false Rows.scopeBuiltinsRow.laid) (((OpenSpec.ofChange Rows.scopeBuiltinsSpec).at F).post enc Tryd.prog Tryd.f3 false true false false) := by
  obtain ⟨places, hx⟩ := reads os enc
  refine returnsInHanded_of_row (C := Tryd.checked) (s := OpenSpec.ofChange Rows.scopeBuiltinsSpec) own started (by kernel_rfl) Tryd.func3
    (witness_row_atRef (enc := enc) (C := Tryd.checked) false (laidWorld os) #[.string ⟨#[]⟩] rfl (by kernel_rfl) (by kernel_rfl) (by kernel_rfl)
      (OpenSpec.preRow_of_cond 8 hx (by kernel_rfl) (fun k hk => by cases hk) (by kernel_rfl) (laid_met os))) ?_
  intro W base args ds gs before hval hW _ hcond hsz hL _ _
  exact contract H enc W base args ds gs before hval hW hsz hL
set_option maxHeartbeats 0 in
theorem over : Rows.scopeBuiltinsRow.holds Tryd.pinned (OpenSpec.ofChange Rows.scopeBuiltinsSpec) :=
  OpenClaim.holds_of_cond 3 Tryd.f3 rfl rfl rfl rfl rfl rfl rfl ⟨rfl, rfl, rfl, rfl, rfl⟩ rfl rfl rfl rfl rfl (by as_aux_lemma => kernel_rfl) Tryd.func3 (by as_aux_lemma => kernel_rfl)
    (of_decide_eq_true (by as_aux_lemma => kernel_rfl)) (by as_aux_lemma => unfold Func.isWrapper; first | (rw [if_pos (by decide +kernel)]; kernel_rfl) | (rw [if_neg (by decide +kernel)]; exact ⟨rfl, rfl⟩))
    (fun os started H enc _ F => by rw [OpenClaim.pre_eq_preRow]; exact lifted os started H enc F)
theorem plain (f : FuncId) (fn : Func) (hf : Tryd.pinned.checked.prog.funcNamed "brazier/brazierlaw07.ScopeBuiltins" = some f) (hfn : Tryd.pinned.checked.prog.funcs[f]? = some fn) :
    true = Tryd.pinned.checked.prog.looks [] ∧ ∀ (j : Nat) t, fn.params[j]? = some t → Tryd.pinned.checked.prog.wantsStandIn t = false := by
  obtain rfl : f = 3 := Option.some.inj ((show Tryd.prog.funcNamed "brazier/brazierlaw07.ScopeBuiltins" = some 3 by kernel_rfl).symm.trans hf) |>.symm
  obtain rfl : fn = Tryd.f3 := (Option.some.inj (Tryd.func3.symm.trans hfn)).symm
  refine ⟨by kernel_rfl, fun j t ht => ?_⟩
  rw [Tryd.params3] at ht
  have hm : t = 9 := by simpa using Array.mem_of_getElem? ht
  subst hm
  exact (show Tryd.prog.wantsStandIn 9 = false by kernel_rfl)
theorem proved : Rows.ScopeBuiltinsCardSaid :=
  Claim7.holds_tied_plain_at .later [] _ _ _ _ over (fun _ h => by cases h) (by kernel_rfl) (fun _ h => by cases h) scopeBuiltins_row_tie rfl ⟨rfl, rfl⟩ (by kernel_rfl) rfl plain (by kernel_rfl)
#print axioms proved
end Go.Proofs.YtlenhcmgcgccmaaDoor.scopeBuiltins
namespace Go.Proofs.YtlenhcmgcgccmaaDoor
theorem scopeBuiltins_holds : Rows.ScopeBuiltinsCardSaid := scopeBuiltins.proved
end Go.Proofs.YtlenhcmgcgccmaaDoor
