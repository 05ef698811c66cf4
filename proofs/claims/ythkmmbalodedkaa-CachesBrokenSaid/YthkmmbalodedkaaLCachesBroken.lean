/- For every slice of entries the call of CachesBroken returns true, and its argument reads as before; no condition. -/
import Derived.Test.YthkmmbalodedkaaCj
import Derived.Test.YthkmmbalodedkaaRows
import Derived.ProofKit
import Derived.OpenShut
import Derived.Carry
import Derived.JoinedOf
import Derived.SizedLaws
namespace Go.Proofs.Ythkmmbalodedkaa.cachesBroken
open Go.ChangeShapes Go.WideShapes Go.ChangeAt Go.RowKit Go.Deep Go
set_option linter.unusedSimpArgs false
set_option linter.unusedVariables false
set_option maxRecDepth 100000 in
set_option maxHeartbeats 4000000 in
theorem walk (w : World) (A : Option Addr) (m c : Nat) (L : List En) (hr : Reads w w.heap.size 4 A m (ef L)) (hm : m * 32 ≤ 140737488351232) :
    Calls Try.prog 6 #[.slice A m c] w fun e w' => e = .returned (.bool true) ∧ Below w.heap.size w w' := by
  have hl := reads_len hr
  have HR := Lib.hid hr
  have HL := Lib.hid hl
  have S0 := Lib.hid (site_new w)
  have AL := Lib.hid alive15
  clear hr hl
  go_enter Try.func6, Try.ntmps6
  go_wp2
  go_loopg [15] m (fun f i wr => ∃ (k : Nat) (st : Int) (As : Option Addr) (n cs : Nat) (S : List En), i = .int .i64 k ∧ k + f = m ∧ Site w wr w.heap.size st As n cs S ∧ Unlike S)
  case atStart => exact ⟨0, 0, none, 0, 0, [], rfl, by omega, S0.out, List.Pairwise.nil⟩
  case round =>
    obtain ⟨k, st, As, n, cs, S, rfl, hf, hS, hU⟩ := hrel
    have HS := Lib.hid hS
    have HU := Lib.hid hU
    obtain ⟨s0, s1, f0, f1⟩ := hS.two
    have hlt := hS.lt
    clear hU
    by_cases hk : k < m
    · obtain ⟨e, hx⟩ : ∃ e, L[k]? = some e := ⟨_, List.getElem?_eq_getElem (by have := HL.out; omega)⟩
      obtain ⟨b, off, hA, hbl, c0, c1, c2, c3⟩ := reads_at (HR.out.below hS.bel) hx
      subst hA
      have hk' : (k : Int) < m := by omega
      obtain ⟨f', hf'⟩ : ∃ f', gk = f' + 1 := ⟨gk - 1, by omega⟩
      have HF' := Lib.hid hf'
      have HF := Lib.hid hf
      have hba : Below wr.heap.size wr (wr.alloc (.cells #[.int .i64 e.s, .int .i64 e.h, .int .i64 e.o, .int .i64 e.c] 26)) := (Below.refl _ _).alloc (Nat.le_refl _) _
      have hSA := hS.later hba
      have K := learn_calls _ st As n cs S e 18 #[] _ (asks18 _) hSA.rd (by have := hSA.len; omega)
      have HSA := Lib.hid hSA
      unfold siteV En.v at K
      have K := Lib.hid K
      clear hx hf hf' hba hSA hS
      go_wp2_with (first | (go_at_call 14; (with_reducible refine K.out.mono ?_); rintro r w1 ⟨A1, c1', rfl, ho1, hl1, hb1⟩; obtain ⟨t0, t1, g0, g1⟩ := (HSA.out.later hb1).two; unfold siteV; have SP := Lib.hid (fun st' => HSA.out.put (st' := st') hb1 ho1 hl1); clear ho1 hl1 hb1))
      go_roundg f'
      case measure => have := HF'.out; omega
      case rel => exact ⟨k + 1, _, _, _, _, _, by simp, by have := HF'.out; have := HF.out; omega, SP.out _, learn_unlike _ _ _ HU.out⟩
    · have e : k = m := by omega
      subst e
      clear hf
      go_wp2
      go_loopg [27] n (fun f i wr2 => ∃ (j : Nat), i = .int .i64 j ∧ j + f = n ∧ Site w wr2 w.heap.size st As n cs S)
      case atStart => exact ⟨0, rfl, by omega, HS.out⟩
      case round =>
        rename World => wr2
        obtain ⟨j, rfl, hf2, hS2⟩ := hrel
        clear s0 s1 f0 f1
        obtain ⟨s0, s1, f0, f1⟩ := hS2.two
        have hlt2 := hS2.lt
        have HB2 := Lib.hid hS2.bel
        have hn4 : n ≤ 4 := hS2.len
        by_cases hj : j < n
        · obtain ⟨e, hx⟩ : ∃ e, S[j]? = some e := ⟨_, List.getElem?_eq_getElem (by have := hS2.n; omega)⟩
          obtain ⟨b, off, hA, hbl, c0, c1, c2, c3⟩ := reads_at hS2.rd hx
          subst hA
          have hj' : (j : Int) < n := by omega
          obtain ⟨f', hf'⟩ : ∃ f', gk = f' + 1 := ⟨gk - 1, by omega⟩
          have HF' := Lib.hid hf'
          have HF := Lib.hid hf2
          have hba : Below wr2.heap.size wr2 (wr2.alloc (.cells #[.int .i64 e.s, .int .i64 e.h, .int .i64 e.o, .int .i64 e.c] 26)) := (Below.refl _ _).alloc (Nat.le_refl _) _
          have hSA := hS2.later hba
          have K := find_calls _ st e.s (some ⟨b, off, none⟩) n cs S 19 #[] _ (asks19 _) hSA.rd (by have := hSA.len; omega)
          rw [fnd_at HU.out (List.mem_of_getElem? hx)] at K
          have HSA := Lib.hid hSA
          have HE := Lib.hid (Blk.new wr2 26 e.b)
          have hneq := neq_en e e
          rw [decide_eq_true rfl] at hneq
          have hg := fun op x y xs ys w => run_guard26 op x y xs ys w
          unfold siteV at K
          unfold En.b at HE
          clear hx hf2 hf' hba hSA hS2
          unfold hld at K
          cases hc : (e.c == -1)
          · rw [hc, Bool.false_or, if_neg (by simp), fndV_none] at K
            replace K := Lib.hid K
            go_wp2_with (first | (go_at_call 10; (with_reducible refine K.out.mono ?_); rintro r w1 ⟨rfl, hb1⟩; obtain ⟨t0, t1, g0, g1⟩ := (HSA.out.later hb1).two; obtain ⟨x0, x1, x2, x3, _, _, _, _⟩ := (HE.out.below hb1 HE.out.lt).four; have hl1 := lt_of_alloc hb1.size; have SP := Lib.hid (HSA.out.later hb1); clear hb1))
            go_roundg f'
            case measure => have := HF'.out; omega
            case rel => exact ⟨j + 1, by simp, by have := HF'.out; have := HF.out; omega, SP.out.later ((Below.refl _ _).alloc (Nat.le_refl _) _)⟩
          · rw [hc, Bool.true_or, if_pos rfl, fndV_some] at K
            replace K := Lib.hid K
            go_wp2_with (first | (go_at_call 10; (with_reducible refine K.out.mono ?_); rintro r w1 ⟨rfl, hb1⟩; obtain ⟨t0, t1, g0, g1⟩ := (HSA.out.later hb1).two; obtain ⟨x0, x1, x2, x3, _, _, _, _⟩ := (HE.out.below hb1 HE.out.lt).four; have hl1 := lt_of_alloc hb1.size; have SP := Lib.hid (HSA.out.later hb1); clear hb1))
            go_roundg f'
            case measure => have := HF'.out; omega
            case rel => exact ⟨j + 1, by simp, by have := HF'.out; have := HF.out; omega, SP.out.later ((Below.refl _ _).alloc (Nat.le_refl _) _)⟩
        · have hj' : ¬ (j : Int) < n := by omega
          clear s0 s1 f0 f1 hS2 hf2
          go_wp2_with (first | (go_at_call 12; refine (AL.out _).mono ?_; rintro r w1 ⟨rfl, hb1⟩))
          go_ret
          exact ⟨rfl, below_via HB2.out hb1⟩
theorem call {H : Type} {enc : TypeId × Value → H} {W : World} {base : Nat} {v0 : Value} {d0 : DataW H} {p0 : List MemPlace}
    (o0 : Value.okWide Try.prog W .any base 22 v0) (h0 : DataW.Trod enc Try.prog W 0 (fun _ => true) true 22 v0 d0 p0) (z0 : ∀ n ∈ d0.weights Try.prog 22, n ≤ reachBytes) :
    Calls Try.prog 6 #[v0] W fun e w' => e = .returned (.bool true) ∧ Below W.heap.size W w' := by
  obtain ⟨a, len, cap, rfl⟩ := okWide_slice Try.underlying22 o0
  obtain ⟨fuel, h⟩ := h0
  obtain ⟨A, n, c, L, hv, hr, hm⟩ := open_entries (x := (d0, p0)) h z0
  rw [hv]
  exact walk W A n c L hr hm
theorem own : ownKnob Try.prog.godebug = none := by kernel_rfl
theorem laidOut : laidOutB Try.prog = true := by kernel_rfl
set_option maxHeartbeats 0 in
/-- what the walk gives. -/
theorem contract (H : Type) (enc : TypeId × Value → H) (W : World) (base : Nat) (args : Array Value) (ds gs : List (DataW H)) (before : List MemPlace)
    (hval : ∀ (j : Nat) t v, Try.f6.params[j]? = some t → args[j]? = some v → Value.okWide Try.prog W .any base t v)
    (hW : DataW.Whole enc Try.prog Try.f6.params.toList Rows.cachesBrokenSpec.vars false W args.toList ds gs before) (hsz : (DataW.weightsEach Try.prog (Try.f6.params.toList ++ Rows.cachesBrokenSpec.plain.varTypes Try.prog) (ds ++ gs)).all (· ≤ reachBytes) = true) :
    Calls Try.prog 6 args W fun e W' => ∃ v, e = .returned v ∧ Rows.cachesBrokenSpec.post enc Try.prog Try.f6 false true false false W args v W' := by
  have hW' := hW
  obtain ⟨p, q, hA0, hV, rfl, hfz, hnd⟩ := hW
  have hA : DataW.TrodAll enc Try.prog W 0 (fun _ => true) true Try.f6.params.toList args.toList ds p := hA0
  rw [Try.params6] at hA hval hsz
  obtain ⟨v0, vs0, d0, ds0, p0, q0, hargs, rfl, rfl, h0, r0⟩ := trodAll_cons hA
  obtain ⟨rfl, rfl, rfl⟩ := trodAll_nil r0
  obtain rfl : args = #[v0] := by cases args; simp_all
  obtain ⟨rfl, rfl⟩ := trodVars_none hV
  clear hA0
  simp only [List.append_nil] at hW'
  have lt0 : ∀ x ∈ p0, x.block < W.heap.size := fun x hx => hW'.lt x (by simp [hx])
  refine (call (hval 0 22 v0 rfl rfl) h0 (fun n hn => by have := List.all_eq_true.1 hsz n (DataW.weights_mem_each (j := 0) (t := 22) rfl rfl n hn); simpa using this)).mono fun e W' ⟨he, bel⟩ => ?_
  subst he
  exact ⟨_, rfl, _, _, _, [], _, [], hW', (trodAll_cons_mk (shut_bool Try.underlying4 _) trodAll_mk0), (trodAll_cons_mk (Below.trod laidOut (by kernel_rfl) (of_decide_eq_true (by kernel_rfl)) h0 bel lt0) trodAll_mk0), rfl, bel.frame _, fun h => by cases h⟩
set_option maxRecDepth 100000 in
theorem lifted (os : Os) (started : os.Started) (H : Type) (enc : TypeId × Value → H) :
    ReturnsInHanded {} Try.checked os 6 .any (Rows.cachesBrokenSpec.pre6 enc Try.prog Try.f6 Rows.cachesBrokenRow.domain false) (Rows.cachesBrokenSpec.post enc Try.prog Try.f6 false true false false) := by
  refine returnsInHanded_of_change_sized (C := Try.checked) own started (by kernel_rfl) Try.func6
    (ChangeSpec.witness6 (enc := enc) (C := Try.checked) false ⟨#[], #[.slice none 0 0], []⟩ 8 (by kernel_rfl) (by kernel_rfl) (by kernel_rfl) (by kernel_rfl)) ?_
  intro W base args ds gs before hval0 hW hcnd hsz _
  exact contract H enc W base args ds gs before hval0 hW hsz
set_option maxHeartbeats 0 in
theorem over : Rows.cachesBrokenRow.holds Try.pinned (OpenSpec.ofChange Rows.cachesBrokenSpec) :=
  OpenClaim.holds_of_wide 6 Try.f6 rfl rfl rfl rfl rfl rfl rfl ⟨rfl, rfl, rfl, rfl, rfl⟩ rfl rfl rfl rfl rfl (by as_aux_lemma => kernel_rfl) Try.func6 (by as_aux_lemma => kernel_rfl)
    (of_decide_eq_true (by as_aux_lemma => kernel_rfl)) (by as_aux_lemma => unfold Func.isWrapper; first | (rw [if_pos (by decide +kernel)]; kernel_rfl) | (rw [if_neg (by decide +kernel)]; exact ⟨rfl, rfl⟩))
    (fun os started H enc _ => lifted os started H enc)
theorem proved : Rows.CachesBrokenSaid :=
  over
#print axioms proved
end Go.Proofs.Ythkmmbalodedkaa.cachesBroken
namespace Go.Proofs.Ythkmmbalodedkaa
theorem cachesBroken_holds : Rows.CachesBrokenSaid := cachesBroken.proved
end Go.Proofs.Ythkmmbalodedkaa
