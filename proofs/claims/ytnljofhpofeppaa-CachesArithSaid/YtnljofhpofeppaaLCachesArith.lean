/- For every slice of pairs of words and every slice of words the call of CachesArith returns true, and its arguments read as before; no condition. -/
import Derived.Test.YtnljofhpofeppaaCn
import Derived.Test.YtnljofhpofeppaaRows
import Derived.ProofKit
import Derived.OpenShut
import Derived.Carry
import Derived.JoinedOf
import Derived.SizedLaws
namespace Go.Proofs.Ytnljofhpofeppaa.cachesArith
open Go.ChangeShapes Go.WideShapes Go.ChangeAt Go.RowKit Go.Deep Go
set_option linter.unusedSimpArgs false
set_option linter.unusedVariables false
open Cz Fp
theorem pair_of {w w1 : World} {x y : Int} (h : Below (w.alloc (.cells #[.int .u64 x, .int .u64 y] 26)).heap.size (w.alloc (.cells #[.int .u64 x, .int .u64 y] 26)) w1) :
    w1.cell? ⟨w.heap.size, 0, none⟩ = some (.int .u64 x) ∧ w1.cell? ⟨w.heap.size, 1, none⟩ = some (.int .u64 y) ∧ w.heap.size < w1.heap.size := by
  have B := Blk.new w 26 #[.int .u64 x, .int .u64 y]
  have B1 := B.below h B.lt
  exact ⟨(B1.cell 0).trans rfl, (B1.cell 1).trans rfl, B1.lt⟩
set_option maxRecDepth 100000 in
set_option maxHeartbeats 4000000 in
theorem walk (w : World) (A A2 : Option Addr) (m c m2 c2 : Nat) (L : List (Int × Int)) (L2 : List Int) (hr : Reads w w.heap.size 2 A m (wp2s L)) (hm : m * 16 ≤ 140737488351232) (hu : ∀ e ∈ L, U64 e.1 ∧ U64 e.2)
    (hr2 : Reads w w.heap.size 1 A2 m2 (wds L2)) (hm2 : m2 * 8 ≤ 140737488351232) :
    Calls Try.prog 3 #[.slice A m c, .slice A2 m2 c2] w fun e w' => e = .returned (.bool true) ∧ Below w.heap.size w w' := by
  have hl : L.length = m := by have := hr.1; rw [wp2s_length] at this; omega
  have hl2 : L2.length = m2 := by have := hr2.1; simpa [wds] using this
  have HR := Lib.hid hr
  have HL := Lib.hid hl
  have HU := Lib.hid hu
  have HR2 := Lib.hid hr2
  have HL2 := Lib.hid hl2
  have AL := Lib.hid alive15
  clear hr hl hr2 hl2 hu
  go_enter Try.func3, Try.ntmps3
  go_wp2
  go_loopg [5, 17] m (fun f s i wr => ∃ (k : Nat) (st : Int), i = .int .i64 k ∧ s = .int .i64 st ∧ k + f = m ∧ 0 ≤ st ∧ st ≤ 3 ∧ Below w.heap.size w wr)
  case atStart => exact ⟨0, 0, rfl, rfl, by omega, by omega, by omega, Below.refl _ _⟩
  case round =>
    obtain ⟨k, st, rfl, rfl, hf, hs0, hs3, hB⟩ := hrel
    have HB := Lib.hid hB
    by_cases hk : k < m
    · obtain ⟨e, hx⟩ : ∃ e, L[k]? = some e := ⟨_, List.getElem?_eq_getElem (by have := HL.out; omega)⟩
      obtain ⟨b, off, hA, hbl, c0, c1⟩ := reads_at2 (HR.out.below hB) hx
      subst hA
      obtain ⟨u1, u2⟩ := HU.out e (List.mem_of_getElem? hx)
      have hk' : (k : Int) < m := by omega
      obtain ⟨f', hf'⟩ : ∃ f', gk = f' + 1 := ⟨gk - 1, by omega⟩
      have HF' := Lib.hid hf'
      have HF := Lib.hid hf
      have KA := Lib.hid (fun w => arith_calls st e.1 e.2 w u1 u2 hs0)
      have KR := Lib.hid (fun w => rarith_calls st e.1 e.2 w u1 u2)
      obtain ⟨t1, t2⟩ := arith_lo (a := e.1) (b := e.2) hs0 hs3
      generalize arith st e.1 e.2 = tt at *
      have T1 := Lib.hid t1
      have T2 := Lib.hid t2
      have HS := Lib.hid hs0
      have t3 : ¬ tt < st := by omega
      have HE := Lib.hid (fun (w1 : World) (h : Below (wr.alloc (.cells #[.int .u64 e.1, .int .u64 e.2] 26)).heap.size (wr.alloc (.cells #[.int .u64 e.1, .int .u64 e.2] 26)) w1) => pair_of h)
      clear hx hf hf' hB hs0 hs3 u1 u2 t1 t2
      go_wp2_with (first | (go_at_call 4; (with_reducible refine (KA.out _).mono ?_); rintro r w1 ⟨rfl, hb1⟩; obtain ⟨q0, q1, qlt⟩ := HE.out w1 hb1) | (go_at_call 5; (with_reducible refine (KR.out _).mono ?_); rintro r w2 ⟨rfl, rfl⟩))
      go_roundg f'
      case measure => have := HF'.out; omega
      case rel => exact ⟨k + 1, tt, by simp, rfl, by have := HF'.out; have := HF.out; omega, Int.le_trans HS.out T1.out, T2.out, below_via0 (below_alloc0 HB.out _) hb1⟩
    · have e : k = m := by omega
      subst e
      clear hf hB hs0 hs3
      go_wp2
      go_loopg [9, 10, 44] m2 (fun f s tg i wr2 => ∃ (k : Nat) (st tt : Int), i = .int .i64 k ∧ s = .int .i64 st ∧ tg = .int .u64 tt ∧ k + f = m2 ∧ (st = 0 ∨ st = 1 ∨ st = 2) ∧ Below w.heap.size w wr2)
      case atStart => exact ⟨0, 0, 0, rfl, rfl, rfl, by omega, .inl rfl, HB.out⟩
      case round =>
        obtain ⟨k, st, tt, rfl, rfl, rfl, hf, hst, hB⟩ := hrel
        have HB := Lib.hid hB
        by_cases hk : k < m2
        · obtain ⟨x, hx⟩ : ∃ x, L2[k]? = some x := ⟨_, List.getElem?_eq_getElem (by have := HL2.out; omega)⟩
          obtain ⟨b, off, hA, hbl, c0⟩ := reads_wd (HR2.out.below hB) hx
          subst hA
          have hk' : (k : Int) < m2 := by omega
          obtain ⟨f', hf'⟩ : ∃ f', gk = f' + 1 := ⟨gk - 1, by omega⟩
          have HF' := Lib.hid hf'
          have HF := Lib.hid hf
          have KC := fun w => call_calls st tt x w
          clear hx hf hf' hB
          have hcase : (st = 0 ∧ called st tt x = (1, x)) ∨ (st = 1 ∧ tt = x ∧ called st tt x = (1, tt)) ∨ (st = 1 ∧ tt ≠ x ∧ called st tt x = (2, 18445336698825998336)) ∨ (st = 2 ∧ called st tt x = (2, 18445336698825998336)) := by
            unfold called
            rcases hst with rfl | rfl | rfl
            · left; simp
            · by_cases h : tt = x
              · right; left; simp [h]
              · right; right; left; simp [h]
            · right; right; right; simp
          clear hst
          rcases hcase with ⟨rfl, hc⟩ | ⟨rfl, rfl, hc⟩ | ⟨rfl, hne, hc⟩ | ⟨rfl, hc⟩
          · rw [hc] at KC
            clear hc
            replace KC := Lib.hid KC
            have b1 : (x == x) = true := beq_self_eq_true _
            have b2 : (x != x) = false := by simp
            go_wp2_with (first | (go_at_call 6; (with_reducible refine (KC.out _).mono ?_); rintro r w2 ⟨rfl, rfl⟩))
            go_roundg f'
            case measure => have := HF'.out; omega
            case rel => exact ⟨k + 1, 1, _, by simp, rfl, rfl, by have := HF'.out; have := HF.out; omega, by simp, HB.out⟩
          · rw [hc] at KC
            clear hc
            replace KC := Lib.hid KC
            have b1 : (tt == tt) = true := beq_self_eq_true _
            have b2 : (tt != tt) = false := by simp
            go_wp2_with (first | (go_at_call 6; (with_reducible refine (KC.out _).mono ?_); rintro r w2 ⟨rfl, rfl⟩))
            go_roundg f'
            case measure => have := HF'.out; omega
            case rel => exact ⟨k + 1, 1, _, by simp, rfl, rfl, by have := HF'.out; have := HF.out; omega, by simp, HB.out⟩
          · rw [hc] at KC
            clear hc
            replace KC := Lib.hid KC
            have b1 : (x == tt) = false := beq_eq_false_iff_ne.2 (fun h => hne h.symm)
            have b2 : (x != tt) = true := by simp [bne, b1]
            clear hne
            go_wp2_with (first | (go_at_call 6; (with_reducible refine (KC.out _).mono ?_); rintro r w2 ⟨rfl, rfl⟩))
            go_roundg f'
            case measure => have := HF'.out; omega
            case rel => exact ⟨k + 1, 2, _, by simp, rfl, rfl, by have := HF'.out; have := HF.out; omega, by simp, HB.out⟩
          · rw [hc] at KC
            clear hc
            replace KC := Lib.hid KC
            go_wp2_with (first | (go_at_call 6; (with_reducible refine (KC.out _).mono ?_); rintro r w2 ⟨rfl, rfl⟩))
            go_roundg f'
            case measure => have := HF'.out; omega
            case rel => exact ⟨k + 1, 2, _, by simp, rfl, rfl, by have := HF'.out; have := HF.out; omega, by simp, HB.out⟩
        · have e : k = m2 := by omega
          subst e
          clear hf
          go_wp2_with (first | (go_at_call 7; refine (AL.out _).mono ?_; rintro r w1 ⟨rfl, hb1⟩))
          go_ret
          exact ⟨rfl, below_via0 HB.out hb1⟩
theorem call {H : Type} {enc : TypeId × Value → H} {W : World} {base : Nat} {v0 : Value} {d0 : DataW H} {p0 : List MemPlace} {v1 : Value} {d1 : DataW H} {p1 : List MemPlace}
    (o0 : Value.okWide Try.prog W .any base 22 v0) (h0 : DataW.Trod enc Try.prog W 0 (fun _ => true) true 22 v0 d0 p0) (o1 : Value.okWide Try.prog W .any base 23 v1) (h1 : DataW.Trod enc Try.prog W 0 (fun _ => true) true 23 v1 d1 p1) (z0 : ∀ n ∈ d0.weights Try.prog 22, n ≤ reachBytes) (z1 : ∀ n ∈ d1.weights Try.prog 23, n ≤ reachBytes) :
    Calls Try.prog 3 #[v0, v1] W fun e w' => e = .returned (.bool true) ∧ Below W.heap.size W w' := by
  obtain ⟨a, len, cap, rfl⟩ := okWide_slice Try.underlying22 o0
  obtain ⟨a', len', cap', rfl⟩ := okWide_slice Try.underlying23 o1
  obtain ⟨fuel, h⟩ := h0
  obtain ⟨fuel', h'⟩ := h1
  obtain ⟨A, n, c, l, hv, hr, hm, hu⟩ := open_pairs (x := (d0, p0)) h z0
  obtain ⟨A', n', c', l', hv', hr', hm'⟩ := open_wds (x := (d1, p1)) h' z1
  rw [hv, hv']
  exact walk W A A' n c n' c' l l' hr hm hu hr' hm'
theorem own : ownKnob Try.prog.godebug = none := by kernel_rfl
theorem laidOut : laidOutB Try.prog = true := by kernel_rfl
set_option maxHeartbeats 0 in
/-- what the walk gives. -/
theorem contract (H : Type) (enc : TypeId × Value → H) (W : World) (base : Nat) (args : Array Value) (ds gs : List (DataW H)) (before : List MemPlace)
    (hval : ∀ (j : Nat) t v, Try.f3.params[j]? = some t → args[j]? = some v → Value.okWide Try.prog W .any base t v)
    (hW : DataW.Whole enc Try.prog Try.f3.params.toList Rows.cachesArithSpec.vars false W args.toList ds gs before) (hsz : (DataW.weightsEach Try.prog (Try.f3.params.toList ++ Rows.cachesArithSpec.plain.varTypes Try.prog) (ds ++ gs)).all (· ≤ reachBytes) = true) :
    Calls Try.prog 3 args W fun e W' => ∃ v, e = .returned v ∧ Rows.cachesArithSpec.post enc Try.prog Try.f3 false true false false W args v W' := by
  have hW' := hW
  obtain ⟨p, q, hA0, hV, rfl, hfz, hnd⟩ := hW
  have hA : DataW.TrodAll enc Try.prog W 0 (fun _ => true) true Try.f3.params.toList args.toList ds p := hA0
  rw [Try.params3] at hA hval hsz
  obtain ⟨v0, vs0, d0, ds0, p0, q0, hargs, rfl, rfl, h0, r0⟩ := trodAll_cons hA
  obtain ⟨v1, vs1, d1, ds1, p1, q1, rfl, rfl, rfl, h1, r1⟩ := trodAll_cons r0
  obtain ⟨rfl, rfl, rfl⟩ := trodAll_nil r1
  obtain rfl : args = #[v0, v1] := by cases args; simp_all
  obtain ⟨rfl, rfl⟩ := trodVars_none hV
  clear hA0
  simp only [List.append_nil] at hW'
  have lt0 : ∀ x ∈ p0, x.block < W.heap.size := fun x hx => hW'.lt x (by simp [hx])
  have lt1 : ∀ x ∈ p1, x.block < W.heap.size := fun x hx => hW'.lt x (by simp [hx])
  refine (call (hval 0 22 v0 rfl rfl) h0 (hval 1 23 v1 rfl rfl) h1 (fun n hn => by have := List.all_eq_true.1 hsz n (DataW.weights_mem_each (j := 0) (t := 22) rfl rfl n hn); simpa using this) (fun n hn => by have := List.all_eq_true.1 hsz n (DataW.weights_mem_each (j := 1) (t := 23) rfl rfl n hn); simpa using this)).mono fun e W' ⟨he, bel⟩ => ?_
  subst he
  exact ⟨_, rfl, _, _, _, [], _, [], hW', (trodAll_cons_mk (shut_bool Try.underlying4 _) trodAll_mk0), (trodAll_cons_mk (Below.trod laidOut (by kernel_rfl) (of_decide_eq_true (by kernel_rfl)) h0 bel lt0) (trodAll_cons_mk (Below.trod laidOut (by kernel_rfl) (of_decide_eq_true (by kernel_rfl)) h1 bel lt1) trodAll_mk0)), rfl, bel.frame _, fun h => by cases h⟩
set_option maxRecDepth 100000 in
theorem lifted (os : Os) (started : os.Started) (H : Type) (enc : TypeId × Value → H) :
    ReturnsInHanded {} Try.checked os 3 .any (Rows.cachesArithSpec.pre6 enc Try.prog Try.f3 Rows.cachesArithRow.domain false) (Rows.cachesArithSpec.post enc Try.prog Try.f3 false true false false) := by
  refine returnsInHanded_of_change_sized (C := Try.checked) own started (by kernel_rfl) Try.func3
    (ChangeSpec.witness6 (enc := enc) (C := Try.checked) false ⟨#[], #[.slice none 0 0, .slice none 0 0], []⟩ 8 (by kernel_rfl) (by kernel_rfl) (by kernel_rfl) (by kernel_rfl)) ?_
  intro W base args ds gs before hval0 hW hcnd hsz _
  exact contract H enc W base args ds gs before hval0 hW hsz
set_option maxHeartbeats 0 in
theorem over : Rows.cachesArithRow.holds Try.pinned (OpenSpec.ofChange Rows.cachesArithSpec) :=
  OpenClaim.holds_of_wide 3 Try.f3 rfl rfl rfl rfl rfl rfl rfl ⟨rfl, rfl, rfl, rfl, rfl⟩ rfl rfl rfl rfl rfl (by as_aux_lemma => kernel_rfl) Try.func3 (by as_aux_lemma => kernel_rfl)
    (of_decide_eq_true (by as_aux_lemma => kernel_rfl)) (by as_aux_lemma => unfold Func.isWrapper; first | (rw [if_pos (by decide +kernel)]; kernel_rfl) | (rw [if_neg (by decide +kernel)]; exact ⟨rfl, rfl⟩))
    (fun os started H enc _ => lifted os started H enc)
theorem proved : Rows.CachesArithSaid :=
  over
#print axioms proved
end Go.Proofs.Ytnljofhpofeppaa.cachesArith
namespace Go.Proofs.Ytnljofhpofeppaa
theorem cachesArith_holds : Rows.CachesArithSaid := cachesArith.proved
end Go.Proofs.Ytnljofhpofeppaa
