/- For every slice of ints the call of CachesFew returns true, and its argument reads as before; no condition. -/
import Derived.Test.YthkmmbalodedkaaCk
import Derived.Test.YthkmmbalodedkaaRows
import Derived.ProofKit
import Derived.OpenShut
import Derived.Carry
import Derived.JoinedOf
import Derived.SizedLaws
namespace Go.Proofs.Ythkmmbalodedkaa.cachesFew
open Go.ChangeShapes Go.WideShapes Go.ChangeAt Go.RowKit Go.Deep Go
set_option linter.unusedSimpArgs false
set_option linter.unusedVariables false
set_option maxRecDepth 100000 in
set_option maxHeartbeats 4000000 in
theorem walk (w : World) (A : Option Addr) (m c : Nat) (L : List Int) (hr : Reads w w.heap.size 1 A m (ints L)) (hm : m * 8 ≤ 140737488351232) :
    Calls Try.prog 5 #[.slice A m c] w fun e w' => e = .returned (.bool true) ∧ Below w.heap.size w w' := by
  obtain ⟨i3, hi3, hz30, hz31, hz32⟩ := info_parts info3
  have hl : L.length = m := by have := hr.1; simpa [ints] using this
  have HR := Lib.hid hr
  have HL := Lib.hid hl
  have F0 := Lib.hid (few_new w)
  have AL := Lib.hid alive15
  clear hr hl
  go_enter Try.func5, Try.ntmps5
  go_wp2
  go_loopg [5, 17] m (fun f mv i wr => ∃ (k : Nat) (st : Int) (As : Option Addr) (n cs : Nat) (S : List En) (Am : Option Addr) (cm : Nat), i = .int .i64 k ∧ k + f = m ∧ mv = .slice Am n cm ∧ Few w wr w.heap.size st As n cs S (.slice Am n cm))
  case atStart => exact ⟨0, 0, none, 0, 0, [], none, 0, rfl, by omega, rfl, F0.out⟩
  case round =>
    obtain ⟨k, st, As, n, cs, S, Am, cm, rfl, hf, rfl, hF⟩ := hrel
    have HF0 := Lib.hid hF
    have hn4 : n ≤ 4 := hF.site.len
    obtain ⟨s0, s1, f0, f1⟩ := hF.site.two
    have hlt := hF.site.lt
    have HB := Lib.hid hF.site.bel
    by_cases hk : k < m
    · obtain ⟨x, hx⟩ : ∃ x, L[k]? = some x := ⟨_, List.getElem?_eq_getElem (by have := HL.out; omega)⟩
      obtain ⟨b, off, hA, cx⟩ := reads_int (HR.out.below hF.site.bel) hx
      subst hA
      have hk' : (k : Int) < m := by omega
      obtain ⟨f', hf'⟩ : ∃ f', gk = f' + 1 := ⟨gk - 1, by omega⟩
      have HF' := Lib.hid hf'
      have HF := Lib.hid hf
      have KI := in_calls' wr Am n cm (shp S) x (Reads.of_own hF.row) (by omega)
      have hstt : st < 3 := hF.st
      cases hh : has (shp S) x
      · rw [hh] at KI
        replace KI := Lib.hid KI
        by_cases h4 : n = 4
        · subst h4
          clear hF hx hf hf' hh
          go_wp2_with (first | (go_at_call 9; (with_reducible refine KI.out.mono ?_); rintro r w1 ⟨rfl, rfl⟩) | (go_at_call 12; refine (AL.out _).mono ?_; rintro r w1 ⟨rfl, hb1⟩))
          go_ret
          exact ⟨rfl, below_via HB.out hb1⟩
        · have h4b : ((n : Int) == 4) = false := beq_eq_false_iff_ne.2 (by omega)
          have hb0 : Below wr.heap.size wr (wr.alloc (.cells #[.int .i64 x] 3)) := (Below.refl _ _).alloc (Nat.le_refl _) _
          have ro := Lib.hid (own_below hb0 hF.row)
          have HB0 := Lib.hid hb0
          have HX := Lib.hid hh
          obtain ⟨st', hst', hle⟩ := few_learn hh (by have := hF.site.n; omega) hF.st
          have KF := fun (w1 : World) (hr : Reads w1 w1.heap.size 4 As n (ef S)) => find_calls w1 st x As n cs S 17 #[] yes (asks17 _) hr (by omega)
          rw [few_none hh, fndV_none] at KF
          unfold siteV at KF
          replace KF := Lib.hid KF
          have KL := fun (w1 : World) (hr : Reads w1 w1.heap.size 4 As n (ef S)) => learn_calls w1 st As n cs S (eX x) 17 #[] yes (asks17 _) hr (by omega)
          rw [hle] at KL
          have KL2 := fun (w1 : World) (hr : Reads w1 w1.heap.size 4 As n (ef S)) => (KL w1 hr).mono fun r w2 h => few_site h hF.site.n
          clear KL
          unfold siteV En.v at KL2
          have KL := Lib.hid KL2
          clear KL2
          have HST := Lib.hid hst'
          have HN := Lib.hid hF.site.n
          clear hF hx hf hf' hh hle hst' hb0
          go_wp2_with (first | (go_at_call 9; (with_reducible refine KI.out.mono ?_); rintro r w1 ⟨rfl, rfl⟩) | (at_builtin; refine wpList_append_any _ rfl (.tmp 29) (.tmp 31) 27 rfl _ 3 i3 _ 1 8 Try.underlying27 hi3 hz30 hz31 hz32 rfl (by decide) _ _ _ rfl ro.out (wr.heap.size + 1) _ 1 1 [.int .i64 x] rfl (Reads_int _ _) (by intro u hu; simp at hu; subst hu; rfl) (by unfold maxLen; omega) (by omega) (by have := HB0.out.size; omega) ?_; intro v1 w1 hown hgrow _; have M1 := HF0.out.met HB0.out hgrow hown; obtain ⟨Am1, cm1, rfl, _⟩ := own_slice hown; obtain ⟨q0, q1, p0, p1⟩ := M1.site.two; have hlt1 := M1.site.lt; replace M1 := Lib.hid M1; clear hown hgrow) | (go_at_call 10; (with_reducible refine (KF.out w1 M1.out.site.rd).mono ?_); rintro r w2 ⟨rfl, hb2⟩; have M2 := M1.out.later (hb2.trans ((Below.refl _ _).alloc hb2.size (.cells #[.int .i64 0, .int .i64 0, .int .i64 0, .int .i64 0] 26))); obtain ⟨y0, y1, z0, z1⟩ := (M1.out.later hb2).site.two; have hlt2 := (M1.out.later hb2).site.lt; replace M2 := Lib.hid M2; clear hb2) | (go_at_call 14; (with_reducible refine (KL.out _ M2.out.site.rd).mono ?_); rintro r w3 ⟨A3, c3, rfl, ho3, hb3⟩; have M3 := M2.out.later hb3; obtain ⟨r0, r1, d0, d1⟩ := M3.site.two; have hlt3 := M3.site.lt; have F3 := Lib.hid (M2.out.put hb3 (by have := HN.out; omega) HX.out HF0.out.un HST.out ho3); clear hb3 ho3 M3))
          have hn1 : n + 1 ≤ 4 := by omega
          clear s0 s1 f0 f1 q0 q1 p0 p1 y0 y1 z0 z1 r0 r1 d0 d1 cx hlt1 hlt2 hlt3
          go_loopg [49] (n + 1) (fun f i wr3 => ∃ j : Nat, i = .int .i64 j ∧ j + f = (n + 1) ∧ Few w wr3 w.heap.size st' A3 (n + 1) c3 (S ++ [eX x]) (.slice Am1 (n + 1) cm1))
          case atStart => exact ⟨0, rfl, by omega, F3.out⟩
          case round =>
            rename World => wr3
            obtain ⟨j, rfl, hfj, hF3⟩ := hrel
            have HF3 := Lib.hid hF3
            have hn3 : (n + 1) ≤ 4 := hF3.site.len
            obtain ⟨t0, t1, g0, g1⟩ := hF3.site.two
            have hlt3 := hF3.site.lt
            by_cases hj : j < (n + 1)
            · obtain ⟨e, hxe⟩ : ∃ e, ((S ++ [eX x]))[j]? = some e := ⟨_, List.getElem?_eq_getElem (by have := hF3.site.n; omega)⟩
              have cj := (few_at hF3.row hxe)
              have hj' : (j : Int) < ((n + 1) : Nat) := by omega
              obtain ⟨h', hh'⟩ : ∃ f', gk = f' + 1 := ⟨gk - 1, by omega⟩
              have HH' := Lib.hid hh'
              have HFJ := Lib.hid hfj
              have K := find_calls wr3 st' e.s A3 (n + 1) c3 ((S ++ [eX x])) 17 #[] yes (asks17 _) hF3.site.rd (by omega)
              rw [fnd_at hF3.un (List.mem_of_getElem? hxe), hld_yes, if_pos rfl, fndV_some] at K
              unfold siteV at K
              replace K := Lib.hid K
              obtain ⟨gm, hAm, hcj⟩ := cj
              subst hAm
              clear hxe hfj hh' hF3
              go_wp2_with (first | (go_at_call 10; (with_reducible refine K.out.mono ?_); rintro r w4 ⟨rfl, hb4⟩; have SP := Lib.hid (HF3.out.later hb4); clear hb4))
              go_roundg h'
              case measure => have := HH'.out; omega
              case rel => exact ⟨j + 1, by simp, by have := HH'.out; have := HFJ.out; omega, SP.out.later ((Below.refl _ _).alloc (Nat.le_refl _) _)⟩
            · have hj' : ¬ (j : Int) < ((n + 1) : Nat) := by omega
              clear hF3 hfj
              go_wp2
              go_roundg f'
              case measure => have := HF'.out; omega
              case rel => exact ⟨k + 1, _, _, _, _, _, _, _, by simp, by have := HF'.out; have := HF.out; omega, rfl, HF3.out⟩
      · rw [hh] at KI
        replace KI := Lib.hid KI
        obtain ⟨e', he'⟩ := few_some hh
        have KF := fun (w1 : World) (hr : Reads w1 w1.heap.size 4 As n (ef S)) => find_calls w1 st x As n cs S 17 #[] yes (asks17 _) hr (by omega)
        rw [he', fndV_some] at KF
        unfold siteV at KF
        replace KF := Lib.hid KF
        clear hF hx hf hf' hh he'
        go_wp2_with (first | (go_at_call 9; (with_reducible refine KI.out.mono ?_); rintro r w1 ⟨rfl, rfl⟩) | (go_at_call 10; (with_reducible refine (KF.out _ HF0.out.site.rd).mono ?_); rintro r w2 ⟨rfl, hb2⟩; have M2 := Lib.hid (HF0.out.later (hb2.trans ((Below.refl _ _).alloc hb2.size (.cells #[.int .i64 e'.s, .int .i64 e'.h, .int .i64 e'.o, .int .i64 e'.c] 26)))); clear hb2))
        clear s0 s1 f0 f1 cx
        go_loopg [49] n (fun f i wr3 => ∃ j : Nat, i = .int .i64 j ∧ j + f = n ∧ Few w wr3 w.heap.size st As n cs S (.slice Am n cm))
        case atStart => exact ⟨0, rfl, by omega, M2.out⟩
        case round =>
          rename World => wr3
          obtain ⟨j, rfl, hfj, hF3⟩ := hrel
          have HF3 := Lib.hid hF3
          have hn3 : n ≤ 4 := hF3.site.len
          obtain ⟨t0, t1, g0, g1⟩ := hF3.site.two
          have hlt3 := hF3.site.lt
          by_cases hj : j < n
          · obtain ⟨e, hxe⟩ : ∃ e, (S)[j]? = some e := ⟨_, List.getElem?_eq_getElem (by have := hF3.site.n; omega)⟩
            have cj := (few_at hF3.row hxe)
            have hj' : (j : Int) < (n : Nat) := by omega
            obtain ⟨h', hh'⟩ : ∃ f', gk = f' + 1 := ⟨gk - 1, by omega⟩
            have HH' := Lib.hid hh'
            have HFJ := Lib.hid hfj
            have K := find_calls wr3 st e.s As n cs (S) 17 #[] yes (asks17 _) hF3.site.rd (by omega)
            rw [fnd_at hF3.un (List.mem_of_getElem? hxe), hld_yes, if_pos rfl, fndV_some] at K
            unfold siteV at K
            replace K := Lib.hid K
            obtain ⟨gm, hAm, hcj⟩ := cj
            subst hAm
            clear hxe hfj hh' hF3
            go_wp2_with (first | (go_at_call 10; (with_reducible refine K.out.mono ?_); rintro r w4 ⟨rfl, hb4⟩; have SP := Lib.hid (HF3.out.later hb4); clear hb4))
            go_roundg h'
            case measure => have := HH'.out; omega
            case rel => exact ⟨j + 1, by simp, by have := HH'.out; have := HFJ.out; omega, SP.out.later ((Below.refl _ _).alloc (Nat.le_refl _) _)⟩
          · have hj' : ¬ (j : Int) < (n : Nat) := by omega
            clear hF3 hfj
            go_wp2
            go_roundg f'
            case measure => have := HF'.out; omega
            case rel => exact ⟨k + 1, _, _, _, _, _, _, _, by simp, by have := HF'.out; have := HF.out; omega, rfl, HF3.out⟩
    · have e : k = m := by omega
      subst e
      have hstt : st < 3 := hF.st
      have HFl := Lib.hid (fun w1 (h : Below wr.heap.size wr w1) => (hF.later h).site.two)
      clear hF hf
      go_wp2_with (first | (go_at_call 12; refine (AL.out _).mono ?_; rintro r w1 ⟨rfl, hb1⟩; obtain ⟨q0, q1, p0, p1⟩ := HFl.out w1 hb1))
      go_ret
      exact ⟨rfl, below_via HB.out hb1⟩
theorem call {H : Type} {enc : TypeId × Value → H} {W : World} {base : Nat} {v0 : Value} {d0 : DataW H} {p0 : List MemPlace}
    (o0 : Value.okWide Try.prog W .any base 27 v0) (h0 : DataW.Trod enc Try.prog W 0 (fun _ => true) true 27 v0 d0 p0) (z0 : ∀ n ∈ d0.weights Try.prog 27, n ≤ reachBytes) :
    Calls Try.prog 5 #[v0] W fun e w' => e = .returned (.bool true) ∧ Below W.heap.size W w' := by
  obtain ⟨a, len, cap, rfl⟩ := okWide_slice Try.underlying27 o0
  obtain ⟨fuel, h⟩ := h0
  obtain ⟨A, n, c, l, hv, hr, hm⟩ := open_intsR (x := (d0, p0)) h z0
  rw [hv]
  exact walk W A n c l hr hm
theorem own : ownKnob Try.prog.godebug = none := by kernel_rfl
theorem laidOut : laidOutB Try.prog = true := by kernel_rfl
set_option maxHeartbeats 0 in
/-- what the walk gives. -/
theorem contract (H : Type) (enc : TypeId × Value → H) (W : World) (base : Nat) (args : Array Value) (ds gs : List (DataW H)) (before : List MemPlace)
    (hval : ∀ (j : Nat) t v, Try.f5.params[j]? = some t → args[j]? = some v → Value.okWide Try.prog W .any base t v)
    (hW : DataW.Whole enc Try.prog Try.f5.params.toList Rows.cachesFewSpec.vars false W args.toList ds gs before) (hsz : (DataW.weightsEach Try.prog (Try.f5.params.toList ++ Rows.cachesFewSpec.plain.varTypes Try.prog) (ds ++ gs)).all (· ≤ reachBytes) = true) :
    Calls Try.prog 5 args W fun e W' => ∃ v, e = .returned v ∧ Rows.cachesFewSpec.post enc Try.prog Try.f5 false true false false W args v W' := by
  have hW' := hW
  obtain ⟨p, q, hA0, hV, rfl, hfz, hnd⟩ := hW
  have hA : DataW.TrodAll enc Try.prog W 0 (fun _ => true) true Try.f5.params.toList args.toList ds p := hA0
  rw [Try.params5] at hA hval hsz
  obtain ⟨v0, vs0, d0, ds0, p0, q0, hargs, rfl, rfl, h0, r0⟩ := trodAll_cons hA
  obtain ⟨rfl, rfl, rfl⟩ := trodAll_nil r0
  obtain rfl : args = #[v0] := by cases args; simp_all
  obtain ⟨rfl, rfl⟩ := trodVars_none hV
  clear hA0
  simp only [List.append_nil] at hW'
  have lt0 : ∀ x ∈ p0, x.block < W.heap.size := fun x hx => hW'.lt x (by simp [hx])
  refine (call (hval 0 27 v0 rfl rfl) h0 (fun n hn => by have := List.all_eq_true.1 hsz n (DataW.weights_mem_each (j := 0) (t := 27) rfl rfl n hn); simpa using this)).mono fun e W' ⟨he, bel⟩ => ?_
  subst he
  exact ⟨_, rfl, _, _, _, [], _, [], hW', (trodAll_cons_mk (shut_bool Try.underlying4 _) trodAll_mk0), (trodAll_cons_mk (Below.trod laidOut (by kernel_rfl) (of_decide_eq_true (by kernel_rfl)) h0 bel lt0) trodAll_mk0), rfl, bel.frame _, fun h => by cases h⟩
set_option maxRecDepth 100000 in
theorem lifted (os : Os) (started : os.Started) (H : Type) (enc : TypeId × Value → H) :
    ReturnsInHanded {} Try.checked os 5 .any (Rows.cachesFewSpec.pre6 enc Try.prog Try.f5 Rows.cachesFewRow.domain false) (Rows.cachesFewSpec.post enc Try.prog Try.f5 false true false false) := by
  refine returnsInHanded_of_change_sized (C := Try.checked) own started (by kernel_rfl) Try.func5
    (ChangeSpec.witness6 (enc := enc) (C := Try.checked) false ⟨#[], #[.slice none 0 0], []⟩ 8 (by kernel_rfl) (by kernel_rfl) (by kernel_rfl) (by kernel_rfl)) ?_
  intro W base args ds gs before hval0 hW hcnd hsz _
  exact contract H enc W base args ds gs before hval0 hW hsz
set_option maxHeartbeats 0 in
theorem over : Rows.cachesFewRow.holds Try.pinned (OpenSpec.ofChange Rows.cachesFewSpec) :=
  OpenClaim.holds_of_wide 5 Try.f5 rfl rfl rfl rfl rfl rfl rfl ⟨rfl, rfl, rfl, rfl, rfl⟩ rfl rfl rfl rfl rfl (by as_aux_lemma => kernel_rfl) Try.func5 (by as_aux_lemma => kernel_rfl)
    (of_decide_eq_true (by as_aux_lemma => kernel_rfl)) (by as_aux_lemma => unfold Func.isWrapper; first | (rw [if_pos (by decide +kernel)]; kernel_rfl) | (rw [if_neg (by decide +kernel)]; exact ⟨rfl, rfl⟩))
    (fun os started H enc _ => lifted os started H enc)
theorem proved : Rows.CachesFewSaid :=
  over
#print axioms proved
end Go.Proofs.Ythkmmbalodedkaa.cachesFew
namespace Go.Proofs.Ythkmmbalodedkaa
theorem cachesFew_holds : Rows.CachesFewSaid := cachesFew.proved
end Go.Proofs.Ythkmmbalodedkaa
