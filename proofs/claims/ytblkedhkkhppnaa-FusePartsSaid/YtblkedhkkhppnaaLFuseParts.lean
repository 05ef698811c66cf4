/- For every function the call of FuseParts returns true, and its argument reads as before; no condition. -/
import Derived.Test.YtblkedhkkhppnaaDo
import Derived.Test.YtblkedhkkhppnaaRows
import Derived.ProofKit
import Derived.OpenShut
import Derived.Carry
import Derived.JoinedOf
import Derived.SizedLaws
namespace Go.Proofs.Ytblkedhkkhppnaa.fuseParts
open Go.ChangeShapes Go.WideShapes Go.ChangeAt Go.RowKit Go.Deep Go
set_option linter.unusedSimpArgs false
set_option linter.unusedVariables false
/-- an instruction, as it is read behind a beginning. -/
theorem at_one {w : World} {b off i : Nat} {e : En} (h : At w b off (i + 1) e) : w.cell? ⟨b, off + i * 4 + 4, none⟩ = some (.int .i64 e.s) ∧ w.cell? ⟨b, off + i * 4 + 5, none⟩ = some (.int .i64 e.h) ∧ w.cell? ⟨b, off + i * 4 + 6, none⟩ = some (.int .i64 e.o) ∧ w.cell? ⟨b, off + i * 4 + 7, none⟩ = some (.int .i64 e.c) := by
  obtain ⟨h0, h1, h2, h3⟩ := h
  rw [show off + (i + 1) * 4 = off + i * 4 + 4 by omega] at h0 h1 h2 h3
  exact ⟨h0, h1, h2, h3⟩
theorem at_two {w : World} {b off i : Nat} {e : En} (h : At w b off (i + 2) e) : w.cell? ⟨b, off + i * 4 + 8, none⟩ = some (.int .i64 e.s) ∧ w.cell? ⟨b, off + i * 4 + 9, none⟩ = some (.int .i64 e.h) ∧ w.cell? ⟨b, off + i * 4 + 10, none⟩ = some (.int .i64 e.o) ∧ w.cell? ⟨b, off + i * 4 + 11, none⟩ = some (.int .i64 e.c) := by
  obtain ⟨h0, h1, h2, h3⟩ := h
  rw [show off + (i + 2) * 4 = off + i * 4 + 8 by omega] at h0 h1 h2 h3
  exact ⟨h0, h1, h2, h3⟩
set_option maxRecDepth 100000 in
set_option maxHeartbeats 8000000 in
theorem walk (w : World) (h : Hd) (C : List En) (T : List Tr) (hi : h.Is w C T) (hcc : h.nc ≤ h.cc) (hmx : h.cc ≤ 9223372036854775807) :
    Calls Try.prog 6 #[h.v] w fun e w' => e = .returned (.bool true) ∧ Below w.heap.size w w' := by
  have B0 := Lib.hid (below_new w (.cells h.b 27))
  have hnc := hi.nc
  have K1 := groups_calls (h.box w) h C T (hi.later B0.out) hcc hmx
  have HALL := Lib.hid (fun (wr : World) (b : Below (h.box w).heap.size (h.box w) wr) => Hd.eight (h.all b))
  have hlg := grps_len (has (jmp C ++ tgt T)) C
  have hl := reads_len hi.code
  have HL := Lib.hid hl
  have HI := Lib.hid hi
  rw [hl] at hlg
  have hmem := fun (e : Tr) (he : e ∈ grps (has (jmp C ++ tgt T)) C) => grps_mem he
  have AL := Lib.hid alive10
  generalize has (jmp C ++ tgt T) = J at *
  generalize grps J C = G at *
  have HMEM := Lib.hid hmem
  unfold Hd.v at *
  unfold Hd.box Hd.b at K1
  replace K1 := Lib.hid K1
  clear hi hl hmem
  go_enter Try.func6, Try.ntmps6
  go_wp2_with (first | (go_at_call 7; (with_reducible refine K1.out.mono ?_); rintro r w1 ⟨A, n, c, rfl, hrd, hb1⟩; have HR1 := Lib.hid hrd; have HB1 := Lib.hid hb1; have hn := reads_len3 hrd; have HN := Lib.hid hn; have hnn : n ≤ h.nc := (by omega); clear hrd hb1 hn hlg))
  go_loopg [10] n (fun f i wr => ∃ k : Nat, i = .int .i64 k ∧ k + f = n ∧ Below w1.heap.size w1 wr)
  case atStart => exact ⟨0, rfl, by omega, Below.refl _ _⟩
  case round =>
    obtain ⟨k, rfl, hf, hB⟩ := hrel
    have HB := Lib.hid hB
    have hbw := below_via HB1.out hB
    obtain ⟨_, _, _, _, i4, _, _, _, ilt⟩ := HALL.out wr hbw
    by_cases hk : k < n
    · obtain ⟨e, hx⟩ : ∃ e, G[k]? = some e := ⟨_, List.getElem?_eq_getElem (by have := HN.out; omega)⟩
      obtain ⟨b0, off0, hA, hb0, x0, x1, x2⟩ := reads_at3 ((HR1.out.below hB).more hB.size) hx
      subst hA
      obtain ⟨i, hi, rfl⟩ := HMEM.out e (List.mem_of_getElem? hx)
      have hk' : (k : Int) < n := by omega
      obtain ⟨f', hf'⟩ : ∃ f', gk = f' + 1 := ⟨gk - 1, by omega⟩
      have HF' := Lib.hid hf'
      have HF := Lib.hid hf
      have hsa := gat_says J C i hi
      obtain ⟨g1, g2, g3⟩ := gat_bd J C i hi
      obtain ⟨_, _, s3⟩ := span_bd J C.length i hi
      have hcode := ((HI.out.later B0.out).later hbw).code
      obtain ⟨a, ha⟩ : ∃ a, C[i]? = some a := ⟨_, List.getElem?_eq_getElem hi⟩
      obtain ⟨b, off, hAc, hbl, a0, a1, a2, a3⟩ := reads_at hcode ha
      rw [HL.out] at hi s3 g3
      have HCODE := Lib.hid hcode
      have HAC := Lib.hid hAc
      have HA := Lib.hid ha
      rw [hAc] at i4
      have fin : ∀ m, Below w1.heap.size w1 ((wr.alloc (.cells #[.int .i64 i, .int .i64 (gat J C i).2, .int .i64 (gat J C i).1] 32)).drewN m) := fun m => below_drewN (below_alloc HB.out _) m
      simp only at x0 x1 x2 fin
      generalize gat J C i = g at *
      clear hx hf hf' hB hbw hcode ha hAc
      rcases hsa with rfl | ⟨p, q, r, rfl, h0, h1, h2, ht⟩ | ⟨p, q, h0, h1, ht⟩
      · have FIN := Lib.hid fin
        have hiq : (i : Int) + 1 ≤ h.nc := by omega
        have hw1 : IntKind.i64.wrap ((i : Int) + 1) = (i : Int) + 1 := IntWalk.i64_in _ (by omega)
        clear fin g1 g2 g3 s3
        go_wp2
        go_roundg f'
        case measure => have := HF'.out; omega
        case rel => exact ⟨k + 1, by simp, by have := HF'.out; have := HF.out; omega, FIN.out 0⟩
      · have FIN := Lib.hid fin
        rw [HA.out] at h0
        cases h0
        obtain ⟨b', off', hA', _, q0⟩ := reads_at HCODE.out h1
        rw [HAC.out] at hA'
        cases hA'
        obtain ⟨b', off', hA', _, r0⟩ := reads_at HCODE.out h2
        rw [HAC.out] at hA'
        cases hA'
        obtain ⟨q0, q1, q2, q3⟩ := at_one q0
        obtain ⟨r0, r1, r2, r3⟩ := at_two r0
        obtain ⟨e1, e2, e3, e3', e4, e5⟩ := three_all ht
        replace e4 := beq_sym e4
        replace e5 := beq_sym e5
        have hiq : (i : Int) + 3 ≤ h.nc := by simp only at g3; omega
        have hw1 : IntKind.i64.wrap ((i : Int) + 3) = (i : Int) + 3 := IntWalk.i64_in _ (by omega)
        clear fin g1 g2 g3 s3 h1 h2 ht
        as_aux_lemma =>
          as_aux_lemma =>
            go_wp2
            go_quiet (fail)
            go_wp2
            go_roundg f'
            case measure => have := HF'.out; omega
            case rel => exact ⟨k + 1, by simp, by have := HF'.out; have := HF.out; omega, FIN.out _⟩
      · have FIN := Lib.hid fin
        rw [HA.out] at h0
        cases h0
        obtain ⟨b', off', hA', _, q0⟩ := reads_at HCODE.out h1
        rw [HAC.out] at hA'
        cases hA'
        obtain ⟨q0, q1, q2, q3⟩ := at_one q0
        rcases ht with ⟨rfl, ht⟩ | ⟨rfl, ht⟩ | ⟨rfl, ht⟩
        all_goals
          have hiq : (i : Int) + 2 ≤ h.nc := by simp only at g3; omega
          have hw1 : IntKind.i64.wrap ((i : Int) + 2) = (i : Int) + 2 := IntWalk.i64_in _ (by omega)
          clear fin g1 g2 g3 s3 h1
        · obtain ⟨e1, e2, e3, e4⟩ := isT_all ht
          clear ht
          rcases e3 with e3 | ⟨e3, e5⟩
          · as_aux_lemma =>
              go_wp2
              go_quiet (fail)
              go_wp2
              go_roundg f'
              case measure => have := HF'.out; omega
              case rel => exact ⟨k + 1, by simp, by have := HF'.out; have := HF.out; omega, FIN.out _⟩
          · as_aux_lemma =>
              go_wp2
              go_quiet (fail)
              go_wp2
              go_roundg f'
              case measure => have := HF'.out; omega
              case rel => exact ⟨k + 1, by simp, by have := HF'.out; have := HF.out; omega, FIN.out _⟩
        · obtain ⟨e1, e2, e3⟩ := isF_all ht
          replace e3 := beq_sym e3
          clear ht
          as_aux_lemma =>
            go_wp2
            go_quiet (fail)
            go_wp2
            go_roundg f'
            case measure => have := HF'.out; omega
            case rel => exact ⟨k + 1, by simp, by have := HF'.out; have := HF.out; omega, FIN.out _⟩
        · obtain ⟨e1, e2⟩ := isM_all ht
          clear ht
          go_wp2
          go_roundg f'
          case measure => have := HF'.out; omega
          case rel => exact ⟨k + 1, by simp, by have := HF'.out; have := HF.out; omega, FIN.out 0⟩
    · have hk' : ¬ (k : Int) < n := by omega
      clear hf hB hbw
      go_wp2_with (first | (go_at_call 9; (with_reducible refine (AL.out _).mono ?_); rintro r w3 ⟨rfl, hb3⟩))
      go_ret
      exact ⟨rfl, below_via B0.out (below_via HB1.out (below_via HB.out hb3))⟩
theorem call {H : Type} {enc : TypeId × Value → H} {W : World} {base : Nat} {v0 : Value} {d0 : DataW H} {p0 : List MemPlace}
    (o0 : Value.okWide Try.prog W .any base 27 v0) (h0 : DataW.Trod enc Try.prog W 0 (fun _ => true) true 27 v0 d0 p0) (z0 : ∀ n ∈ d0.weights Try.prog 27, n ≤ reachBytes) :
    Calls Try.prog 6 #[v0] W fun e w' => e = .returned (.bool true) ∧ Below W.heap.size W w' := by
  obtain ⟨h, C, T, rfl, hi, hcc, hmx⟩ := open_func o0 h0 z0
  exact walk W h C T hi hcc hmx
theorem own : ownKnob Try.prog.godebug = none := by kernel_rfl
theorem laidOut : laidOutB Try.prog = true := by kernel_rfl
set_option maxHeartbeats 0 in
/-- what the walk gives. -/
theorem contract (H : Type) (enc : TypeId × Value → H) (W : World) (base : Nat) (args : Array Value) (ds gs : List (DataW H)) (before : List MemPlace)
    (hval : ∀ (j : Nat) t v, Try.f6.params[j]? = some t → args[j]? = some v → Value.okWide Try.prog W .any base t v)
    (hW : DataW.Whole enc Try.prog Try.f6.params.toList Rows.fusePartsSpec.vars false W args.toList ds gs before) (hsz : (DataW.weightsEach Try.prog (Try.f6.params.toList ++ Rows.fusePartsSpec.plain.varTypes Try.prog) (ds ++ gs)).all (· ≤ reachBytes) = true) :
    Calls Try.prog 6 args W fun e W' => ∃ v, e = .returned v ∧ Rows.fusePartsSpec.post enc Try.prog Try.f6 false true false false W args v W' := by
  have hW' := hW
  obtain ⟨p, q, hA0, hV, rfl, hfz, hnd⟩ := hW
  have hA : DataW.TrodAll enc Try.prog W 0 (fun _ => true) true Try.f6.params.toList args.toList ds p := hA0
  rw [Try.params6] at hA hval hsz
  obtain ⟨v0, vs0, d0, ds0, p0, q0, hargs, rfl, rfl, h0, r0⟩ := trodAll_cons hA
  obtain ⟨rfl, rfl, rfl⟩ := trodAll_nil r0
  obtain rfl : args = #[v0] := by cases args; simp_all
  obtain ⟨rfl, rfl⟩ := trodVars_none hV
  clear hA0
  simp only [List.append_nil] at hW'
  have lt0 : ∀ x ∈ p0, x.block < W.heap.size := fun x hx => hW'.lt x (by simp [hx])
  refine (call (hval 0 27 v0 rfl rfl) h0 (fun n hn => by have := List.all_eq_true.1 hsz n (DataW.weights_mem_each (j := 0) (t := 27) rfl rfl n hn); simpa using this)).mono fun e W' ⟨he, bel⟩ => ?_
  subst he
  exact ⟨_, rfl, _, _, _, [], _, [], hW', (trodAll_cons_mk (shut_bool Try.underlying4 _) trodAll_mk0), (trodAll_cons_mk (Below.trod laidOut (by kernel_rfl) (of_decide_eq_true (by kernel_rfl)) h0 bel lt0) trodAll_mk0), rfl, bel.frame _, fun h => by cases h⟩
set_option maxRecDepth 100000 in
theorem lifted (os : Os) (started : os.Started) (H : Type) (enc : TypeId × Value → H) :
    ReturnsInHanded {} Try.checked os 6 .any (Rows.fusePartsSpec.pre6 enc Try.prog Try.f6 Rows.fusePartsRow.domain false) (Rows.fusePartsSpec.post enc Try.prog Try.f6 false true false false) := by
  refine returnsInHanded_of_change_sized (C := Try.checked) own started (by kernel_rfl) Try.func6
    (ChangeSpec.witness6 (enc := enc) (C := Try.checked) false ⟨#[], #[.agg #[.string ⟨#[]⟩, .int .i64 0, .int .i64 0, .bool false, .slice none 0 0, .slice none 0 0, .slice none 0 0, .slice none 0 0]], []⟩ 8 (by kernel_rfl) (by kernel_rfl) (by kernel_rfl) (by kernel_rfl)) ?_
  intro W base args ds gs before hval0 hW hcnd hsz _
  exact contract H enc W base args ds gs before hval0 hW hsz
set_option maxHeartbeats 0 in
theorem over : Rows.fusePartsRow.holds Try.pinned (OpenSpec.ofChange Rows.fusePartsSpec) :=
  OpenClaim.holds_of_wide 6 Try.f6 rfl rfl rfl rfl rfl rfl rfl ⟨rfl, rfl, rfl, rfl, rfl⟩ rfl rfl rfl rfl rfl (by as_aux_lemma => kernel_rfl) Try.func6 (by as_aux_lemma => kernel_rfl)
    (of_decide_eq_true (by as_aux_lemma => kernel_rfl)) (by as_aux_lemma => unfold Func.isWrapper; first | (rw [if_pos (by decide +kernel)]; kernel_rfl) | (rw [if_neg (by decide +kernel)]; exact ⟨rfl, rfl⟩))
    (fun os started H enc _ => lifted os started H enc)
theorem proved : Rows.FusePartsSaid :=
  over
#print axioms proved
end Go.Proofs.Ytblkedhkkhppnaa.fuseParts
namespace Go.Proofs.Ytblkedhkkhppnaa
theorem fuseParts_holds : Rows.FusePartsSaid := fuseParts.proved
end Go.Proofs.Ytblkedhkkhppnaa
