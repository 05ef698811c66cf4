/- For every program the call of CodeWithin returns true, and its argument reads as before; the package-level table starts as the program's text lays it (the card ties it). -/
import Derived.Test.YteagkdmefmpokaaDoorEp
import Derived.Test.YteagkdmefmpokaaDoorCards
import Derived.Test.YteagkdmefmpokaaDoorTie
import Derived.ProofKit
import Derived.OpenShut
import Derived.Carry
import Derived.Deep.DeepHandedRow
import Derived.Lib.LaidTab
import Derived.JoinedOf
import Derived.SizedLaws
import Derived.JoinedCond
namespace Go.Proofs.YteagkdmefmpokaaDoor.codeWithin
open Go.ChangeShapes Go.WideShapes Go.ChangeAt Go.RowKit Go.Deep Go
set_option linter.unusedSimpArgs false
set_option linter.unusedVariables false
theorem fst_mem {x y : Int} {T : List Tr} (h : y ∈ fst x T) : ∃ t ∈ T, y = t.z := by
  unfold fst at h
  split at h
  · rename_i t ht
    exact ⟨t, List.mem_of_find?_eq_some ht, by simpa using h⟩
  · simp at h
/-- code that may be run goes on within itself. -/
theorem within_next {n : Nat} {Fs : List Fn} {F : Fn} {e : En} {k : Nat} (hc : chk n Fs = true) (hF : F ∈ Fs) (hl : F.C.length = F.hd.nc) (hx : F.C[k]? = some e) :
    (∀ y ∈ nxt F.hd.nc F.C F.T k, 0 ≤ y ∧ y < F.hd.nc) ∧ (nxt F.hd.nc F.C F.T k = [] → e.s = 55 ∨ e.s = 56) := by
  simp only [chk, Bool.and_eq_true] at hc
  have hf := List.all_eq_true.1 hc.2.1 F hF
  simp only [fnOk, Bool.and_eq_true, tail] at hf
  obtain ⟨hh, hC, hlast, hT⟩ := hf
  have hk : k < F.hd.nc := by have := (List.getElem?_eq_some_iff.1 hx).1; omega
  have hI := List.all_eq_true.1 hC e (List.mem_of_getElem? hx)
  have hn : nxt F.hd.nc F.C F.T k = (ahead F.hd.nc e k ++ jmp1 e) ++ fst k F.T := by unfold nxt; rw [if_pos ⟨by omega, by omega⟩]; simp [hx]
  have h57 : e.s = 57 → 0 ≤ e.h ∧ e.h < F.hd.nc := by
    intro h
    have hs : shp 57 = [116, 45, 45] := by decide
    rw [okI_eq, h, hs] at hI
    simp only [ltr, List.getD_cons_succ, List.getD_cons_zero, Bool.and_eq_true] at hI
    have := hI.2.1
    rw [show ((116 : UInt8).toNat : Int) = 116 from rfl, opd_t] at this
    exact within_true this
  have h589 : e.s = 58 ∨ e.s = 59 → 0 ≤ e.o ∧ e.o < F.hd.nc := by
    intro h
    have hs : shp e.s = [114, 116, 45] := by rcases h with h | h <;> rw [h] <;> decide
    rw [okI_eq, hs] at hI
    simp only [ltr, List.getD_cons_succ, List.getD_cons_zero, Bool.and_eq_true] at hI
    have := hI.2.2.1
    rw [show ((116 : UInt8).toNat : Int) = 116 from rfl, opd_t] at this
    exact within_true this
  constructor
  · intro y hy
    rw [hn, List.mem_append, List.mem_append] at hy
    rcases hy with (hy | hy) | hy
    · unfold ahead at hy
      split at hy
      · rename_i h; simp at hy; omega
      · simp at hy
    · unfold jmp1 at hy
      split at hy
      · rename_i h; simp at hy; subst hy; exact h57 h
      · split at hy
        · rename_i _ h; simp at hy; subst hy; exact h589 h
        · simp at hy
    · obtain ⟨t, ht, rfl⟩ := fst_mem hy
      have := List.all_eq_true.1 hT t ht
      simp only [okH, Bool.and_eq_true] at this
      exact within_true this.2.2.2
  · intro h0
    rw [hn, List.append_eq_nil_iff, List.append_eq_nil_iff] at h0
    obtain ⟨⟨ha, hj⟩, _⟩ := h0
    have he : ends e.s = true := by
      cases h : ends e.s
      · exfalso
        have hk1 : ¬ (k : Int) + 1 < F.hd.nc := by
          intro hlt
          unfold ahead at ha
          rw [if_pos ⟨h, hlt⟩] at ha
          cases ha
        have : lastE F = ends e.s := last_at (k := k) (by omega) hx
        rw [this, h] at hlast
        cases hlast
      · rfl
    have h57' : e.s ≠ 57 := by
      intro h
      unfold jmp1 at hj
      rw [if_pos h] at hj
      cases hj
    simp only [ends, Bool.or_eq_true, beq_iff_eq] at he
    omega
theorem nil_of {w : World} {B : Nat} {A : Option Addr} {L X : List Int} (hr : Reads w B 1 A 0 (ints L)) (hm : ∀ y, y ∈ L ↔ y ∈ X) : X = [] := by
  have hl : L = [] := List.eq_nil_of_length_eq_zero (by have := hr.1; simpa [ints] using this)
  subst hl
  exact List.eq_nil_iff_forall_not_mem.2 fun y hy => by have := (hm y).2 hy; simp at this
set_option maxRecDepth 100000 in
set_option maxHeartbeats 16000000 in
theorem walk (w : World) (hT : Tab w) (A : Option Addr) (n c : Nat) (Fs : List Fn) (hP : PIs w A n Fs) : Calls Tryd.prog 5 #[pv A n c] w fun e w' => e = .returned (.bool true) ∧ Below w.heap.size w w' := by
  have HB := Lib.hid (below_new w (.cells #[.slice A n c] 24))
  have HP := Lib.hid (fun (W : World) (b : Below (box1 w A n c).heap.size (box1 w A n c) W) => (hP.later (below_new w (.cells #[.slice A n c] 24))).later b)
  have HC := Lib.hid (fun (W : World) (b : Below (box1 w A n c).heap.size (box1 w A n c) W) => box1_cell b)
  have BL0 := Lib.hid (Below.refl (box1 w A n c).heap.size (box1 w A n c))
  have KA := Lib.hid (fun (W : World) (b : Below (box1 w A n c).heap.size (box1 w A n c) W) => alive_calls W ((hT.later HB.out).later b))
  have KC := check_calls (box1 w A n c) A n c Fs (hT.later HB.out) (hP.later HB.out)
  have hl := Lib.hid (reads_len8 hP.rd)
  have hn := hP.n
  unfold pv at *
  cases hc : chk n Fs
  · rw [hc] at KC
    have KC' := Lib.hid KC
    clear KC hP hT hc
    go_enter Tryd.func5, Tryd.ntmps5
    go_wp2_with (first | (go_at_call 10; (with_reducible refine KC'.out.mono ?_); rintro r w1 ⟨rfl, hb1⟩; rw [show chkV false = 80 from rfl]) | (go_at_call 9; (with_reducible refine (KA.out _ hb1).mono ?_); rintro r w2 ⟨rfl, hb2⟩))
    go_ret
    exact ⟨rfl, below_via HB.out (below_via hb1 hb2)⟩
  · rw [hc] at KC
    have KC' := Lib.hid KC
    have HCK := Lib.hid hc
    clear KC hP hT hc
    go_enter Tryd.func5, Tryd.ntmps5
    go_wp2_with (first | (go_at_call 10; (with_reducible refine KC'.out.mono ?_); rintro r w1 ⟨rfl, hb1⟩; obtain ⟨p0, plt⟩ := HC.out _ hb1; have HB1 := Lib.hid hb1; clear hb1; rw [show chkV true = 0 from rfl]))
    go_loopg [17] n (fun f i wr => ∃ k : Nat, i = .int .i64 k ∧ k + f = n ∧ Below (box1 w A n c).heap.size (box1 w A n c) wr)
    case atStart => exact ⟨0, rfl, by omega, HB1.out⟩
    case round =>
      clear p0 plt
      obtain ⟨k, rfl, hf, hB⟩ := hrel
      have HBR := Lib.hid hB
      have HFF := Lib.hid hf
      by_cases hk : k < n
      · obtain ⟨F, hx⟩ : ∃ F, Fs[k]? = some F := ⟨_, List.getElem?_eq_getElem (by have := hl.out; omega)⟩
        obtain ⟨b, off, hA, hbl, ⟨c0, c1, c2, c3, c4, c5, c6, c7⟩⟩ := reads_at8 (HP.out wr hB).rd hx
        have hmem := List.mem_of_getElem? hx
        have hk' : (k : Int) < n := by omega
        obtain ⟨f', hf'⟩ : ∃ f', gk = f' + 1 := ⟨gk - 1, by omega⟩
        have HF' := Lib.hid hf'
        have HAF := Lib.hid (below_new wr (.cells F.hd.b 36))
        have HM := Lib.hid hmem
        have hlc := Lib.hid (reads_len ((HP.out wr hB).is F hmem).his.code)
        have hnc := ((HP.out wr hB).is F hmem).his.nc
        have BF := Lib.hid (fun (W : World) (bb : Below (F.hd.box wr).heap.size (F.hd.box wr) W) => Hd.eight (F.hd.all bb))
        have BL := Lib.hid (Below.refl (F.hd.box wr).heap.size (F.hd.box wr))
        have c4' := (F.hd.cells (Below.refl _ (F.hd.box wr))).1
        unfold Hd.box Hd.b at c4'
        obtain ⟨Ac, hAc⟩ : ∃ A, F.hd.Ac = A := ⟨_, rfl⟩
        have HAc := Lib.hid hAc
        rw [hAc] at c4 c4'
        subst hA
        clear hx hf hf' hB hmem hAc
        go_wp2_with fail
        go_loopg [24] F.hd.nc (fun f i wr2 => ∃ j : Nat, i = .int .i64 j ∧ j + f = F.hd.nc ∧ Below (F.hd.box wr).heap.size (F.hd.box wr) wr2)
        case atStart => exact ⟨0, rfl, by omega, by have := BL.out; unfold Hd.box Hd.b at this ⊢; rw [HAc.out] at this ⊢; exact this⟩
        case round =>
          clear c4' c0 c1 c2 c3 c4 c5 c6 c7
          obtain ⟨j, rfl, hf, hB⟩ := hrel
          rename World => wr2
          have HBR2 := Lib.hid hB
          have HFF2 := Lib.hid hf
          have hbw := Lib.hid (below_via HBR.out (below_via HAF.out hB))
          by_cases hj : j < F.hd.nc
          · obtain ⟨⟨es, eh, eo, ec⟩, hx⟩ : ∃ e, F.C[j]? = some e := ⟨_, List.getElem?_eq_getElem (by have := hlc.out; omega)⟩
            obtain ⟨hw1, hw2⟩ := within_next HCK.out HM.out hlc.out hx
            have HW1 := Lib.hid hw1
            have HW2 := Lib.hid hw2
            obtain ⟨b2, off2, hA2, hbl2, ⟨d0, d1, d2, d3⟩⟩ := reads_at ((HP.out wr2 hbw.out).is F HM.out).his.code hx
            rw [HAc.out] at hA2
            subst hA2
            simp only at d0 d1 d2 d3
            have hj' : (j : Int) < F.hd.nc := by omega
            obtain ⟨f2, hf2⟩ : ∃ f2, gk = f2 + 1 := ⟨gk - 1, by omega⟩
            have HF2 := Lib.hid hf2
            have HAL := Lib.hid (below_new wr2 (.cells #[.int .i64 es, .int .i64 eh, .int .i64 eo, .int .i64 ec] 38))
            have HE := Lib.hid (fun (W : World) (bb : Below ((⟨es, eh, eo, ec⟩ : En).al wr2 38).heap.size ((⟨es, eh, eo, ec⟩ : En).al wr2 38) W) => (⟨es, eh, eo, ec⟩ : En).cells bb)
            obtain ⟨f0, f1, f2', f3, f4, f5, f6, f7, flt⟩ := BF.out _ hB
            have KN := next_calls (wr2.alloc (.cells #[.int .i64 es, .int .i64 eh, .int .i64 eo, .int .i64 ec] 38)) F.hd F.C F.T ((HP.out _ (below_via hbw.out HAL.out)).is F HM.out).his j
            unfold Hd.v at KN
            have KN' := Lib.hid KN
            clear hx hf hf2 hB KN hw1 hw2
            go_wp2_with (first | (go_at_call 14; (with_reducible refine KN'.out.mono ?_); rintro r w2 ⟨A2, n2, q2, L2, rfl, hr2, ⟨hm2, hs2⟩, hn2, hb2⟩; have HR2 := Lib.hid hr2; have HM2 := Lib.hid hm2; have HB2 := Lib.hid hb2; have hll := Lib.hid (show L2.length = n2 by have := hr2.1; simpa [ints] using this); clear hr2 hm2 hs2 hb2))
            clear d0 d1 d2 d3 f0 f1 f2' f3 f4 f5 f6 f7 flt
            go_loopg [34] n2 (fun f i wr3 => ∃ l : Nat, i = .int .i64 l ∧ l + f = n2 ∧ Below w2.heap.size w2 wr3)
            case atStart => exact ⟨0, rfl, by omega, Below.refl _ _⟩
            case round =>
              obtain ⟨l, rfl, hf, hB⟩ := hrel
              rename World => wr3
              have HBR3 := Lib.hid hB
              have HFF3 := Lib.hid hf
              have hbe := below_via HB2.out hB
              obtain ⟨y0, y1, y2, y3, ylt⟩ := HE.out _ hbe
              obtain ⟨f0, f1, f2', f3, f4, f5, f6, f7, flt⟩ := BF.out _ (below_via HBR2.out (below_via HAL.out hbe))
              try simp only at y0 y1 y2 y3
              by_cases hlp : l < n2
              · obtain ⟨x, hx⟩ : ∃ x, L2[l]? = some x := ⟨_, List.getElem?_eq_getElem (by have := hll.out; omega)⟩
                obtain ⟨b3, off3, hA3, hbl3, e0⟩ := reads_int (HR2.out.below hB) hx
                subst hA3
                obtain ⟨hx0, hx1⟩ := HW1.out x ((HM2.out x).1 (List.mem_of_getElem? hx))
                have hl' : (l : Int) < n2 := by omega
                have hx0' : ¬ x < 0 := by omega
                have hx1' : ¬ (F.hd.nc : Int) ≤ x := by omega
                obtain ⟨f3', hf3⟩ : ∃ f3, gk = f3 + 1 := ⟨gk - 1, by omega⟩
                have HF3 := Lib.hid hf3
                clear hx hf hf3 hB hbe
                go_wp2_with fail
                go_roundg f3'
                case measure => have := HF3.out; omega
                case rel => exact ⟨l + 1, by simp, by have := HF3.out; have := HFF3.out; omega, HBR3.out⟩
              · have hl' : ¬ (l : Int) < n2 := by omega
                by_cases h0 : n2 = 0
                · subst h0
                  have h556 := HW2.out (nil_of HR2.out HM2.out)
                  try simp only at h556
                  clear hf hB hbe
                  rcases h556 with h556 | h556
                  all_goals
                    subst h556
                    go_wp2_with fail
                    go_roundg f2
                    case measure => have := HF2.out; omega
                    case rel => exact ⟨j + 1, by simp, by have := HF2.out; have := HFF2.out; omega, below_via HBR2.out (below_via HAL.out (below_via HB2.out HBR3.out))⟩
                · have hz : ((n2 : Int) == 0) = false := by simp; omega
                  clear hf hB hbe
                  go_wp2_with fail
                  go_roundg f2
                  case measure => have := HF2.out; omega
                  case rel => exact ⟨j + 1, by simp, by have := HF2.out; have := HFF2.out; omega, below_via HBR2.out (below_via HAL.out (below_via HB2.out HBR3.out))⟩
          · have hj' : ¬ (j : Int) < F.hd.nc := by omega
            clear hf hB
            go_wp2_with fail
            go_roundg f'
            case measure => have := HF'.out; omega
            case rel => exact ⟨k + 1, by simp, by have := HF'.out; have := HFF.out; omega, hbw.out⟩
      · have hk' : ¬ (k : Int) < n := by omega
        clear hf hB
        go_wp2_with (first | (go_at_call 9; (with_reducible refine (KA.out _ HBR.out).mono ?_); rintro r w2 ⟨rfl, hb2⟩))
        go_ret
        exact ⟨rfl, below_via HB.out (below_via HBR.out hb2)⟩
theorem call {H : Type} {enc : TypeId × Value → H} {W : World} {base : Nat} {v0 : Value} {d0 : DataW H} {p0 : List MemPlace}
    (hL : Tab W) (o0 : Value.okWide Tryd.prog W .any base 24 v0) (h0 : DataW.Trod enc Tryd.prog W 0 (fun _ => true) true 24 v0 d0 p0) (z0 : ∀ n ∈ d0.weights Tryd.prog 24, n ≤ reachBytes) :
    Calls Tryd.prog 5 #[v0] W fun e w' => e = .returned (.bool true) ∧ Below W.heap.size W w' := by
  obtain ⟨A, n, c, Fs, rfl, hP, _, _, _⟩ := open_prog o0 h0 z0
  exact walk W hL A n c Fs hP
theorem own : ownKnob Tryd.prog.godebug = none := by kernel_rfl
theorem laidOut : laidOutB Tryd.prog = true := by kernel_rfl
set_option maxHeartbeats 0 in
/-- what the walk gives. -/
theorem contract (H : Type) (enc : TypeId × Value → H) (W : World) (base : Nat) (args : Array Value) (ds gs : List (DataW H)) (before : List MemPlace)
    (hval : ∀ (j : Nat) t v, Tryd.f5.params[j]? = some t → args[j]? = some v → Value.okWide Tryd.prog W .any base t v)
    (hW : DataW.Whole enc Tryd.prog Tryd.f5.params.toList Rows.codeWithinSpec.vars false W args.toList ds gs before)
    (hsz : (DataW.weightsEach Tryd.prog (Tryd.f5.params.toList ++ Rows.codeWithinSpec.plain.varTypes Tryd.prog) (ds ++ gs)).all (· ≤ reachBytes) = true) (hL : laidMetH Tryd.prog Rows.codeWithinRow.laid W) :
    Calls Tryd.prog 5 args W fun e W' => ∃ v, e = .returned v ∧ Rows.codeWithinSpec.post enc Tryd.prog Tryd.f5 false true false false W args v W' := by
  have hW' := hW
  obtain ⟨p, q, hA0, hV, rfl, hfz, hnd⟩ := hW
  have hA : DataW.TrodAll enc Tryd.prog W 0 (fun _ => true) true Tryd.f5.params.toList args.toList ds p := hA0
  rw [Tryd.params5] at hA hval hsz
  obtain ⟨v0, vs0, d0, ds0, p0, q0, hargs, rfl, rfl, h0, r0⟩ := trodAll_cons hA
  obtain ⟨rfl, rfl, rfl⟩ := trodAll_nil r0
  obtain rfl : args = #[v0] := by cases args; simp_all
  obtain ⟨rfl, rfl⟩ := trodVars_none hV
  clear hA0
  simp only [List.append_nil] at hW'
  have lt0 : ∀ x ∈ p0, x.block < W.heap.size := fun x hx => hW'.lt x (by simp [hx])
  refine (call (tab_of hL) (hval 0 24 v0 rfl rfl) h0 (fun n hn => by have := List.all_eq_true.1 hsz n (DataW.weights_mem_each (j := 0) (t := 24) rfl rfl n hn); simpa using this)).mono fun e W' ⟨he, bel⟩ => ?_
  subst he
  exact ⟨_, rfl, _, _, _, [], _, [], hW', (trodAll_cons_mk (shut_bool Tryd.underlying4 _) trodAll_mk0), (trodAll_cons_mk (Below.trod laidOut (by kernel_rfl) (of_decide_eq_true (by kernel_rfl)) h0 bel lt0) trodAll_mk0), rfl, bel.frame _, fun h => by cases h⟩
theorem laid_met (os : Os) : laidMet Tryd.prog Rows.codeWithinRow.laid ((laidWorld os).forCall (fun _ _ => 0) ⟨#[], #[.agg #[.slice none 0 0]], []⟩).memory :=
  laidMet_of_run' 8 (by kernel_rfl) (by kernel_rfl)
theorem reads (os : Os) {H : Type} (enc : TypeId × Value → H) : ∃ places, DataW.whole enc Tryd.prog ((laidWorld os).forCall (fun _ _ => 0) ⟨#[], #[.agg #[.slice none 0 0]], []⟩).memory Tryd.f5.params.toList Rows.codeWithinSpec.vars false #[.agg #[.slice none 0 0]].toList 8 = some ([.agg [.nil]], [], places) :=
  ⟨[], by kernel_rfl⟩
set_option maxRecDepth 100000 in
theorem lifted (os : Os) (started : os.Started) (H : Type) (enc : TypeId × Value → H) (F : Stop.Interp) :
    ReturnsInHanded {} Tryd.checked os 5 .any ((OpenSpec.ofChange Rows.codeWithinSpec).preRow enc Tryd.prog Tryd.f5 Rows.codeWithinRow.domain false Rows.codeWithinRow.laid) (((OpenSpec.ofChange Rows.codeWithinSpec).at F).post enc Tryd.prog Tryd.f5 false true false false) := by
  obtain ⟨places, hx⟩ := reads os enc
  refine returnsInHanded_of_row (C := Tryd.checked) (s := OpenSpec.ofChange Rows.codeWithinSpec) own started (by kernel_rfl) Tryd.func5
    (witness_row_at (enc := enc) (C := Tryd.checked) false (laidWorld os) #[.agg #[.slice none 0 0]] rfl (by kernel_rfl) (by kernel_rfl) (by kernel_rfl)
      (OpenSpec.preRow_of_cond 8 hx (by kernel_rfl) (fun k hk => by cases hk) (by kernel_rfl) (laid_met os))) ?_
  intro W base args ds gs before hval hW _ hcond hsz hL _ _
  exact contract H enc W base args ds gs before hval hW hsz hL
set_option maxHeartbeats 0 in
theorem over : Rows.codeWithinRow.holds Tryd.pinned (OpenSpec.ofChange Rows.codeWithinSpec) :=
  OpenClaim.holds_of_cond 5 Tryd.f5 rfl rfl rfl rfl rfl rfl rfl ⟨rfl, rfl, rfl, rfl, rfl⟩ rfl rfl rfl rfl rfl (by as_aux_lemma => kernel_rfl) Tryd.func5 (by as_aux_lemma => kernel_rfl)
    (of_decide_eq_true (by as_aux_lemma => kernel_rfl)) (by as_aux_lemma => unfold Func.isWrapper; first | (rw [if_pos (by decide +kernel)]; kernel_rfl) | (rw [if_neg (by decide +kernel)]; exact ⟨rfl, rfl⟩))
    (fun os started H enc _ F => by rw [OpenClaim.pre_eq_preRow]; exact lifted os started H enc F)
theorem plain (f : FuncId) (fn : Func) (hf : Tryd.pinned.checked.prog.funcNamed "brazier/brazierlaw08.CodeWithin" = some f) (hfn : Tryd.pinned.checked.prog.funcs[f]? = some fn) :
    false = Tryd.pinned.checked.prog.looks [] ∧ ∀ (j : Nat) t, fn.params[j]? = some t → Tryd.pinned.checked.prog.wantsStandIn t = false := by
  obtain rfl : f = 5 := Option.some.inj ((show Tryd.prog.funcNamed "brazier/brazierlaw08.CodeWithin" = some 5 by kernel_rfl).symm.trans hf) |>.symm
  obtain rfl : fn = Tryd.f5 := (Option.some.inj (Tryd.func5.symm.trans hfn)).symm
  refine ⟨by kernel_rfl, fun j t ht => ?_⟩
  rw [Tryd.params5] at ht
  have hm : t = 24 := by simpa using Array.mem_of_getElem? ht
  subst hm
  exact (show Tryd.prog.wantsStandIn 24 = false by kernel_rfl)
theorem proved : Rows.CodeWithinCardSaid :=
  Claim7.holds_tied_plain_at .later [] _ _ _ _ over (fun _ h => by cases h) (by kernel_rfl) (fun _ h => by cases h) codeWithin_row_tie rfl ⟨rfl, rfl⟩ (by kernel_rfl) rfl plain (by kernel_rfl)
#print axioms proved
end Go.Proofs.YteagkdmefmpokaaDoor.codeWithin
namespace Go.Proofs.YteagkdmefmpokaaDoor
theorem codeWithin_holds : Rows.CodeWithinCardSaid := codeWithin.proved
end Go.Proofs.YteagkdmefmpokaaDoor
