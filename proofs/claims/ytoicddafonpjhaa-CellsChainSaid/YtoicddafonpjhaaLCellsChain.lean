/- For every two ints the call of CellsChain returns true, and its arguments read as before; no condition. -/
import Derived.Test.YtoicddafonpjhaaRows
import Derived.WalkKit
import Derived.ProofKit
import Derived.OpenShut
import Derived.Test.YtoicddafonpjhaaKj
namespace Go.Proofs.Ytoicddafonpjhaa.cellsChain
open Go.ChangeShapes Go.WideShapes Go.ChangeAt Go.RowKit
set_option linter.unusedSimpArgs false
set_option linter.unusedVariables false      -- a walk need not use every 'w<i>' (that an integer argument fits its kind)

theorem own : ownKnob Try.prog.godebug = none := by kernel_rfl

theorem via12 {w w1 w2 : World} (h : Below w.heap.size w w1) (k : Below w1.heap.size w1 w2) : Below w.heap.size w w2 := h.trans (k.mono h.size)
set_option maxRecDepth 100000 in
theorem walkOut (a0 a1 : Int) (w : World) (h : a0 < 1 ∨ 500 < a0) :
    Calls Try.prog 5 #[.int .i64 a0, .int .i64 a1] w fun e w' => e = .returned (.bool true) ∧ Below w.heap.size w w' := by
  have N := Lib.hid (New_calls w w.heap.size (Nat.le_refl _))
  have AL := Lib.hid alive12
  rcases h with h | h
  · go_enter Try.func5, Try.ntmps5
    go_wp2_with (first | (go_at_call 7; refine N.out.mono ?_; rintro e w1 ⟨b, rfl, hr1, hb1⟩) | (go_at_call 8; refine (AL.out _).mono ?_; rintro e w2 ⟨rfl, hb2⟩))
    all_goals go_ret
    all_goals exact ⟨rfl, by repeat (first | assumption | refine via12 ?_ (by assumption))⟩
  · have h1 : ¬ a0 < 1 := by omega
    go_enter Try.func5, Try.ntmps5
    go_wp2_with (first | (go_at_call 7; refine N.out.mono ?_; rintro e w1 ⟨b, rfl, hr1, hb1⟩) | (go_at_call 8; refine (AL.out _).mono ?_; rintro e w2 ⟨rfl, hb2⟩))
    all_goals go_ret
    all_goals exact ⟨rfl, by repeat (first | assumption | refine via12 ?_ (by assumption))⟩
/-- what the loop that makes them keeps. -/
structure Kept (w : World) (c : Value) (k : Nat) (wr : World) (l : List Cl) : Prop where
  row : Row gc l k
  has : Has wr w.heap.size c l
  bel : Below w.heap.size w wr
theorem kept_make {w wr : World} {c : Value} {k : Nat} {l : List Cl} (K : Kept w c k wr l) (hk : k < 501) :
    Calls Try.prog 9 #[c, .int .i64 ((k : Int) - 1)] wr fun e w' => e = .returned (.int .i64 k) ∧ ∃ l', Kept w c (k + 1) w' l' := by
  have hl := K.row.len
  have ht := K.row.st.tot
  have ha := abv_len l ((k : Int) - 1)
  refine (Make_calls wr w.heap.size c l ((k : Int) - 1) K.has (by omega) (by omega)).mono ?_
  rintro e w' ⟨rfl, h1, h2⟩
  exact ⟨by rw [hl], _, chain_mk K.row, h1, K.bel.trans h2⟩
theorem kept_break {w wr : World} {c : Value} {k : Nat} {l : List Cl} (K : Kept w c k wr l) (hk : k < 501) (h0 : 0 < k) (n : Int) :
    Calls Try.prog 12 #[c, .int .i64 n] wr fun e w' => e = .returned (.int .i64 (brk (1 + load l) l [n] 0).2) ∧ Has w' w.heap.size c (brk (1 + load l) l [n] 0).1 ∧ Below w.heap.size w w' := by
  have hl := K.row.len
  have ht := K.row.st.load
  refine (HBreak wr w.heap.size c l n K.has (by omega) (by omega) (fun c => by rw [c] at hl; simp at hl; omega)).mono ?_
  rintro e w' ⟨rfl, h1, h2⟩
  exact ⟨rfl, h1, K.bel.trans h2⟩
set_option maxRecDepth 100000 in
theorem walkIn (K : Nat) (a1 : Int) (w : World) (w1 : (Lit.int .i64 a1).wf = true) (h1 : 1 ≤ K) (h2 : K ≤ 500) :
    Calls Try.prog 5 #[.int .i64 (K : Int), .int .i64 a1] w fun e w' => e = .returned (.bool true) ∧ Below w.heap.size w w' := by
  have N := Lib.hid (New_calls w w.heap.size (Nat.le_refl _))
  have AL := Lib.hid alive12
  have g1 : ¬ (K : Int) < 1 := by omega
  have g2 : ¬ (K : Int) > 500 := by omega
  go_enter Try.func5, Try.ntmps5
  go_wp2_with (first | (go_at_call 7; refine N.out.mono ?_; rintro e wa ⟨b, rfl, hr1, hb1⟩) | (go_at_call 8; refine (AL.out _).mono ?_; rintro e wb ⟨rfl, hb2⟩))
  have K0 := Lib.hid (show Kept w (.pointer (some ⟨b, 0, none⟩)) 0 wb [] from ⟨row_nil gc, has_keep hr1 hb2, via12 hb1 hb2⟩)
  clear hr1 hb1 hb2
  go_loopg [6, 30] K (fun f on i wr => ∃ (k : Nat) (l : List Cl), i = .int .i64 k ∧ on = .int .i64 ((k : Int) - 1) ∧ k + f = K ∧ Kept w (.pointer (some ⟨b, 0, none⟩)) k wr l)
  case atStart => exact ⟨0, [], rfl, rfl, by omega, K0.out⟩
  case round =>
    obtain ⟨k, l, rfl, rfl, hf, KK⟩ := hrel
    by_cases hk : k < K
    · have hk' : (k : Int) < K := by omega
      have M := Lib.hid (kept_make KK (by omega))
      obtain ⟨f', hf'⟩ : ∃ f', gk = f' + 1 := ⟨gk - 1, by omega⟩
      have HF' := Lib.hid hf'
      clear hf'
      go_wp2_with (first | (go_at_call 9; refine M.out.mono ?_; rintro e w' ⟨rfl, l', KN⟩))
      go_roundg f'
      case measure => have := HF'.out; omega
      case rel => exact ⟨k + 1, l', by simp, by simp, by have := HF'.out; omega, KN⟩
    · have e : k = K := by omega
      subst e
      have hl := KK.row.len
      have hnil : l ≠ [] := fun c => by rw [c] at hl; simp at hl; omega
      have HW := KK.has
      have hkk : (k : Int) ≤ 500 := by omega
      have hk1 : (1 : Int) ≤ k := by omega
      by_cases hat : 0 ≤ a1 ∧ a1 < k
      · obtain ⟨m, rfl⟩ := Int.eq_ofNat_of_zero_le hat.1
        have hmk : (m : Int) < k := hat.2
        obtain ⟨c1, c2⟩ := chain_brk KK.row m (by omega)
        have s' := (KK.row.st.brk (m : Int)).2
        have B := kept_break KK (by omega) h1 (m : Int)
        generalize brk (1 + load l) l [(m : Int)] 0 = r at c1 c2 s' B
        obtain ⟨r, n⟩ := r
        simp only at c1 c2 s' B
        rw [c2] at B
        have rl : r.length = k := by have := s'.len; simpa using this
        have C1 := Lib.hid c1
        have S' := Lib.hid s'
        have RL := Lib.hid rl
        replace B := Lib.hid B
        have g3 : ¬ (m : Int) < 0 := by omega
        have g4 : ¬ (m : Int) ≥ k := by omega
        clear c1 c2 s' rl KK HW hnil hl hat hk
        go_wp2_with (first | (go_at_call 12; refine B.out.mono ?_; rintro e wc ⟨rfl, HR, HB⟩))
        have HM := Lib.hid hmk
        rename 0 ≤ (m : Int) ∧ ¬ k ≤ m => hbr
        clear g3 g4 hmk hbr
        go_loopg [8, 60] k (fun f x c wr => ∃ i : Nat, c = .int .i64 i ∧ i + f = k ∧ wr = wc)
        case atStart => exact ⟨0, rfl, by omega, rfl⟩
        case round =>
          obtain ⟨i, rfl, hf, rfl⟩ := hrel
          by_cases hk : i < k
          · have hk' : (i : Int) < k := by omega
            have V := HValid wr w.heap.size _ r i HR
            rw [C1.out i hk] at V
            obtain ⟨f', hf'⟩ : ∃ f', gk = f' + 1 := ⟨gk - 1, by omega⟩
            have HF' := Lib.hid hf'
            clear hf'
            by_cases him : (i : Int) < m
            · rw [decide_eq_true him] at V
              replace V := Lib.hid V
              go_wp2_with (first | (go_at_call 13; refine V.out.mono ?_; rintro e w' ⟨rfl, rfl⟩))
              go_roundg f'
              case measure => have := HF'.out; omega
              case rel => exact ⟨i + 1, by simp, by have := HF'.out; omega, rfl⟩
            · rw [decide_eq_false him] at V
              replace V := Lib.hid V
              go_wp2_with (first | (go_at_call 13; refine V.out.mono ?_; rintro e w' ⟨rfl, rfl⟩))
              go_roundg f'
              case measure => have := HF'.out; omega
              case rel => exact ⟨i + 1, by simp, by have := HF'.out; omega, rfl⟩
          · have e : i = k := by omega
            subst e
            have hmk := HM.out
            have hv := C1.out m (by omega)
            rw [decide_eq_false (by omega)] at hv
            have rl := RL.out
            have hld := S'.out.load
            have B2 := HBreak wr w.heap.size _ r m HR (by omega) (by omega) (fun c => by rw [c] at rl; simp at rl; omega)
            rw [brk_not hv] at B2
            replace B2 := Lib.hid B2
            clear hv hld rl HR hmk
            go_wp2_with (first | (go_at_call 12; refine B2.out.mono ?_; rintro e wd ⟨rfl, HR, HB2⟩))
            go_ret
            exact ⟨rfl, HB.trans HB2⟩
      · have hv : vld l a1 = false := by
          by_cases h0 : 0 ≤ a1
          · obtain ⟨m, rfl⟩ := Int.eq_ofNat_of_zero_le h0
            exact vld_out (by omega)
          · exact vld_neg (by omega)
        have B := kept_break KK (by omega) h1 a1
        rw [brk_not hv] at B
        replace B := Lib.hid B
        have VL : ∀ wc, Has wc w.heap.size (.pointer (some ⟨b, 0, none⟩)) l → Calls Try.prog 13 #[.pointer (some ⟨b, 0, none⟩), .int .i64 ((k : Int) - 1)] wc fun e w' => e = .returned (.bool true) ∧ w' = wc := fun wc hh => by
          have := HValid wc w.heap.size _ l ((k : Int) - 1) hh
          rw [show (k : Int) - 1 = ((k - 1 : Nat) : Int) by omega, KK.row.ok (k - 1) (by omega)] at this
          rw [show (k : Int) - 1 = ((k - 1 : Nat) : Int) by omega]
          exact this
        replace VL := Lib.hid VL
        clear KK HW hnil hl hk
        by_cases h0 : a1 < 0
        · go_wp2_with (first | (go_at_call 12; refine B.out.mono ?_; rintro e wc ⟨rfl, HR, HB⟩) | (go_at_call 13; refine (VL.out _ (by assumption)).mono ?_; rintro e w' ⟨rfl, rfl⟩))
          go_ret
          exact ⟨rfl, HB⟩
        · have g4 : a1 ≥ k := by omega
          go_wp2_with (first | (go_at_call 12; refine B.out.mono ?_; rintro e wc ⟨rfl, HR, HB⟩) | (go_at_call 13; refine (VL.out _ (by assumption)).mono ?_; rintro e w' ⟨rfl, rfl⟩))
          go_ret
          exact ⟨rfl, HB⟩
theorem walk (a0 : Int) (a1 : Int) (w0 : (Lit.int .i64 a0).wf = true) (w1 : (Lit.int .i64 a1).wf = true) (w : World) :
    Calls Try.prog 5 #[.int .i64 a0, .int .i64 a1] w fun e w' => e = .returned (.bool true) ∧ Below w.heap.size w w' := by
  by_cases h : a0 < 1 ∨ 500 < a0
  · exact walkOut a0 a1 w h
  · obtain ⟨K, rfl⟩ := Int.eq_ofNat_of_zero_le (show 0 ≤ a0 by omega)
    exact walkIn K a1 w w1 (by omega) (by omega)
set_option maxRecDepth 100000 in
theorem lifted (os : Os) (started : os.Started) (H : Type) (enc : TypeId × Value → H) :
    ReturnsInHanded {} Try.checked os 5 .any (Rows.cellsChainSpec.pre6 enc Try.prog Try.f5 Rows.cellsChainRow.domain false) (Rows.cellsChainSpec.post enc Try.prog Try.f5 false true false false) := by
  refine returnsInHanded_of_change (C := Try.checked) own started (by kernel_rfl) Try.func5
    (ChangeSpec.witness6 (enc := enc) (C := Try.checked) false ⟨#[], #[.int .i64 0, .int .i64 0], []⟩ 8 (by kernel_rfl) (by kernel_rfl) (by kernel_rfl) (by kernel_rfl)) ?_
  intro W base args ds gs before hval0 hW hcnd _
  have hval : ∀ (j : Nat) t v, Try.f5.params[j]? = some t → args[j]? = some v → Value.okWide Try.prog W .any base t v := hval0
  have hW' := hW
  obtain ⟨p, q, hA0, hV, rfl, hfz, hnd⟩ := hW
  have hA : DataW.TrodAll enc Try.prog W 0 (fun _ => true) true Try.f5.params.toList args.toList ds p := hA0
  rw [Try.params5] at hA hval
  obtain ⟨v0, vs0, d0, ds0, p0, q0, hargs, rfl, rfl, h0, r0⟩ := trodAll_cons hA
  obtain ⟨v1, vs1, d1, ds1, p1, q1, rfl, rfl, rfl, h1, r1⟩ := trodAll_cons r0
  obtain ⟨rfl, rfl, rfl⟩ := trodAll_nil r1
  obtain rfl : args = #[v0, v1] := by cases args; simp_all
  obtain ⟨rfl, rfl⟩ := trodVars_none hV
  obtain ⟨a0, rfl, rfl, rfl, w0⟩ := open_int Try.underlying3 (hval 0 3 v0 rfl rfl) h0
  obtain ⟨a1, rfl, rfl, rfl, w1⟩ := open_int Try.underlying3 (hval 1 3 v1 rfl rfl) h1
  clear hA0 hval0
  simp only [List.append_nil] at hW'
  refine (walk a0 a1 w0 w1 W).mono fun e W' ⟨he, bel⟩ => ?_
  subst he
  exact ⟨_, rfl, _, _, _, [], _, [], hW', (trodAll_cons_mk (shut_bool Try.underlying4 _) trodAll_mk0), (trodAll_cons_mk (shut_int Try.underlying3 w0) (trodAll_cons_mk (shut_int Try.underlying3 w1) trodAll_mk0)), rfl, bel.frame _, fun h => by cases h⟩

set_option maxHeartbeats 0 in
theorem over : Rows.cellsChainRow.holds Try.pinned (OpenSpec.ofChange Rows.cellsChainSpec) :=
  OpenClaim.holds_of_wide 5 Try.f5 rfl rfl rfl rfl rfl rfl rfl ⟨rfl, rfl, rfl, rfl, rfl⟩ rfl rfl rfl rfl rfl (by as_aux_lemma => kernel_rfl) Try.func5 (by as_aux_lemma => kernel_rfl)
    (of_decide_eq_true (by as_aux_lemma => kernel_rfl)) (by as_aux_lemma => unfold Func.isWrapper; first | (rw [if_pos (by decide +kernel)]; kernel_rfl) | (rw [if_neg (by decide +kernel)]; exact ⟨rfl, rfl⟩))
    (fun os started H enc _ => lifted os started H enc)

theorem proved : Rows.CellsChainSaid :=
  over
#print axioms proved
end Go.Proofs.Ytoicddafonpjhaa.cellsChain
namespace Go.Proofs.Ytoicddafonpjhaa
theorem cellsChain_holds : Rows.CellsChainSaid := cellsChain.proved
end Go.Proofs.Ytoicddafonpjhaa
