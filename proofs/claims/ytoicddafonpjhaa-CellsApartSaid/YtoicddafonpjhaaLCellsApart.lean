/- For every two ints the call of CellsApart returns true, and its arguments read as before; no condition. -/
import Derived.Test.YtoicddafonpjhaaRows
import Derived.WalkKit
import Derived.ProofKit
import Derived.OpenShut
import Derived.Test.YtoicddafonpjhaaKj
namespace Go.Proofs.Ytoicddafonpjhaa.cellsApart
open Go.ChangeShapes Go.WideShapes Go.ChangeAt Go.RowKit
set_option linter.unusedSimpArgs false
set_option linter.unusedVariables false      -- a walk need not use every 'w<i>' (that an integer argument fits its kind)

theorem own : ownKnob Try.prog.godebug = none := by kernel_rfl

theorem via12 {w w1 w2 : World} (h : Below w.heap.size w w1) (k : Below w1.heap.size w1 w2) : Below w.heap.size w w2 := h.trans (k.mono h.size)
set_option maxRecDepth 100000 in
theorem walkOut (a0 a1 : Int) (w : World) (h : a0 < 1 ∨ a1 < 1 ∨ 200 < a0 ∨ 200 < a1) :
    Calls Try.prog 6 #[.int .i64 a0, .int .i64 a1] w fun e w' => e = .returned (.bool true) ∧ Below w.heap.size w w' := by
  have N := Lib.hid (New_calls w w.heap.size (Nat.le_refl _))
  have AL := Lib.hid alive12
  by_cases h1 : a0 < 1
  · clear h
    go_enter Try.func6, Try.ntmps6
    go_wp2_with (first | (go_at_call 7; refine N.out.mono ?_; rintro e w1 ⟨b, rfl, hr1, hb1⟩) | (go_at_call 8; refine (AL.out _).mono ?_; rintro e w2 ⟨rfl, hb2⟩))
    all_goals go_ret
    all_goals exact ⟨rfl, by repeat (first | assumption | refine via12 ?_ (by assumption))⟩
  by_cases h2 : a1 < 1
  · clear h
    go_enter Try.func6, Try.ntmps6
    go_wp2_with (first | (go_at_call 7; refine N.out.mono ?_; rintro e w1 ⟨b, rfl, hr1, hb1⟩) | (go_at_call 8; refine (AL.out _).mono ?_; rintro e w2 ⟨rfl, hb2⟩))
    all_goals go_ret
    all_goals exact ⟨rfl, by repeat (first | assumption | refine via12 ?_ (by assumption))⟩
  by_cases h3 : 200 < a0
  · clear h
    go_enter Try.func6, Try.ntmps6
    go_wp2_with (first | (go_at_call 7; refine N.out.mono ?_; rintro e w1 ⟨b, rfl, hr1, hb1⟩) | (go_at_call 8; refine (AL.out _).mono ?_; rintro e w2 ⟨rfl, hb2⟩))
    all_goals go_ret
    all_goals exact ⟨rfl, by repeat (first | assumption | refine via12 ?_ (by assumption))⟩
  have h4 : 200 < a1 := by omega
  clear h
  go_enter Try.func6, Try.ntmps6
  go_wp2_with (first | (go_at_call 7; refine N.out.mono ?_; rintro e w1 ⟨b, rfl, hr1, hb1⟩) | (go_at_call 8; refine (AL.out _).mono ?_; rintro e w2 ⟨rfl, hb2⟩))
  all_goals go_ret
  all_goals exact ⟨rfl, by repeat (first | assumption | refine via12 ?_ (by assumption))⟩
/-- what the loops that make them keep. -/
structure Kept (w : World) (c : Value) (a k : Nat) (wr : World) (l : List Cl) : Prop where
  row : Row (ga a) l k
  has : Has wr w.heap.size c l
  bel : Below w.heap.size w wr
theorem kept_make {wr : World} {c : Value} {l : List Cl} {base k : Nat} {n : Int} (h : Has wr base c l) (g : Nat → Int) (row : Row g l k) (hk : k < 501) :
    Calls Try.prog 9 #[c, .int .i64 n] wr fun e w' => e = .returned (.int .i64 k) ∧ Has w' base c (mk l n) ∧ Below base wr w' := by
  have hl := row.len
  have ht := row.st.tot
  have ha := abv_len l n
  refine (Make_calls wr base c l n h (by omega) (by omega)).mono ?_
  rintro e w' ⟨rfl, h1, h2⟩
  exact ⟨by rw [hl], h1, h2⟩
theorem st_break {wr : World} {base : Nat} {c : Value} {l : List Cl} {on : List Int} (h : Has wr base c l) (s : St l on) (hk : l.length < 501) (h0 : 0 < l.length) (n : Int) :
    Calls Try.prog 12 #[c, .int .i64 n] wr fun e w' => e = .returned (.int .i64 (brk (1 + load l) l [n] 0).2) ∧ Has w' base c (brk (1 + load l) l [n] 0).1 ∧ Below base wr w' := by
  have ht := s.load
  exact HBreak wr base c l n h (by omega) (by omega) (fun c => by rw [c] at h0; simp at h0)
set_option maxRecDepth 100000 in
theorem walkIn (A B : Nat) (w : World) (h1 : 1 ≤ A) (h2 : A ≤ 200) (h3 : 1 ≤ B) (h4 : B ≤ 200) :
    Calls Try.prog 6 #[.int .i64 (A : Int), .int .i64 (B : Int)] w fun e w' => e = .returned (.bool true) ∧ Below w.heap.size w w' := by
  have N := Lib.hid (New_calls w w.heap.size (Nat.le_refl _))
  have AL := Lib.hid alive12
  have g1 : ¬ (A : Int) < 1 := by omega
  have g2 : ¬ (A : Int) > 200 := by omega
  have g3 : ¬ (B : Int) < 1 := by omega
  have g4 : ¬ (B : Int) > 200 := by omega
  have r1 : Row (ga A) (mk [] (-1)) 1 := row_mk (row_nil (ga A)) (by simp [ga])
  have r2 := apart_start A
  have M0 := fun wr b h => kept_make (wr := wr) (c := .pointer (some ⟨b, 0, none⟩)) (base := w.heap.size) (n := -1) h (ga A) (row_nil (ga A)) (by omega)
  have M1 := fun wr b h => kept_make (wr := wr) (c := .pointer (some ⟨b, 0, none⟩)) (base := w.heap.size) (n := -1) h (ga A) r1 (by omega)
  generalize mk (mk [] (-1)) (-1) = l2 at *
  generalize hz : mk [] (-1) = l1 at *
  have R2 := Lib.hid r2
  replace M0 := Lib.hid M0
  replace M1 := Lib.hid M1
  clear r1 r2 hz
  go_enter Try.func6, Try.ntmps6
  go_wp2_with (first | (go_at_call 7; refine N.out.mono ?_; rintro e wa ⟨b, rfl, hr1, hb1⟩) | (go_at_call 8; refine (AL.out _).mono ?_; rintro e wb ⟨rfl, hb2⟩; replace hr1 := has_keep hr1 hb2) | (go_at_call 9; with_reducible first | (refine (M0.out _ _ hr1).mono ?_; rintro e wc ⟨rfl, hr2, hb3⟩) | (refine (M1.out _ _ hr2).mono ?_; rintro e wd ⟨rfl, hr3, hb4⟩)))
  have K0 := Lib.hid (show Kept w (.pointer (some ⟨b, 0, none⟩)) A (2 + 0) wd l2 from ⟨R2.out, hr3, ((via12 hb1 hb2).trans hb3).trans hb4⟩)
  clear hr1 hr2 hr3 hb1 hb2 hb3 hb4
  go_loopg [8, 46] A (fun f p i wr => ∃ (k : Nat) (l : List Cl) (pv : Int), i = .int .i64 k ∧ p = .int .i64 pv ∧ pv = (if k = 0 then 0 else (k : Int) + 1) ∧ k + f = A ∧ Kept w (.pointer (some ⟨b, 0, none⟩)) A (2 + k) wr l)
  case atStart => exact ⟨0, l2, 0, rfl, rfl, rfl, by omega, K0.out⟩
  case round =>
    obtain ⟨k, l, pv, rfl, rfl, hp, hf, KK⟩ := hrel
    by_cases hk : k < A
    · have hk' : (k : Int) < A := by omega
      have hkk : (A : Int) ≤ 200 := by omega
      have M := Lib.hid (kept_make (n := pv) KK.has (ga A) KK.row (by omega))
      obtain ⟨f', hf'⟩ : ∃ f', gk = f' + 1 := ⟨gk - 1, by omega⟩
      have HF' := Lib.hid hf'
      have HP := Lib.hid hp
      have KQ := Lib.hid KK
      clear hf' hp KK
      go_wp2_with (first | (go_at_call 9; refine M.out.mono ?_; rintro e w' ⟨rfl, hh, hb⟩))
      go_roundg f'
      case measure => have := HF'.out; omega
      case rel => exact ⟨k + 1, mk l pv, _, by simp, rfl, by rw [if_neg (by omega)]; omega, by have := HF'.out; omega, by have := apart_p KQ.out.row hk; rw [← HP.out] at this; exact this, hh, KQ.out.bel.trans hb⟩
    · have e : k = A := by omega
      subst e
      have KQ := Lib.hid KK
      have HP := Lib.hid hp
      clear KK hk hp
      go_wp2
      go_loopg [9, 53] B (fun f p i wr => ∃ (j : Nat) (l : List Cl) (qv : Int), i = .int .i64 j ∧ p = .int .i64 qv ∧ qv = (if j = 0 then 1 else (k : Int) + 1 + j) ∧ j + f = B ∧ Kept w (.pointer (some ⟨b, 0, none⟩)) k (2 + k + j) wr l)
      case atStart => exact ⟨0, l, 1, rfl, rfl, rfl, by omega, KQ.out⟩
      case round =>
        obtain ⟨j, l', qv, rfl, rfl, hq, hf, KK⟩ := hrel
        by_cases hk : j < B
        · have hk' : (j : Int) < B := by omega
          have hkk : (B : Int) ≤ 200 := by omega
          have M := Lib.hid (kept_make (n := qv) KK.has (ga k) KK.row (by omega))
          obtain ⟨f', hf'⟩ : ∃ f', gk = f' + 1 := ⟨gk - 1, by omega⟩
          have HF' := Lib.hid hf'
          have HQ := Lib.hid hq
          have KR := Lib.hid KK
          clear hf' hq KK
          go_wp2_with (first | (go_at_call 9; refine M.out.mono ?_; rintro e w' ⟨rfl, hh, hb⟩))
          go_roundg f'
          case measure => have := HF'.out; omega
          case rel => exact ⟨j + 1, mk l' qv, _, by simp, rfl, by rw [if_neg (by omega)]; omega, by have := HF'.out; omega, by have := apart_q KR.out.row h1; rw [← HQ.out] at this; exact this, hh, KR.out.bel.trans hb⟩
        · have e : j = B := by omega
          subst e
          have hp := HP.out
          rw [if_neg (by omega)] at hp
          rw [if_neg (by omega)] at hq
          subst hp
          subst hq
          have ll := KK.row.len
          obtain ⟨l1', l2', e1, v1, v2, v3, e2, s1⟩ := apart_brk h1 h3 KK.row
          have l1l : l1'.length = 2 + k + j := by have := s1.len; simpa using this
          have B1 := st_break KK.has KK.row.st (by omega) (by omega) ((0 : Nat) : Int)
          rw [e1] at B1
          have B2 := fun we (h : Has we w.heap.size (.pointer (some ⟨b, 0, none⟩)) l1') => st_break h s1 (by omega) (by omega) ((1 : Nat) : Int)
          rw [e2] at B2
          have V1 := fun we h => HValid we w.heap.size (.pointer (some ⟨b, 0, none⟩)) l1' ((k + 1 : Nat) : Int) h
          have V2 := fun we h => HValid we w.heap.size (.pointer (some ⟨b, 0, none⟩)) l1' ((k + 1 + j : Nat) : Int) h
          have V3 := fun we h => HValid we w.heap.size (.pointer (some ⟨b, 0, none⟩)) l1' ((1 : Nat) : Int) h
          rw [v1] at V1
          rw [v2] at V2
          rw [v3] at V3
          simp only [Int.natCast_add, Int.cast_ofNat_Int, Int.natCast_one, Int.natCast_zero] at B1 B2 V1 V2 V3
          have BL := Lib.hid KK.bel
          replace B1 := Lib.hid B1
          replace B2 := Lib.hid B2
          replace V1 := Lib.hid V1
          replace V2 := Lib.hid V2
          replace V3 := Lib.hid V3
          have hkk : (k : Int) ≤ 200 := by omega
          have hjj : (j : Int) ≤ 200 := by omega
          clear KK ll e1 v1 v2 v3 e2 s1 l1l
          go_wp2_with (first | (go_at_call 12; with_reducible first | (refine B1.out.mono ?_; rintro e we ⟨rfl, HR, HB⟩) | (refine (B2.out _ HR).mono ?_; rintro e wf ⟨rfl, HR2, HB2⟩)) | (go_at_call 13; with_reducible first | (refine (V1.out _ HR).mono ?_; rintro e w' ⟨rfl, rfl⟩) | (refine (V2.out _ HR).mono ?_; rintro e w' ⟨rfl, rfl⟩) | (refine (V3.out _ HR).mono ?_; rintro e w' ⟨rfl, rfl⟩)))
          all_goals go_ret
          all_goals exact ⟨rfl, (BL.out.trans HB).trans HB2⟩
theorem walk (a0 : Int) (a1 : Int) (w0 : (Lit.int .i64 a0).wf = true) (w1 : (Lit.int .i64 a1).wf = true) (w : World) :
    Calls Try.prog 6 #[.int .i64 a0, .int .i64 a1] w fun e w' => e = .returned (.bool true) ∧ Below w.heap.size w w' := by
  by_cases h : a0 < 1 ∨ a1 < 1 ∨ 200 < a0 ∨ 200 < a1
  · exact walkOut a0 a1 w h
  · obtain ⟨A, rfl⟩ := Int.eq_ofNat_of_zero_le (show 0 ≤ a0 by omega)
    obtain ⟨B, rfl⟩ := Int.eq_ofNat_of_zero_le (show 0 ≤ a1 by omega)
    exact walkIn A B w (by omega) (by omega) (by omega) (by omega)
set_option maxRecDepth 100000 in
theorem lifted (os : Os) (started : os.Started) (H : Type) (enc : TypeId × Value → H) :
    ReturnsInHanded {} Try.checked os 6 .any (Rows.cellsApartSpec.pre6 enc Try.prog Try.f6 Rows.cellsApartRow.domain false) (Rows.cellsApartSpec.post enc Try.prog Try.f6 false true false false) := by
  refine returnsInHanded_of_change (C := Try.checked) own started (by kernel_rfl) Try.func6
    (ChangeSpec.witness6 (enc := enc) (C := Try.checked) false ⟨#[], #[.int .i64 0, .int .i64 0], []⟩ 8 (by kernel_rfl) (by kernel_rfl) (by kernel_rfl) (by kernel_rfl)) ?_
  intro W base args ds gs before hval0 hW hcnd _
  have hval : ∀ (j : Nat) t v, Try.f6.params[j]? = some t → args[j]? = some v → Value.okWide Try.prog W .any base t v := hval0
  have hW' := hW
  obtain ⟨p, q, hA0, hV, rfl, hfz, hnd⟩ := hW
  have hA : DataW.TrodAll enc Try.prog W 0 (fun _ => true) true Try.f6.params.toList args.toList ds p := hA0
  rw [Try.params6] at hA hval
  obtain ⟨v0, vs0, d0, ds0, p0, q0, hargs, rfl, rfl, h0, r0⟩ := trodAll_cons hA
  obtain ⟨v1, vs1, d1, ds1, p1, q1, rfl, rfl, rfl, h1, r1⟩ := trodAll_cons r0
  obtain ⟨rfl, rfl, rfl⟩ := trodAll_nil r1
  obtain rfl : args = #[v0, v1] := by cases args; simp_all
  obtain ⟨rfl, rfl⟩ := trodVars_none hV
  obtain ⟨a0, rfl, rfl, rfl, w0⟩ := open_int Try.underlying3 (hval 0 3 v0 rfl rfl) h0
  obtain ⟨a1, rfl, rfl, rfl, w1⟩ := open_int Try.underlying3 (hval 1 3 v1 rfl rfl) h1
  clear hA0 hval0
  simp only [List.append_nil] at hW'
  refine (walk a0 a1 w0 w1 W).mono fun e W' ⟨he, bel⟩ => ?_
  subst he
  exact ⟨_, rfl, _, _, _, [], _, [], hW', (trodAll_cons_mk (shut_bool Try.underlying4 _) trodAll_mk0), (trodAll_cons_mk (shut_int Try.underlying3 w0) (trodAll_cons_mk (shut_int Try.underlying3 w1) trodAll_mk0)), rfl, bel.frame _, fun h => by cases h⟩

set_option maxHeartbeats 0 in
theorem over : Rows.cellsApartRow.holds Try.pinned (OpenSpec.ofChange Rows.cellsApartSpec) :=
  OpenClaim.holds_of_wide 6 Try.f6 rfl rfl rfl rfl rfl rfl rfl ⟨rfl, rfl, rfl, rfl, rfl⟩ rfl rfl rfl rfl rfl (by as_aux_lemma => kernel_rfl) Try.func6 (by as_aux_lemma => kernel_rfl)
    (of_decide_eq_true (by as_aux_lemma => kernel_rfl)) (by as_aux_lemma => unfold Func.isWrapper; first | (rw [if_pos (by decide +kernel)]; kernel_rfl) | (rw [if_neg (by decide +kernel)]; exact ⟨rfl, rfl⟩))
    (fun os started H enc _ => lifted os started H enc)

theorem proved : Rows.CellsApartSaid :=
  over
#print axioms proved
end Go.Proofs.Ytoicddafonpjhaa.cellsApart
namespace Go.Proofs.Ytoicddafonpjhaa
theorem cellsApart_holds : Rows.CellsApartSaid := cellsApart.proved
end Go.Proofs.Ytoicddafonpjhaa
