/- For every uint64 the call of WordApart returns true, and its argument reads as before; no condition. -/
import Derived.Test.YtebclfplejjloaaRows
import Derived.WalkKit
import Derived.ProofKit
import Derived.OpenShut
import Derived.Test.YtebclfplejjloaaFk
import Derived.Test.YtebclfplejjloaaVb
import Derived.Test.YtebclfplejjloaaAlive03
namespace Go.Proofs.Ytebclfplejjloaa.wordApart
open Go.ChangeShapes Go.WideShapes Go.ChangeAt Go.RowKit Fp
set_option linter.unusedSimpArgs false
set_option linter.unusedVariables false      -- a walk need not use every 'w<i>' (that an integer argument fits its kind)

theorem own : ownKnob Try.prog.godebug = none := by kernel_rfl

def b2 (b : Bool) : Int := if b then 1 else 0
def cnt (n two three sm : Bool) : Nat → Int
  | 0 => 0
  | 1 => b2 n
  | 2 => b2 n + b2 two
  | 3 => b2 n + b2 two + b2 three
  | _ => b2 n + b2 two + b2 three + b2 sm
theorem cnt_bd (n two three sm : Bool) (k : Nat) : 0 ≤ cnt n two three sm k ∧ cnt n two three sm k ≤ 4 := by
  unfold cnt b2
  split <;> cases n <;> cases two <;> cases three <;> cases sm <;> decide
set_option maxRecDepth 100000 in
set_option maxHeartbeats 2000000 in
theorem core1 (a0 : Int) (w : World) (ha : U64 a0) (r n two three sm one : Bool) (hr : RightG a0 = r) (hn : (BitsG a0).2 = n) (h2 : tg a0 65530 = two) (h3 : tg a0 65532 = three) (hg : 18445336698825998336 ≤ a0) (h4 : decide (a0 ≤ 18445336698825998340) = sm) (h1 : tg a0 65529 = one)
    (hc : (cnt n two three sm 4 == 1) = r) (hc2 : decide (cnt n two three sm 4 ≤ 1) = true) (ho : one = true → n = true ∧ NumberG (BitsG a0).1 = a0) (hU : one = true → U64 (BitsG a0).1) :
    Calls Try.prog 6 #[.int .u64 a0] w fun e w' => e = .returned (.bool true) ∧ Below w.heap.size w w' := by
  obtain ⟨p0, p1⟩ := pI_bd a0 65529
  have HC := Lib.hid hc; clear hc
  have HC2 := Lib.hid hc2; clear hc2
  have HO := Lib.hid ho; clear ho
  have HU := Lib.hid hU; clear hU
  have BT := Lib.hid (cnt_bd n two three sm)
  go_enter Try.func6, Try.ntmps6
  go_wp2_with (first | (go_at_call 12; refine (IsInt_calls _ _).mono ?_; rintro e w' ⟨rfl, rfl⟩) | (go_at_call 13; refine (IsObject_calls _ _).mono ?_; rintro e w' ⟨rfl, rfl⟩) | (go_at_call 14; refine (IsText_calls _ _).mono ?_; rintro e w' ⟨rfl, rfl⟩) | (go_at_call 20; refine (Bits_calls _ _ ha p0 p1).mono ?_; rintro e w1 ⟨rfl, hb1⟩))
  go_loop [12, 47] (fun m i => ∃ k : Nat, k ≤ 4 ∧ i = .int .i64 k ∧ m = .int .i64 (cnt n two three sm k)) (fun _ i => 4 - (intOf i).toNat)
  case atStart => exact ⟨0, by omega, rfl, rfl⟩
  case round =>
    obtain ⟨k, hk, rfl, rfl⟩ := hrel
    have hk5 : k = 0 ∨ k = 1 ∨ k = 2 ∨ k = 3 ∨ k = 4 := by omega
    obtain ⟨bt0, bt1⟩ := BT.out k
    rcases hk5 with rfl | rfl | rfl | rfl | rfl
    · cases n
      all_goals
        go_wp2
        go_round
        case rel => exact ⟨1, by omega, rfl, rfl⟩
        case measure => simp [intOf]
    · cases two
      all_goals
        go_wp2
        go_round
        case rel => exact ⟨2, by omega, rfl, by simp [cnt, b2]⟩
        case measure => simp [intOf]
    · cases three
      all_goals
        go_wp2
        go_round
        case rel => exact ⟨3, by omega, rfl, by simp [cnt, b2]⟩
        case measure => simp [intOf]
    · cases sm
      all_goals
        go_wp2
        go_round
        case rel => exact ⟨4, by omega, rfl, by simp [cnt, b2]⟩
        case measure => simp [intOf]
    · have e2 := HC2.out
      have e1 := HC.out
      generalize cnt n two three sm 4 = c at *
      clear HC HC2
      have H1 := Lib.hid e1; clear e1
      cases one
      · clear HO HU
        have e1 := H1.out
        go_wp2_with (first | (go_at_call 15; refine (alive03 _).mono ?_; rintro e w1 ⟨rfl, hb1⟩) | (go_at_call 16; refine (Right_calls _ _ ha).mono ?_; rintro e w2 ⟨rfl, hb2⟩))
        go_ret
        exact ⟨rfl, by repeat (first | exact Below.refl _ _ | apply below_alloc | refine below_via (by assumption) ?_)⟩
      · obtain ⟨o1, o2⟩ := HO.out rfl
        have o3 := HU.out rfl
        subst o1
        clear HO HU
        have e1 := H1.out
        go_wp2_with (first | (go_at_call 15; refine (alive03 _).mono ?_; rintro e w1 ⟨rfl, hb1⟩) | (go_at_call 16; refine (Right_calls _ _ ha).mono ?_; rintro e w2 ⟨rfl, hb2⟩) | (go_at_call 21; refine (Number_calls _ _ o3).mono ?_; rintro e w2 ⟨rfl, hb2⟩))
        go_ret
        exact ⟨rfl, by repeat (first | exact Below.refl _ _ | apply below_alloc | refine below_via (by assumption) ?_)⟩
set_option maxRecDepth 100000 in
set_option maxHeartbeats 2000000 in
theorem core2 (a0 : Int) (w : World) (ha : U64 a0) (r n two three one : Bool) (hr : RightG a0 = r) (hn : (BitsG a0).2 = n) (h2 : tg a0 65530 = two) (h3 : tg a0 65532 = three) (hg : ¬ 18445336698825998336 ≤ a0) (h1 : tg a0 65529 = one)
    (hc : (cnt n two three false 4 == 1) = r) (hc2 : decide (cnt n two three false 4 ≤ 1) = true) (ho : one = true → n = true ∧ NumberG (BitsG a0).1 = a0) (hU : one = true → U64 (BitsG a0).1) :
    Calls Try.prog 6 #[.int .u64 a0] w fun e w' => e = .returned (.bool true) ∧ Below w.heap.size w w' := by
  obtain ⟨p0, p1⟩ := pI_bd a0 65529
  have HC := Lib.hid hc; clear hc
  have HC2 := Lib.hid hc2; clear hc2
  have HO := Lib.hid ho; clear ho
  have HU := Lib.hid hU; clear hU
  have BT := Lib.hid (cnt_bd n two three false)
  go_enter Try.func6, Try.ntmps6
  go_wp2_with (first | (go_at_call 12; refine (IsInt_calls _ _).mono ?_; rintro e w' ⟨rfl, rfl⟩) | (go_at_call 13; refine (IsObject_calls _ _).mono ?_; rintro e w' ⟨rfl, rfl⟩) | (go_at_call 14; refine (IsText_calls _ _).mono ?_; rintro e w' ⟨rfl, rfl⟩) | (go_at_call 20; refine (Bits_calls _ _ ha p0 p1).mono ?_; rintro e w1 ⟨rfl, hb1⟩))
  go_loop [12, 47] (fun m i => ∃ k : Nat, k ≤ 4 ∧ i = .int .i64 k ∧ m = .int .i64 (cnt n two three false k)) (fun _ i => 4 - (intOf i).toNat)
  case atStart => exact ⟨0, by omega, rfl, rfl⟩
  case round =>
    obtain ⟨k, hk, rfl, rfl⟩ := hrel
    have hk5 : k = 0 ∨ k = 1 ∨ k = 2 ∨ k = 3 ∨ k = 4 := by omega
    obtain ⟨bt0, bt1⟩ := BT.out k
    rcases hk5 with rfl | rfl | rfl | rfl | rfl
    · cases n
      all_goals
        go_wp2
        go_round
        case rel => exact ⟨1, by omega, rfl, rfl⟩
        case measure => simp [intOf]
    · cases two
      all_goals
        go_wp2
        go_round
        case rel => exact ⟨2, by omega, rfl, by simp [cnt, b2]⟩
        case measure => simp [intOf]
    · cases three
      all_goals
        go_wp2
        go_round
        case rel => exact ⟨3, by omega, rfl, by simp [cnt, b2]⟩
        case measure => simp [intOf]
    · skip
      all_goals
        go_wp2
        go_round
        case rel => exact ⟨4, by omega, rfl, by simp [cnt, b2]⟩
        case measure => simp [intOf]
    · have e2 := HC2.out
      have e1 := HC.out
      generalize cnt n two three false 4 = c at *
      clear HC HC2
      have H1 := Lib.hid e1; clear e1
      cases one
      · clear HO HU
        have e1 := H1.out
        go_wp2_with (first | (go_at_call 15; refine (alive03 _).mono ?_; rintro e w1 ⟨rfl, hb1⟩) | (go_at_call 16; refine (Right_calls _ _ ha).mono ?_; rintro e w2 ⟨rfl, hb2⟩))
        go_ret
        exact ⟨rfl, by repeat (first | exact Below.refl _ _ | apply below_alloc | refine below_via (by assumption) ?_)⟩
      · obtain ⟨o1, o2⟩ := HO.out rfl
        have o3 := HU.out rfl
        subst o1
        clear HO HU
        have e1 := H1.out
        go_wp2_with (first | (go_at_call 15; refine (alive03 _).mono ?_; rintro e w1 ⟨rfl, hb1⟩) | (go_at_call 16; refine (Right_calls _ _ ha).mono ?_; rintro e w2 ⟨rfl, hb2⟩) | (go_at_call 21; refine (Number_calls _ _ o3).mono ?_; rintro e w2 ⟨rfl, hb2⟩))
        go_ret
        exact ⟨rfl, by repeat (first | exact Below.refl _ _ | apply below_alloc | refine below_via (by assumption) ?_)⟩
theorem core (a0 : Int) (w : World) (ha : U64 a0) (r n two three sm one : Bool) (hr : RightG a0 = r) (hn : (BitsG a0).2 = n) (h2 : tg a0 65530 = two) (h3 : tg a0 65532 = three) (h4 : (decide (18445336698825998336 ≤ a0) && decide (a0 ≤ 18445336698825998340)) = sm) (h1 : tg a0 65529 = one)
    (hc : (cnt n two three sm 4 == 1) = r) (hc2 : decide (cnt n two three sm 4 ≤ 1) = true) (ho : one = true → n = true ∧ NumberG (BitsG a0).1 = a0) (hU : one = true → U64 (BitsG a0).1) :
    Calls Try.prog 6 #[.int .u64 a0] w fun e w' => e = .returned (.bool true) ∧ Below w.heap.size w w' := by
  by_cases hg : 18445336698825998336 ≤ a0
  · rw [decide_eq_true hg, Bool.true_and] at h4
    exact core1 a0 w ha r n two three sm one hr hn h2 h3 hg h4 h1 hc hc2 ho hU
  · rw [decide_eq_false hg, Bool.false_and] at h4
    subst h4
    exact core2 a0 w ha r n two three one hr hn h2 h3 hg h1 hc hc2 ho hU
theorem walk (a0 : Int) (w0 : (Lit.int .u64 a0).wf = true) (w : World) :
    Calls Try.prog 6 #[.int .u64 a0] w fun e w' => e = .returned (.bool true) ∧ Below w.heap.size w w' := by
  have ha := wf_u64 w0
  clear w0
  rcases kinds ha with h | h | h | h | h | h
  · exact core a0 w ha _ _ _ _ _ _ h.r h.n h.two h.three h.sm h.one rfl rfl (by simp) (by simp)
  · exact core a0 w ha _ _ _ _ _ _ h.r h.n h.two h.three h.sm h.one rfl rfl (by simp) (by simp)
  · have hb : BitsG a0 = (FromIntG (pI a0 65529), true) := if_pos h.one
    obtain ⟨p0, p1⟩ := pI_bd a0 65529
    have hu := FromInt_u64 (n := pI a0 65529) (by omega) (by omega)
    refine core a0 w ha _ _ _ _ _ _ h.r h.n h.two h.three h.sm h.one rfl rfl (fun _ => ⟨rfl, ?_⟩) (fun _ => ?_)
    · rw [hb]; show NumberG (FromIntG (pI a0 65529)) = a0
      rw [num_FromInt p0 p1 hu, wI_of_tg ha h.one]
    · rw [hb]; exact hu
  · exact core a0 w ha _ _ _ _ _ _ h.r h.n h.two h.three h.sm h.one rfl rfl (by simp) (by simp)
  · exact core a0 w ha _ _ _ _ _ _ h.r h.n h.two h.three h.sm h.one rfl rfl (by simp) (by simp)
  · exact core a0 w ha _ _ _ _ _ _ h.r h.n h.two h.three h.sm h.one rfl rfl (by simp) (by simp)
set_option maxRecDepth 100000 in
theorem lifted (os : Os) (started : os.Started) (H : Type) (enc : TypeId × Value → H) :
    ReturnsInHanded {} Try.checked os 6 .any (Rows.wordApartSpec.pre6 enc Try.prog Try.f6 Rows.wordApartRow.domain false) (Rows.wordApartSpec.post enc Try.prog Try.f6 false true false false) := by
  refine returnsInHanded_of_change (C := Try.checked) own started (by kernel_rfl) Try.func6
    (ChangeSpec.witness6 (enc := enc) (C := Try.checked) false ⟨#[], #[.int .u64 0], []⟩ 8 (by kernel_rfl) (by kernel_rfl) (by kernel_rfl) (by kernel_rfl)) ?_
  intro W base args ds gs before hval0 hW hcnd _
  have hval : ∀ (j : Nat) t v, Try.f6.params[j]? = some t → args[j]? = some v → Value.okWide Try.prog W .any base t v := hval0
  have hW' := hW
  obtain ⟨p, q, hA0, hV, rfl, hfz, hnd⟩ := hW
  have hA : DataW.TrodAll enc Try.prog W 0 (fun _ => true) true Try.f6.params.toList args.toList ds p := hA0
  rw [Try.params6] at hA hval
  obtain ⟨v0, vs0, d0, ds0, p0, q0, hargs, rfl, rfl, h0, r0⟩ := trodAll_cons hA
  obtain ⟨rfl, rfl, rfl⟩ := trodAll_nil r0
  obtain rfl : args = #[v0] := by cases args; simp_all
  obtain ⟨rfl, rfl⟩ := trodVars_none hV
  obtain ⟨a0, rfl, rfl, rfl, w0⟩ := open_int Try.underlying24 (hval 0 24 v0 rfl rfl) h0
  clear hA0 hval0
  simp only [List.append_nil] at hW'
  refine (walk a0 w0 W).mono fun e W' ⟨he, bel⟩ => ?_
  subst he
  exact ⟨_, rfl, _, _, _, [], _, [], hW', (trodAll_cons_mk (shut_bool Try.underlying4 _) trodAll_mk0), (trodAll_cons_mk (shut_int Try.underlying24 w0) trodAll_mk0), rfl, bel.frame _, fun h => by cases h⟩

set_option maxHeartbeats 0 in
theorem over : Rows.wordApartRow.holds Try.pinned (OpenSpec.ofChange Rows.wordApartSpec) :=
  OpenClaim.holds_of_wide 6 Try.f6 rfl rfl rfl rfl rfl rfl rfl ⟨rfl, rfl, rfl, rfl, rfl⟩ rfl rfl rfl rfl rfl (by as_aux_lemma => kernel_rfl) Try.func6 (by as_aux_lemma => kernel_rfl)
    (of_decide_eq_true (by as_aux_lemma => kernel_rfl)) (by as_aux_lemma => unfold Func.isWrapper; first | (rw [if_pos (by decide +kernel)]; kernel_rfl) | (rw [if_neg (by decide +kernel)]; exact ⟨rfl, rfl⟩))
    (fun os started H enc _ => lifted os started H enc)

theorem proved : Rows.WordApartSaid :=
  over
#print axioms proved
end Go.Proofs.Ytebclfplejjloaa.wordApart
namespace Go.Proofs.Ytebclfplejjloaa
theorem wordApart_holds : Rows.WordApartSaid := wordApart.proved
end Go.Proofs.Ytebclfplejjloaa
