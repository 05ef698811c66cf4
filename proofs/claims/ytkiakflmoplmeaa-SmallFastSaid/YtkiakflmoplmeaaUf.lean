/- The walk through the document's Fast. -/
import Derived.Test.YtkiakflmoplmeaaUe
import Derived.Test.YtkiakflmoplmeaaHh
namespace Go.Proofs.Ytkiakflmoplmeaa
open Go.RowKit Fp
set_option linter.unusedVariables false
set_option linter.unusedSimpArgs false
theorem wB_u64 (b : Bool) : U64 (wB b) := by cases b <;> exact ⟨by decide, by decide⟩
theorem slow_u64 {op a b : Int} (ha : U64 a) (hb : U64 b) : U64 (SlowG op a b) := by
  have hp := bits1_u64 ha
  have hq := bits1_u64 hb
  unfold SlowG
  generalize (BitsG a).1 = p at *
  generalize (BitsG b).1 = q at *
  split
  · rename_i h
    by_cases c : 32 ≤ op
    · have e : slowI op p q = testsI op p q := by
        unfold slowI
        rw [if_neg (by omega), if_neg (by omega), if_neg (by omega), if_neg (by omega), if_neg (by omega), if_pos c]
      rw [e, tests_cmp hp hq c h.2.2.2]
      exact wB_u64 _
    · rw [slowI_num h.2.2.1 (by omega)]
      refine (num_facts ?_).1
      unfold numI
      split
      · exact add_u64 hp hq
      · split
        · exact sub_u64 hp hq
        · split
          · exact mul_u64 hp hq
          · split
            · exact div_u64 hp hq
            · split
              · exact rem_u64 hp hq
              · exact bitsI_u64 _ _ _ (I32_bd p).1 (I32_bd p).2
  · exact ⟨by decide, by decide⟩
theorem rTag_int (a : Int) (ha : U64 a) (w : World) : Calls Try.prog 14 #[.int .u64 a, .int .u64 65529] w fun e w' => e = .returned (.tuple #[.int .u32 (isTP a 65529), .bool (tg a 65529)]) ∧ w' = w := by
  rw [← (isT_eq ha (.inl rfl)).1]
  exact rIsTag_calls a 65529 ha w
set_option maxRecDepth 100000 in
theorem RFast_not (op a b x y : Int) (s t : Bool) (w : World) (TA : ∀ w, Calls Try.prog 14 #[.int .u64 a, .int .u64 65529] w fun e w' => e = .returned (.tuple #[.int .u32 x, .bool s]) ∧ w' = w) (TB : ∀ w, Calls Try.prog 14 #[.int .u64 b, .int .u64 65529] w fun e w' => e = .returned (.tuple #[.int .u32 y, .bool t]) ∧ w' = w) (h : (s && t) = false ∨ op < 21 ∨ 35 < op) :
    Calls Try.prog 16 #[.int .i64 op, .int .u64 a, .int .u64 b] w fun e w' => e = .returned (.tuple #[.int .u64 0, .bool false]) ∧ Below w.heap.size w w' := by
  replace TA := Lib.hid TA
  replace TB := Lib.hid TB
  cases s
  · clear h
    go_enter Try.func16, Try.ntmps16
    go_wp2_with (first | (go_at_call 14; with_reducible first | (refine (TA.out _).mono ?_; rintro e w' ⟨rfl, rfl⟩) | (refine (TB.out _).mono ?_; rintro e w' ⟨rfl, rfl⟩)))
    all_goals go_ret2
    all_goals exact ⟨rfl, by repeat (first | exact Below.refl _ _ | apply below_alloc | apply below_drewN | apply below_drew | refine below_via (by assumption) ?_)⟩
  · cases t
    · clear h
      go_enter Try.func16, Try.ntmps16
      go_wp2_with (first | (go_at_call 14; with_reducible first | (refine (TA.out _).mono ?_; rintro e w' ⟨rfl, rfl⟩) | (refine (TB.out _).mono ?_; rintro e w' ⟨rfl, rfl⟩)))
      all_goals go_ret2
      all_goals exact ⟨rfl, by repeat (first | exact Below.refl _ _ | apply below_alloc | apply below_drewN | apply below_drew | refine below_via (by assumption) ?_)⟩
    · by_cases c : op < 21
      · clear h
        go_enter Try.func16, Try.ntmps16
        go_wp2_with (first | (go_at_call 14; with_reducible first | (refine (TA.out _).mono ?_; rintro e w' ⟨rfl, rfl⟩) | (refine (TB.out _).mono ?_; rintro e w' ⟨rfl, rfl⟩)))
        all_goals go_ret2
        all_goals exact ⟨rfl, by repeat (first | exact Below.refl _ _ | apply below_alloc | apply below_drewN | apply below_drew | refine below_via (by assumption) ?_)⟩
      · have c2 : 35 < op := by rcases h with h | h | h; exact absurd h (by decide); omega; exact h
        clear h
        go_enter Try.func16, Try.ntmps16
        go_wp2_with (first | (go_at_call 14; with_reducible first | (refine (TA.out _).mono ?_; rintro e w' ⟨rfl, rfl⟩) | (refine (TB.out _).mono ?_; rintro e w' ⟨rfl, rfl⟩)))
        all_goals go_ret2
        all_goals exact ⟨rfl, by repeat (first | exact Below.refl _ _ | apply below_alloc | apply below_drewN | apply below_drew | refine below_via (by assumption) ?_)⟩
set_option maxRecDepth 100000 in
theorem RFast_yes (op a b x y z : Int) (v : Int) (g : Bool) (w : World) (TA : ∀ w, Calls Try.prog 14 #[.int .u64 a, .int .u64 65529] w fun e w' => e = .returned (.tuple #[.int .u32 x, .bool true]) ∧ w' = w) (TB : ∀ w, Calls Try.prog 14 #[.int .u64 b, .int .u64 65529] w fun e w' => e = .returned (.tuple #[.int .u32 y, .bool true]) ∧ w' = w)
    (RS : ∀ w, Calls Try.prog 17 #[.int .i64 op, .int .u64 a, .int .u64 b] w fun e w' => e = .returned (.int .u64 v) ∧ Below w.heap.size w w') (TW : ∀ w, Calls Try.prog 14 #[.int .u64 v, .int .u64 65529] w fun e w' => e = .returned (.tuple #[.int .u32 z, .bool g]) ∧ w' = w) (h0 : 21 ≤ op) (h1 : op ≤ 35) :
    Calls Try.prog 16 #[.int .i64 op, .int .u64 a, .int .u64 b] w fun e w' => e = .returned (.tuple #[.int .u64 (if (g || (v == 18445336698825998339 || v == 18445336698825998338)) = true then (v, true) else ((0 : Int), false)).1, .bool (if (g || (v == 18445336698825998339 || v == 18445336698825998338)) = true then (v, true) else ((0 : Int), false)).2]) ∧ Below w.heap.size w w' := by
  replace TA := Lib.hid TA
  replace TB := Lib.hid TB
  replace RS := Lib.hid RS
  replace TW := Lib.hid TW
  cases g
  · by_cases c1 : v = 18445336698825998339
    · have d1 : (v == 18445336698825998339) = true := beq_iff_eq.2 c1
      have d2 : (v != 18445336698825998339) = false := by unfold bne; rw [d1]; rfl
      rw [d1, Bool.true_or, Bool.or_true, if_pos rfl]
      clear c1
      go_enter Try.func16, Try.ntmps16
      go_wp2_with (first | (go_at_call 14; with_reducible first | (refine (TA.out _).mono ?_; rintro e w' ⟨rfl, rfl⟩) | (refine (TB.out _).mono ?_; rintro e w' ⟨rfl, rfl⟩) | (refine (TW.out _).mono ?_; rintro e w' ⟨rfl, rfl⟩)) | (go_at_call 17; refine (RS.out _).mono ?_; rintro e w1 ⟨rfl, hb1⟩))
      all_goals go_ret2
      all_goals exact ⟨rfl, by repeat (first | exact Below.refl _ _ | apply below_alloc | apply below_drewN | apply below_drew | refine below_via (by assumption) ?_)⟩
    · have d1 : (v == 18445336698825998339) = false := beq_eq_false_iff_ne.2 c1
      have d2 : (v != 18445336698825998339) = true := by unfold bne; rw [d1]; rfl
      by_cases c2 : v = 18445336698825998338
      · have d3 : (v == 18445336698825998338) = true := beq_iff_eq.2 c2
        have d4 : (v != 18445336698825998338) = false := by unfold bne; rw [d3]; rfl
        rw [d3, Bool.or_true, Bool.or_true, if_pos rfl]
        clear c1 c2
        go_enter Try.func16, Try.ntmps16
        go_wp2_with (first | (go_at_call 14; with_reducible first | (refine (TA.out _).mono ?_; rintro e w' ⟨rfl, rfl⟩) | (refine (TB.out _).mono ?_; rintro e w' ⟨rfl, rfl⟩) | (refine (TW.out _).mono ?_; rintro e w' ⟨rfl, rfl⟩)) | (go_at_call 17; refine (RS.out _).mono ?_; rintro e w1 ⟨rfl, hb1⟩))
        all_goals go_ret2
        all_goals exact ⟨rfl, by repeat (first | exact Below.refl _ _ | apply below_alloc | apply below_drewN | apply below_drew | refine below_via (by assumption) ?_)⟩
      · have d3 : (v == 18445336698825998338) = false := beq_eq_false_iff_ne.2 c2
        have d4 : (v != 18445336698825998338) = true := by unfold bne; rw [d3]; rfl
        rw [d1, d3, Bool.or_false, Bool.or_false, if_neg (by decide)]
        clear c1 c2
        go_enter Try.func16, Try.ntmps16
        go_wp2_with (first | (go_at_call 14; with_reducible first | (refine (TA.out _).mono ?_; rintro e w' ⟨rfl, rfl⟩) | (refine (TB.out _).mono ?_; rintro e w' ⟨rfl, rfl⟩) | (refine (TW.out _).mono ?_; rintro e w' ⟨rfl, rfl⟩)) | (go_at_call 17; refine (RS.out _).mono ?_; rintro e w1 ⟨rfl, hb1⟩))
        all_goals go_ret2
        all_goals exact ⟨rfl, by repeat (first | exact Below.refl _ _ | apply below_alloc | apply below_drewN | apply below_drew | refine below_via (by assumption) ?_)⟩
  · rw [Bool.true_or, if_pos rfl]
    go_enter Try.func16, Try.ntmps16
    go_wp2_with (first | (go_at_call 14; with_reducible first | (refine (TA.out _).mono ?_; rintro e w' ⟨rfl, rfl⟩) | (refine (TB.out _).mono ?_; rintro e w' ⟨rfl, rfl⟩) | (refine (TW.out _).mono ?_; rintro e w' ⟨rfl, rfl⟩)) | (go_at_call 17; refine (RS.out _).mono ?_; rintro e w1 ⟨rfl, hb1⟩))
    all_goals go_ret2
    all_goals exact ⟨rfl, by repeat (first | exact Below.refl _ _ | apply below_alloc | apply below_drewN | apply below_drew | refine below_via (by assumption) ?_)⟩
theorem RFast_calls (op a b : Int) (ha : U64 a) (hb : U64 b) (w : World) : Calls Try.prog 16 #[.int .i64 op, .int .u64 a, .int .u64 b] w fun e w' => e = .returned (.tuple #[.int .u64 (FastG op a b).1, .bool (FastG op a b).2]) ∧ Below w.heap.size w w' := by
  have TA := fun w => rTag_int a ha w
  have TB := fun w => rTag_int b hb w
  by_cases h : (tg a 65529 && tg b 65529) = true ∧ 21 ≤ op ∧ op ≤ 35
  · rw [FastG_eq ha hb h.1 h.2.1 h.2.2]
    have h1 := h.1
    rw [Bool.and_eq_true] at h1
    rw [h1.1] at TA
    rw [h1.2] at TB
    exact RFast_yes op a b _ _ _ (SlowG op a b) (tg (SlowG op a b) 65529) w TA TB (fun w => RSlow_calls op a b ha hb w) (fun w => rTag_int _ (slow_u64 ha hb) w) h.2.1 h.2.2
  · have e : FastG op a b = (0, false) := by
      by_cases g : (tg a 65529 && tg b 65529) = true
      · exact fast_out a b (by have : ¬ (21 ≤ op ∧ op ≤ 35) := fun k => h ⟨g, k⟩
                               omega)
      · unfold FastG; rw [if_neg g]
    rw [e]
    refine RFast_not op a b _ _ _ _ w TA TB ?_
    by_cases g : (tg a 65529 && tg b 65529) = true
    · right
      have : ¬ (21 ≤ op ∧ op ≤ 35) := fun k => h ⟨g, k⟩
      omega
    · left; rw [Bool.not_eq_true] at g; exact g
end Go.Proofs.Ytkiakflmoplmeaa
