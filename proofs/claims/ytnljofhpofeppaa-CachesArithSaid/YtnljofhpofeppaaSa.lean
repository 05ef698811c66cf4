/- The walks through package soft: what stands below word. -/
import Derived.Test.YtnljofhpofeppaaShelf
import Derived.Test.YtnljofhpofeppaaFg
import Derived.WalkKit
import Derived.Below
import Derived.WalkLawsBesides
import Derived.WalkSpells
import Derived.Deep.DeepFit
import Derived.Deep.Light
import Derived.Lib.Hide
namespace Go.Proofs.Ytnljofhpofeppaa
open Go.RowKit Fp
set_option linter.unusedVariables false
set_option linter.unusedSimpArgs false
theorem ret_int {k : IntKind} {a b : Int} (h : a = b) : Ending.returned (.int k a) = .returned (.int k b) := by rw [h]
theorem ret_bool {a b : Bool} (h : a = b) : Ending.returned (.bool a) = .returned (.bool b) := by rw [h]
theorem below_alloc {w W : World} (h : Below w.heap.size w W) (o : Obj) : Below w.heap.size w (W.alloc o) := h.alloc h.size o
theorem below1 (w : World) (a : Obj) : Below w.heap.size w (w.alloc a) := (Below.refl _ _).alloc (Nat.le_refl _) _
theorem below2 (w : World) (a b : Obj) : Below w.heap.size w ((w.alloc a).alloc b) := (below1 w a).alloc (by simp) _
theorem below3 (w : World) (a b c : Obj) : Below w.heap.size w (((w.alloc a).alloc b).alloc c) := (below2 w a b).alloc (by simp; omega) _
theorem below_via {w W W' : World} (h : Below W.heap.size W W') (k : Below w.heap.size w W) : Below w.heap.size w W' := k.trans (h.mono k.size)
theorem signed_calls (neg : Bool) (s : Int) (w : World) :
    Calls Try.prog 30 #[.bool neg, .int .u64 s] w fun e w' => e = .returned (.int .u64 (sgnG neg s)) ∧ w' = w := by
  cases neg
  all_goals
    go_enter Try.func30, Try.ntmps30
    go_wp2
    go_ret
    exact ⟨rfl, rfl⟩
theorem sized_calls (a : Int) (w : World) :
    Calls Try.prog 50 #[.int .u64 a] w fun e w' => e = .returned (.int .u64 (sz a)) ∧ w' = w := by
  go_enter Try.func50, Try.ntmps50
  go_wp2
  go_ret
  exact ⟨rfl, rfl⟩
set_option maxRecDepth 100000 in
theorem kind_calls (a : Int) (w : World) :
    Calls Try.prog 41 #[.int .u64 a] w fun e w' => e = .returned (.int .i64 (kindS a)) ∧ w' = w := by
  by_cases c0 : sz a = 0
  · have hk : kindS a = 0 := if_pos c0
    have b0 : (sz a == 0) = true := beq_iff_eq.mpr c0
    rw [hk]; clear c0 hk
    go_enter Try.func41, Try.ntmps41
    go_wp2_with (go_at_call 50; refine (sized_calls _ _).mono ?_; rintro e w' ⟨rfl, rfl⟩)
    go_ret
    exact ⟨rfl, rfl⟩
  · have b0 : (sz a == 0) = false := beq_eq_false_iff_ne.mpr c0
    by_cases c1 : sz a < 9218868437227405312
    · have hk : kindS a = 1 := by rw [kindS, if_neg c0, if_pos c1]
      have b1 : decide (sz a < 9218868437227405312) = true := decide_eq_true c1
      rw [hk]; clear c0 c1 hk
      go_enter Try.func41, Try.ntmps41
      go_wp2_with (go_at_call 50; refine (sized_calls _ _).mono ?_; rintro e w' ⟨rfl, rfl⟩)
      go_ret
      exact ⟨rfl, rfl⟩
    · have b1 : decide (sz a < 9218868437227405312) = false := decide_eq_false c1
      by_cases c2 : sz a = 9218868437227405312
      · have hk : kindS a = 2 := by rw [kindS, if_neg c0, if_neg c1, if_pos c2]
        have b2 : (sz a == 9218868437227405312) = true := beq_iff_eq.mpr c2
        rw [hk]; clear c0 c1 c2 hk
        go_enter Try.func41, Try.ntmps41
        go_wp2_with (go_at_call 50; refine (sized_calls _ _).mono ?_; rintro e w' ⟨rfl, rfl⟩)
        go_ret
        exact ⟨rfl, rfl⟩
      · have hk : kindS a = 3 := by rw [kindS, if_neg c0, if_neg c1, if_neg c2]
        have b2 : (sz a == 9218868437227405312) = false := beq_eq_false_iff_ne.mpr c2
        rw [hk]; clear c0 c1 c2 hk
        go_enter Try.func41, Try.ntmps41
        go_wp2_with (go_at_call 50; refine (sized_calls _ _).mono ?_; rintro e w' ⟨rfl, rfl⟩)
        go_ret
        exact ⟨rfl, rfl⟩
theorem isNaN_calls (a : Int) (w : World) :
    Calls Try.prog 35 #[.int .u64 a] w fun e w' => e = .returned (.bool (isNaN a)) ∧ w' = w := by
  go_enter Try.func35, Try.ntmps35
  go_wp2_with (go_at_call 41; refine (kind_calls _ _).mono ?_; rintro e w' ⟨rfl, rfl⟩)
  go_ret
  exact ⟨rfl, rfl⟩
theorem lz_calls (x : Int) (w : World) (h : U64 x) :
    Calls Try.prog 39 #[.int .u64 x] w fun e w' => e = .returned (.int .i64 (lz x)) ∧ w' = w :=
  Try.bits_LeadingZeros64 x w h.lo (by have := h.hi; omega)
set_option maxRecDepth 100000 in
theorem open_calls (a : Int) (w : World) (ha : U64 a) :
    Calls Try.prog 42 #[.int .u64 a] w fun e w' => e = .returned (.agg #[.bool (ngb a), .int .u64 (oman a), .int .i64 (oexp a)]) ∧ w' = w.alloc (.cells #[.bool (ngb a), .int .u64 (oman a), .int .i64 (oexp a)] 77) := by
  have hf1 := fr_u64 ha
  have hf2 := hf_u64 ha
  obtain ⟨he0, he1⟩ := eb_bd ha
  obtain ⟨hl0, hl1⟩ := lz_bd hf1
  obtain ⟨hm0, hm1⟩ := lz_bd hf2
  have E0 : decide (9223372036854775808 ≤ a) = ngb a := rfl
  have E1 : Go.bits .and .u64 a 4503599627370495 = fr a := rfl
  have E2 : Go.bits .or .u64 (fr a) 4503599627370496 = hf a := rfl
  have E3 : sz a / 4503599627370496 = eb a := rfl
  by_cases hc : 0 < eb a
  · have E4 : IntKind.u64.wrap (hf a * 2 ^ (lz (hf a)).toNat) = oman a := by unfold oman mant; rw [if_pos hc]
    have E5 : eb a - 1075 - lz (hf a) = oexp a := by unfold oexp; rw [if_pos hc]
    go_enter Try.func42, Try.ntmps42
    go_wp2_with (first | (go_at_call 50; refine (sized_calls _ _).mono ?_; rintro e w' ⟨rfl, rfl⟩) | (go_at_call 39; refine (lz_calls _ _ (by assumption)).mono ?_ ; rintro e w' ⟨rfl, rfl⟩) )
    exact bodyPost_ret (v := .agg #[.bool (ngb a), .int .u64 (oman a), .int .i64 (oexp a)]) (by simp [results, Try.results42, go_sem]) rfl ⟨rfl, rfl⟩
  · have E4 : IntKind.u64.wrap (fr a * 2 ^ (lz (fr a)).toNat) = oman a := by unfold oman mant; rw [if_neg hc]
    have E5 : -1074 - lz (fr a) = oexp a := by unfold oexp; rw [if_neg hc]
    go_enter Try.func42, Try.ntmps42
    go_wp2_with (first | (go_at_call 50; refine (sized_calls _ _).mono ?_; rintro e w' ⟨rfl, rfl⟩) | (go_at_call 39; refine (lz_calls _ _ (by assumption)).mono ?_ ; rintro e w' ⟨rfl, rfl⟩) )
    exact bodyPost_ret (v := .agg #[.bool (ngb a), .int .u64 (oman a), .int .i64 (oexp a)]) (by simp [results, Try.results42, go_sem]) rfl ⟨rfl, rfl⟩
set_option maxRecDepth 100000 in
set_option maxHeartbeats 1000000 in
theorem near_calls (neg : Bool) (man exp : Int) (half : Bool) (w : World) (h0 : -7000 ≤ exp) (h1 : exp ≤ 7000) :
    Calls Try.prog 40 #[.agg #[.bool neg, .int .u64 man, .int .i64 exp], .bool half] w fun e w' => e = .returned (.int .u64 (nearG neg man exp half)) ∧ Below w.heap.size w w' := by
  by_cases c1 : 1023 < exp + 63
  · have E : nearG neg man exp half = sgnG neg 9218868437227405312 := by rw [nearG, if_pos c1]
    rw [E]; clear E
    go_enter Try.func40, Try.ntmps40
    go_wp2_with (first | (go_at_call 30; refine (signed_calls _ _ _).mono ?_; rintro e w' ⟨rfl, rfl⟩) | go_in)
    go_ret
    exact ⟨rfl, below2 _ _ _⟩
  · by_cases c2 : exp + 63 + 1023 < 1
    · by_cases c3 : 64 < 12 - (exp + 63 + 1023)
      · have E : nearG neg man exp half = sgnG neg 0 := by rw [nearG, if_neg c1, if_pos c2, if_pos c3]
        rw [E]; clear E
        go_enter Try.func40, Try.ntmps40
        go_wp2_with (first | (go_at_call 30; refine (signed_calls _ _ _).mono ?_; rintro e w' ⟨rfl, rfl⟩) | go_in)
        go_ret
        exact ⟨rfl, below3 _ _ _ _⟩
      · have E : nearG neg man exp half = nearA neg half (IntKind.u64.wrap (man * 2 ^ (64 - (12 - (exp + 63 + 1023))).toNat)) (man / 2 ^ (12 - (exp + 63 + 1023)).toNat) := by rw [nearG, if_neg c1, if_pos c2, if_neg c3]
        rw [E]; clear E
        go_enter Try.func40, Try.ntmps40
        go_wp2_with (first | (go_at_call 30; refine (signed_calls _ _ _).mono ?_; rintro e w' ⟨rfl, rfl⟩) | go_in)
        all_goals go_ret
        all_goals refine ⟨ret_int ?_, below3 _ _ _ _⟩
        all_goals go_light
        all_goals with_reducible first | exact nearA_up (upG_1 ‹_›) | exact nearA_up (upG_2 ‹_› ‹_›) | exact nearA_up (upG_3 ‹_› ‹_›) | exact nearA_dn (upG_4 ‹_› ‹_› ‹_›) | exact nearA_dn (upG_5 ‹_› ‹_›)
    · have E : nearG neg man exp half = nearB neg half (IntKind.u64.wrap (man * 9007199254740992)) (man / 2048) (exp + 63 + 1023 - 1) := by rw [nearG, if_neg c1, if_neg c2]
      rw [E]; clear E
      go_enter Try.func40, Try.ntmps40
      go_wp2_with (first | (go_at_call 30; refine (signed_calls _ _ _).mono ?_; rintro e w' ⟨rfl, rfl⟩) | go_in)
      all_goals go_ret
      all_goals refine ⟨ret_int ?_, below3 _ _ _ _⟩
      all_goals go_light
      all_goals with_reducible first | exact nearB_up (upG_1 ‹_›) | exact nearB_up (upG_2 ‹_› ‹_›) | exact nearB_up (upG_3 ‹_› ‹_›) | exact nearB_dn (upG_4 ‹_› ‹_› ‹_›) | exact nearB_dn (upG_5 ‹_› ‹_›)
set_option maxRecDepth 100000 in
set_option maxHeartbeats 1000000 in
theorem Near_some (man exp : Int) (half : Bool) (w : World) (hm : U64 man) (c0 : (man == 0) = false) :
    Calls Try.prog 34 #[.int .u64 man, .int .i64 exp, .bool half] w fun e w' => e = .returned (.int .u64 (nearN man (cl exp) half)) ∧ Below w.heap.size w w' := by
  obtain ⟨hl0, hl1⟩ := lz_bd hm
  obtain ⟨hc0, hc1⟩ := cl_bd exp
  have E1 : min (max exp (-5000)) 5000 = cl exp := rfl
  have E2 : IntKind.u64.wrap (man * 2 ^ (lz man).toNat) = shlG man := rfl
  cases half
  · have E : nearN man (cl exp) false = nearG false (shlG man) (cl exp - lz man) false := by simp [nearN]
    rw [E]; clear E
    go_enter Try.func34, Try.ntmps34
    go_wp2_with (first | (go_at_call 39; refine (lz_calls _ _ (by assumption)).mono ?_; rintro e w' ⟨rfl, rfl⟩) | (go_at_call 40; refine (near_calls _ _ _ _ _ (by omega) (by omega)).mono ?_; rintro e w1 ⟨rfl, hb⟩))
    go_ret
    exact ⟨rfl, hb⟩
  · by_cases hz : 0 < lz man
    · have E : nearN man (cl exp) true = nearG false (orG man) (cl exp - lz man) false := by simp [nearN, hz]
      have E3 : Go.bits .or .u64 (shlG man) (IntKind.u64.wrap (2 ^ ((lz man).toNat - 1))) = orG man := rfl
      rw [E]; clear E
      go_enter Try.func34, Try.ntmps34
      go_wp2_with (first | (go_at_call 39; refine (lz_calls _ _ (by assumption)).mono ?_; rintro e w' ⟨rfl, rfl⟩) | (go_at_call 40; refine (near_calls _ _ _ _ _ (by omega) (by omega)).mono ?_; rintro e w1 ⟨rfl, hb⟩))
      go_ret
      exact ⟨rfl, hb⟩
    · have E : nearN man (cl exp) true = nearG false (shlG man) (cl exp - lz man) true := by simp [nearN, hz]
      rw [E]; clear E
      go_enter Try.func34, Try.ntmps34
      go_wp2_with (first | (go_at_call 39; refine (lz_calls _ _ (by assumption)).mono ?_; rintro e w' ⟨rfl, rfl⟩) | (go_at_call 40; refine (near_calls _ _ _ _ _ (by omega) (by omega)).mono ?_; rintro e w1 ⟨rfl, hb⟩))
      go_ret
      exact ⟨rfl, hb⟩
set_option maxRecDepth 100000 in
set_option maxHeartbeats 1000000 in
theorem Near_calls (man exp : Int) (half : Bool) (w : World) (hm : U64 man) :
    Calls Try.prog 34 #[.int .u64 man, .int .i64 exp, .bool half] w fun e w' => e = .returned (.int .u64 (NearG man exp half)) ∧ Below w.heap.size w w' := by
  by_cases hz : man = 0
  · subst hz
    obtain ⟨hc0, hc1⟩ := cl_bd exp
    have E1 : min (max exp (-5000)) 5000 = cl exp := rfl
    cases half
    · have E : NearG 0 exp false = 0 := by simp [NearG]
      rw [E]; clear E
      go_enter Try.func34, Try.ntmps34
      go_wp2
      go_ret
      exact ⟨rfl, Below.refl _ _⟩
    · have E : NearG 0 exp true = nearG false 9223372036854775808 (cl exp - 1 - 63) false := by simp [NearG]
      have hl := lz_one
      rw [E]; clear E
      go_enter Try.func34, Try.ntmps34
      go_wp2_with (first | (go_at_call 39; refine (lz_calls _ _ one_u64).mono ?_; rintro e w' ⟨rfl, rfl⟩) | (go_at_call 40; refine (near_calls _ _ _ _ _ (by omega) (by omega)).mono ?_; rintro e w1 ⟨rfl, hb⟩))
      go_ret
      exact ⟨rfl, hb⟩
  · have E : NearG man exp half = nearN man (cl exp) half := by rw [NearG, if_neg hz]
    rw [E]
    exact Near_some man exp half w hm (beq_eq_false_iff_ne.mpr hz)
theorem FromUint_calls (n : Int) (w : World) (hm : U64 n) :
    Calls Try.prog 31 #[.int .u64 n] w fun e w' => e = .returned (.int .u64 (NearG n 0 false)) ∧ Below w.heap.size w w' := by
  go_enter Try.func31, Try.ntmps31
  go_wp2_with (go_at_call 34; refine (Near_calls _ _ _ _ hm).mono ?_; rintro e w1 ⟨rfl, hb⟩)
  go_ret
  exact ⟨rfl, hb⟩
set_option maxRecDepth 100000 in
theorem FromInt_calls (n : Int) (w : World) (h0 : -9223372036854775808 ≤ n) (h1 : n < 9223372036854775808) :
    Calls Try.prog 24 #[.int .i64 n] w fun e w' => e = .returned (.int .u64 (FromIntG n)) ∧ Below w.heap.size w w' := by
  by_cases hn : n < 0
  · have E : FromIntG n = sgnG true (NearG (IntKind.u64.wrap (-IntKind.u64.wrap n)) 0 false) := if_pos hn
    rw [E]; clear E
    go_enter Try.func24, Try.ntmps24
    go_wp2_with (first | (go_at_call 31; refine (FromUint_calls _ _ (wrap_u _)).mono ?_; rintro e w1 ⟨rfl, hb⟩) | (go_at_call 30; refine (signed_calls _ _ _).mono ?_; rintro e w' ⟨rfl, rfl⟩))
    go_ret
    exact ⟨rfl, by assumption⟩
  · have E : FromIntG n = NearG n 0 false := if_neg hn
    have hu : U64 n := ⟨by omega, by omega⟩
    rw [E]; clear E
    go_enter Try.func24, Try.ntmps24
    go_wp2_with (first | (go_at_call 31; refine (FromUint_calls _ _ hu).mono ?_; rintro e w1 ⟨rfl, hb⟩))
    go_ret
    exact ⟨rfl, by assumption⟩
theorem ret_whole {a b : Int} {c d : Bool} (h : a = b) (h2 : c = d) : Ending.returned (.tuple #[.int .i64 a, .bool c]) = .returned (.tuple #[.int .i64 b, .bool d]) := by rw [h, h2]
set_option maxRecDepth 100000 in
theorem Whole_calls (a : Int) (w : World) (ha : U64 a) :
    Calls Try.prog 36 #[.int .u64 a] w fun e w' => e = .returned (.tuple #[.int .i64 (WholeG a).1, .bool (WholeG a).2]) ∧ Below w.heap.size w w' := by
  by_cases c0 : a = 0
  · have E : WholeG a = (0, true) := if_pos c0
    rw [E]; subst c0
    go_enter Try.func36, Try.ntmps36
    go_wp2
    go_ret2
    exact ⟨rfl, Below.refl _ _⟩
  · have c0b : (a == 0) = false := beq_eq_false_iff_ne.mpr c0
    by_cases ck : kindS a = 1
    · have ckb : (kindS a != 1) = false := by rw [bne_eq_false_iff_eq]; exact ck
      obtain ⟨he0, he1⟩ := oexp_bd ha
      by_cases c1 : oexp a + 63 < 0
      · have E : WholeG a = (0, false) := by rw [WholeG, if_neg c0, if_neg (by simp [ck]), if_pos (Or.inl (Or.inl c1))]
        rw [E]; clear E c0 ck
        go_enter Try.func36, Try.ntmps36
        go_wp2_with (first | (go_at_call 41; refine (kind_calls _ _).mono ?_; rintro e w' ⟨rfl, rfl⟩) | (go_at_call 42; refine (open_calls _ _ ha).mono ?_; rintro e w' ⟨rfl, rfl⟩) | go_in)
        go_ret2
        exact ⟨rfl, by repeat (first | exact Below.refl _ _ | apply below_alloc)⟩
      · by_cases c2 : 52 < oexp a + 63
        · have E : WholeG a = (0, false) := by rw [WholeG, if_neg c0, if_neg (by simp [ck]), if_pos (Or.inl (Or.inr c2))]
          rw [E]; clear E c0 ck
          go_enter Try.func36, Try.ntmps36
          go_wp2_with (first | (go_at_call 41; refine (kind_calls _ _).mono ?_; rintro e w' ⟨rfl, rfl⟩) | (go_at_call 42; refine (open_calls _ _ ha).mono ?_; rintro e w' ⟨rfl, rfl⟩) | go_in)
          go_ret2
          exact ⟨rfl, by repeat (first | exact Below.refl _ _ | apply below_alloc)⟩
        · by_cases c3 : IntKind.u64.wrap (oman a * 2 ^ (64 + oexp a).toNat) ≠ 0
          · have E : WholeG a = (0, false) := by rw [WholeG, if_neg c0, if_neg (by simp [ck]), if_pos (Or.inr c3)]
            have c3b : (IntKind.u64.wrap (oman a * 2 ^ (64 + oexp a).toNat) != 0) = true := by rw [bne_iff_ne]; exact c3
            rw [E]; clear E c0 ck c3
            go_enter Try.func36, Try.ntmps36
            go_wp2_with (first | (go_at_call 41; refine (kind_calls _ _).mono ?_; rintro e w' ⟨rfl, rfl⟩) | (go_at_call 42; refine (open_calls _ _ ha).mono ?_; rintro e w' ⟨rfl, rfl⟩) | go_in)
            go_ret2
            exact ⟨rfl, by repeat (first | exact Below.refl _ _ | apply below_alloc)⟩
          · have E : WholeG a = (wholeV a, true) := by rw [WholeG, if_neg c0, if_neg (by simp [ck]), if_neg (by simp only [c1, c2, c3, or_self, not_false_eq_true])]
            have c3b : (IntKind.u64.wrap (oman a * 2 ^ (64 + oexp a).toNat) != 0) = false := by rw [bne_eq_false_iff_eq]; exact Decidable.not_not.mp c3
            rw [E]; clear E c0 ck c3
            go_enter Try.func36, Try.ntmps36
            go_wp2_with (first | (go_at_call 41; refine (kind_calls _ _).mono ?_; rintro e w' ⟨rfl, rfl⟩) | (go_at_call 42; refine (open_calls _ _ ha).mono ?_; rintro e w' ⟨rfl, rfl⟩) | go_in)
            all_goals go_ret2
            all_goals refine ⟨ret_whole ?_ rfl, by repeat (first | exact Below.refl _ _ | apply below_alloc)⟩
            all_goals simp [wholeV, *]
    · have E : WholeG a = (0, false) := by rw [WholeG, if_neg c0, if_pos ck]
      have ckb : (kindS a != 1) = true := by rw [bne_iff_ne]; exact ck
      rw [E]; clear E c0 ck
      go_enter Try.func36, Try.ntmps36
      go_wp2_with (first | (go_at_call 41; refine (kind_calls _ _).mono ?_; rintro e w' ⟨rfl, rfl⟩))
      go_ret2
      exact ⟨rfl, Below.refl _ _⟩
end Go.Proofs.Ytnljofhpofeppaa
