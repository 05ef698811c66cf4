/- The walk through the document's Slow. -/
import Derived.Test.YtkiakflmoplmeaaUd
namespace Go.Proofs.Ytkiakflmoplmeaa
open Go.RowKit Fp
set_option linter.unusedVariables false
set_option linter.unusedSimpArgs false
theorem rFloat_of {x : Nat} {v : Int} (h : OfG x = v) (hx : x < 18446744073709551616) (w : World) : Calls Try.prog 34 #[.float .f64 x] w fun e w' => e = .returned (.int .u64 (NumberG v)) ∧ w' = w := by
  have hc := rFloat_calls (x : Int) ⟨by omega, by omega⟩ w
  rw [Int.toNat_natCast] at hc
  have e : canon (x : Int) = v := h
  rw [← e, num_canon]
  exact hc
theorem order_flip {a b : Int} (ha : U64 a) (hb : U64 b) : LessG a b = (FloatKind.f64.format.order a.toNat b.toNat == some .lt) ∧ LessG b a = (FloatKind.f64.format.order a.toNat b.toNat == some .gt) ∧ EqualG a b = (FloatKind.f64.format.order a.toNat b.toNat == some .eq) ∧ EqualG b a = (FloatKind.f64.format.order a.toNat b.toNat == some .eq) := by
  have h1 := Less_ok ha hb
  have h2 := Less_ok hb ha
  have h3 := Equal_ok ha hb
  have h4 := Equal_ok hb ha
  rw [← h1, ← h2, ← h3, ← h4]
  have key : (FloatKind.f64.format.order b.toNat a.toNat == some .lt) = (FloatKind.f64.format.order a.toNat b.toNat == some .gt) ∧ (FloatKind.f64.format.order b.toNat a.toNat == some .eq) = (FloatKind.f64.format.order a.toNat b.toNat == some .eq) := by
    by_cases h : isNaN a = true ∨ isNaN b = true
    · have e1 := order_nan ha hb h
      have e2 := order_nan hb ha h.symm
      rw [show FloatKind.f64.format.order a.toNat b.toNat = none from e1, show FloatKind.f64.format.order b.toNat a.toNat = none from e2]
      exact ⟨rfl, rfl⟩
    · have na : isNaN a = false := by rw [Bool.eq_false_iff]; exact fun c => h (.inl c)
      have nb : isNaN b = false := by rw [Bool.eq_false_iff]; exact fun c => h (.inr c)
      have e1 := order_SR ha hb na nb
      have e2 := order_SR hb ha nb na
      rw [show FloatKind.f64.format.order a.toNat b.toNat = _ from e1, show FloatKind.f64.format.order b.toNat a.toNat = _ from e2]
      rcases Int.lt_trichotomy (SR a) (SR b) with g | g | g
      · rw [cmp_lt g, cmp_gt g]; exact ⟨rfl, rfl⟩
      · rw [cmp_eq g, cmp_eq g.symm]; exact ⟨rfl, rfl⟩
      · rw [cmp_gt g, cmp_lt g]; exact ⟨rfl, rfl⟩
  exact ⟨rfl, key.1, rfl, key.2⟩
theorem tests_cmp {op p q : Int} (hp : U64 p) (hq : U64 q) (h0 : 32 ≤ op) (h1 : op ≤ 35) : testsI op p q = wB (cmpB op (FloatKind.f64.format.order p.toNat q.toNat)) := by
  obtain ⟨f1, f2, f3, f4⟩ := order_flip hp hq
  have : op = 32 ∨ op = 33 ∨ op = 34 ∨ op = 35 := by omega
  unfold testsI cmpB
  rw [f1, f2, f3, f4]
  generalize FloatKind.f64.format.order p.toNat q.toNat = o
  rcases this with rfl | rfl | rfl | rfl <;> simp only [Int.reduceEq, if_false, reduceIte] <;> rcases o with _ | o <;> first | rfl | (cases o <;> rfl)
theorem slowI_num {op p q : Int} (h0 : 21 ≤ op) (h1 : op ≤ 31) : slowI op p q = NumberG (numI op p q) := by
  unfold slowI numI
  have : op = 21 ∨ op = 22 ∨ op = 23 ∨ op = 24 ∨ op = 25 ∨ 26 ≤ op := by omega
  rcases this with rfl | rfl | rfl | rfl | rfl | h
  all_goals try simp only [Int.reduceEq, if_false, reduceIte]
  rw [if_neg (by omega), if_neg (by omega), if_neg (by omega), if_neg (by omega), if_neg (by omega), if_neg (by omega), if_neg (by omega), if_neg (by omega), if_neg (by omega), if_neg (by omega), if_neg (by omega)]
set_option maxRecDepth 100000 in
theorem RSlow_21 (a b p q : Int) (hp : U64 p) (hq : U64 q) (w : World) (VA : ∀ w, Calls Try.prog 36 #[.int .u64 a] w fun e w' => e = .returned (.tuple #[.float .f64 p.toNat, .bool true]) ∧ w' = w) (VB : ∀ w, Calls Try.prog 36 #[.int .u64 b] w fun e w' => e = .returned (.tuple #[.float .f64 q.toNat, .bool true]) ∧ w' = w) :
    Calls Try.prog 17 #[.int .i64 21, .int .u64 a, .int .u64 b] w fun e w' => e = .returned (.int .u64 (slowI 21 p q)) ∧ Below w.heap.size w w' := by
  have RK := fun w => reckon_21 p q hp hq w
  rw [slowI_num (by decide) (by decide)]
  generalize numI 21 p q = R at *
  clear hp hq
  generalize p.toNat = x at *
  generalize q.toNat = y at *
  replace VA := Lib.hid VA
  replace VB := Lib.hid VB
  replace RK := Lib.hid RK
  go_enter Try.func17, Try.ntmps17
  go_wp2_with (first | (go_at_call 36; with_reducible first | (refine (VA.out _).mono ?_; rintro e w' ⟨rfl, rfl⟩) | (refine (VB.out _).mono ?_; rintro e w' ⟨rfl, rfl⟩)) | (go_at_call 37; refine (RK.out _).mono ?_; rintro e w1 ⟨v, rfl, hv, hl, hb1⟩) | (go_at_call 34; refine (rFloat_of (by assumption) (by assumption) _).mono ?_; rintro e w' ⟨rfl, rfl⟩))
  all_goals go_ret
  all_goals exact ⟨rfl, by repeat (first | exact Below.refl _ _ | apply below_alloc | apply below_drewN | apply below_drew | refine below_via (by assumption) ?_)⟩
set_option maxRecDepth 100000 in
theorem RSlow_22 (a b p q : Int) (hp : U64 p) (hq : U64 q) (w : World) (VA : ∀ w, Calls Try.prog 36 #[.int .u64 a] w fun e w' => e = .returned (.tuple #[.float .f64 p.toNat, .bool true]) ∧ w' = w) (VB : ∀ w, Calls Try.prog 36 #[.int .u64 b] w fun e w' => e = .returned (.tuple #[.float .f64 q.toNat, .bool true]) ∧ w' = w) :
    Calls Try.prog 17 #[.int .i64 22, .int .u64 a, .int .u64 b] w fun e w' => e = .returned (.int .u64 (slowI 22 p q)) ∧ Below w.heap.size w w' := by
  have RK := fun w => reckon_22 p q hp hq w
  rw [slowI_num (by decide) (by decide)]
  generalize numI 22 p q = R at *
  clear hp hq
  generalize p.toNat = x at *
  generalize q.toNat = y at *
  replace VA := Lib.hid VA
  replace VB := Lib.hid VB
  replace RK := Lib.hid RK
  go_enter Try.func17, Try.ntmps17
  go_wp2_with (first | (go_at_call 36; with_reducible first | (refine (VA.out _).mono ?_; rintro e w' ⟨rfl, rfl⟩) | (refine (VB.out _).mono ?_; rintro e w' ⟨rfl, rfl⟩)) | (go_at_call 37; refine (RK.out _).mono ?_; rintro e w1 ⟨v, rfl, hv, hl, hb1⟩) | (go_at_call 34; refine (rFloat_of (by assumption) (by assumption) _).mono ?_; rintro e w' ⟨rfl, rfl⟩))
  all_goals go_ret
  all_goals exact ⟨rfl, by repeat (first | exact Below.refl _ _ | apply below_alloc | apply below_drewN | apply below_drew | refine below_via (by assumption) ?_)⟩
set_option maxRecDepth 100000 in
theorem RSlow_23 (a b p q : Int) (hp : U64 p) (hq : U64 q) (w : World) (VA : ∀ w, Calls Try.prog 36 #[.int .u64 a] w fun e w' => e = .returned (.tuple #[.float .f64 p.toNat, .bool true]) ∧ w' = w) (VB : ∀ w, Calls Try.prog 36 #[.int .u64 b] w fun e w' => e = .returned (.tuple #[.float .f64 q.toNat, .bool true]) ∧ w' = w) :
    Calls Try.prog 17 #[.int .i64 23, .int .u64 a, .int .u64 b] w fun e w' => e = .returned (.int .u64 (slowI 23 p q)) ∧ Below w.heap.size w w' := by
  have RK := fun w => reckon_23 p q hp hq w
  rw [slowI_num (by decide) (by decide)]
  generalize numI 23 p q = R at *
  clear hp hq
  generalize p.toNat = x at *
  generalize q.toNat = y at *
  replace VA := Lib.hid VA
  replace VB := Lib.hid VB
  replace RK := Lib.hid RK
  go_enter Try.func17, Try.ntmps17
  go_wp2_with (first | (go_at_call 36; with_reducible first | (refine (VA.out _).mono ?_; rintro e w' ⟨rfl, rfl⟩) | (refine (VB.out _).mono ?_; rintro e w' ⟨rfl, rfl⟩)) | (go_at_call 37; refine (RK.out _).mono ?_; rintro e w1 ⟨v, rfl, hv, hl, hb1⟩) | (go_at_call 34; refine (rFloat_of (by assumption) (by assumption) _).mono ?_; rintro e w' ⟨rfl, rfl⟩))
  all_goals go_ret
  all_goals exact ⟨rfl, by repeat (first | exact Below.refl _ _ | apply below_alloc | apply below_drewN | apply below_drew | refine below_via (by assumption) ?_)⟩
set_option maxRecDepth 100000 in
theorem RSlow_24 (a b p q : Int) (hp : U64 p) (hq : U64 q) (w : World) (VA : ∀ w, Calls Try.prog 36 #[.int .u64 a] w fun e w' => e = .returned (.tuple #[.float .f64 p.toNat, .bool true]) ∧ w' = w) (VB : ∀ w, Calls Try.prog 36 #[.int .u64 b] w fun e w' => e = .returned (.tuple #[.float .f64 q.toNat, .bool true]) ∧ w' = w) :
    Calls Try.prog 17 #[.int .i64 24, .int .u64 a, .int .u64 b] w fun e w' => e = .returned (.int .u64 (slowI 24 p q)) ∧ Below w.heap.size w w' := by
  have RK := fun w => reckon_24 p q hp hq w
  rw [slowI_num (by decide) (by decide)]
  generalize numI 24 p q = R at *
  clear hp hq
  generalize p.toNat = x at *
  generalize q.toNat = y at *
  replace VA := Lib.hid VA
  replace VB := Lib.hid VB
  replace RK := Lib.hid RK
  go_enter Try.func17, Try.ntmps17
  go_wp2_with (first | (go_at_call 36; with_reducible first | (refine (VA.out _).mono ?_; rintro e w' ⟨rfl, rfl⟩) | (refine (VB.out _).mono ?_; rintro e w' ⟨rfl, rfl⟩)) | (go_at_call 37; refine (RK.out _).mono ?_; rintro e w1 ⟨v, rfl, hv, hl, hb1⟩) | (go_at_call 34; refine (rFloat_of (by assumption) (by assumption) _).mono ?_; rintro e w' ⟨rfl, rfl⟩))
  all_goals go_ret
  all_goals exact ⟨rfl, by repeat (first | exact Below.refl _ _ | apply below_alloc | apply below_drewN | apply below_drew | refine below_via (by assumption) ?_)⟩
set_option maxRecDepth 100000 in
theorem RSlow_25 (a b p q : Int) (hp : U64 p) (hq : U64 q) (w : World) (VA : ∀ w, Calls Try.prog 36 #[.int .u64 a] w fun e w' => e = .returned (.tuple #[.float .f64 p.toNat, .bool true]) ∧ w' = w) (VB : ∀ w, Calls Try.prog 36 #[.int .u64 b] w fun e w' => e = .returned (.tuple #[.float .f64 q.toNat, .bool true]) ∧ w' = w) :
    Calls Try.prog 17 #[.int .i64 25, .int .u64 a, .int .u64 b] w fun e w' => e = .returned (.int .u64 (slowI 25 p q)) ∧ Below w.heap.size w w' := by
  have RK := fun w => reckon_25 p q hp hq w
  rw [slowI_num (by decide) (by decide)]
  generalize numI 25 p q = R at *
  clear hp hq
  generalize p.toNat = x at *
  generalize q.toNat = y at *
  replace VA := Lib.hid VA
  replace VB := Lib.hid VB
  replace RK := Lib.hid RK
  go_enter Try.func17, Try.ntmps17
  go_wp2_with (first | (go_at_call 36; with_reducible first | (refine (VA.out _).mono ?_; rintro e w' ⟨rfl, rfl⟩) | (refine (VB.out _).mono ?_; rintro e w' ⟨rfl, rfl⟩)) | (go_at_call 37; refine (RK.out _).mono ?_; rintro e w1 ⟨v, rfl, hv, hl, hb1⟩) | (go_at_call 34; refine (rFloat_of (by assumption) (by assumption) _).mono ?_; rintro e w' ⟨rfl, rfl⟩))
  all_goals go_ret
  all_goals exact ⟨rfl, by repeat (first | exact Below.refl _ _ | apply below_alloc | apply below_drewN | apply below_drew | refine below_via (by assumption) ?_)⟩
set_option maxRecDepth 100000 in
theorem RSlow_26 (a b p q : Int) (hp : U64 p) (hq : U64 q) (w : World) (VA : ∀ w, Calls Try.prog 36 #[.int .u64 a] w fun e w' => e = .returned (.tuple #[.float .f64 p.toNat, .bool true]) ∧ w' = w) (VB : ∀ w, Calls Try.prog 36 #[.int .u64 b] w fun e w' => e = .returned (.tuple #[.float .f64 q.toNat, .bool true]) ∧ w' = w) :
    Calls Try.prog 17 #[.int .i64 26, .int .u64 a, .int .u64 b] w fun e w' => e = .returned (.int .u64 (slowI 26 p q)) ∧ Below w.heap.size w w' := by
  have RK := fun w => reckon_26 p q hp hq w
  rw [slowI_num (by decide) (by decide)]
  generalize numI 26 p q = R at *
  clear hp hq
  generalize p.toNat = x at *
  generalize q.toNat = y at *
  replace VA := Lib.hid VA
  replace VB := Lib.hid VB
  replace RK := Lib.hid RK
  go_enter Try.func17, Try.ntmps17
  go_wp2_with (first | (go_at_call 36; with_reducible first | (refine (VA.out _).mono ?_; rintro e w' ⟨rfl, rfl⟩) | (refine (VB.out _).mono ?_; rintro e w' ⟨rfl, rfl⟩)) | (go_at_call 37; refine (RK.out _).mono ?_; rintro e w1 ⟨v, rfl, hv, hl, hb1⟩) | (go_at_call 34; refine (rFloat_of (by assumption) (by assumption) _).mono ?_; rintro e w' ⟨rfl, rfl⟩))
  all_goals go_ret
  all_goals exact ⟨rfl, by repeat (first | exact Below.refl _ _ | apply below_alloc | apply below_drewN | apply below_drew | refine below_via (by assumption) ?_)⟩
set_option maxRecDepth 100000 in
theorem RSlow_27 (a b p q : Int) (hp : U64 p) (hq : U64 q) (w : World) (VA : ∀ w, Calls Try.prog 36 #[.int .u64 a] w fun e w' => e = .returned (.tuple #[.float .f64 p.toNat, .bool true]) ∧ w' = w) (VB : ∀ w, Calls Try.prog 36 #[.int .u64 b] w fun e w' => e = .returned (.tuple #[.float .f64 q.toNat, .bool true]) ∧ w' = w) :
    Calls Try.prog 17 #[.int .i64 27, .int .u64 a, .int .u64 b] w fun e w' => e = .returned (.int .u64 (slowI 27 p q)) ∧ Below w.heap.size w w' := by
  have RK := fun w => reckon_27 p q hp hq w
  rw [slowI_num (by decide) (by decide)]
  generalize numI 27 p q = R at *
  clear hp hq
  generalize p.toNat = x at *
  generalize q.toNat = y at *
  replace VA := Lib.hid VA
  replace VB := Lib.hid VB
  replace RK := Lib.hid RK
  go_enter Try.func17, Try.ntmps17
  go_wp2_with (first | (go_at_call 36; with_reducible first | (refine (VA.out _).mono ?_; rintro e w' ⟨rfl, rfl⟩) | (refine (VB.out _).mono ?_; rintro e w' ⟨rfl, rfl⟩)) | (go_at_call 37; refine (RK.out _).mono ?_; rintro e w1 ⟨v, rfl, hv, hl, hb1⟩) | (go_at_call 34; refine (rFloat_of (by assumption) (by assumption) _).mono ?_; rintro e w' ⟨rfl, rfl⟩))
  all_goals go_ret
  all_goals exact ⟨rfl, by repeat (first | exact Below.refl _ _ | apply below_alloc | apply below_drewN | apply below_drew | refine below_via (by assumption) ?_)⟩
set_option maxRecDepth 100000 in
theorem RSlow_28 (a b p q : Int) (hp : U64 p) (hq : U64 q) (w : World) (VA : ∀ w, Calls Try.prog 36 #[.int .u64 a] w fun e w' => e = .returned (.tuple #[.float .f64 p.toNat, .bool true]) ∧ w' = w) (VB : ∀ w, Calls Try.prog 36 #[.int .u64 b] w fun e w' => e = .returned (.tuple #[.float .f64 q.toNat, .bool true]) ∧ w' = w) :
    Calls Try.prog 17 #[.int .i64 28, .int .u64 a, .int .u64 b] w fun e w' => e = .returned (.int .u64 (slowI 28 p q)) ∧ Below w.heap.size w w' := by
  have RK := fun w => reckon_28 p q hp hq w
  rw [slowI_num (by decide) (by decide)]
  generalize numI 28 p q = R at *
  clear hp hq
  generalize p.toNat = x at *
  generalize q.toNat = y at *
  replace VA := Lib.hid VA
  replace VB := Lib.hid VB
  replace RK := Lib.hid RK
  go_enter Try.func17, Try.ntmps17
  go_wp2_with (first | (go_at_call 36; with_reducible first | (refine (VA.out _).mono ?_; rintro e w' ⟨rfl, rfl⟩) | (refine (VB.out _).mono ?_; rintro e w' ⟨rfl, rfl⟩)) | (go_at_call 37; refine (RK.out _).mono ?_; rintro e w1 ⟨v, rfl, hv, hl, hb1⟩) | (go_at_call 34; refine (rFloat_of (by assumption) (by assumption) _).mono ?_; rintro e w' ⟨rfl, rfl⟩))
  all_goals go_ret
  all_goals exact ⟨rfl, by repeat (first | exact Below.refl _ _ | apply below_alloc | apply below_drewN | apply below_drew | refine below_via (by assumption) ?_)⟩
set_option maxRecDepth 100000 in
theorem RSlow_29 (a b p q : Int) (hp : U64 p) (hq : U64 q) (w : World) (VA : ∀ w, Calls Try.prog 36 #[.int .u64 a] w fun e w' => e = .returned (.tuple #[.float .f64 p.toNat, .bool true]) ∧ w' = w) (VB : ∀ w, Calls Try.prog 36 #[.int .u64 b] w fun e w' => e = .returned (.tuple #[.float .f64 q.toNat, .bool true]) ∧ w' = w) :
    Calls Try.prog 17 #[.int .i64 29, .int .u64 a, .int .u64 b] w fun e w' => e = .returned (.int .u64 (slowI 29 p q)) ∧ Below w.heap.size w w' := by
  have RK := fun w => reckon_29 p q hp hq w
  rw [slowI_num (by decide) (by decide)]
  generalize numI 29 p q = R at *
  clear hp hq
  generalize p.toNat = x at *
  generalize q.toNat = y at *
  replace VA := Lib.hid VA
  replace VB := Lib.hid VB
  replace RK := Lib.hid RK
  go_enter Try.func17, Try.ntmps17
  go_wp2_with (first | (go_at_call 36; with_reducible first | (refine (VA.out _).mono ?_; rintro e w' ⟨rfl, rfl⟩) | (refine (VB.out _).mono ?_; rintro e w' ⟨rfl, rfl⟩)) | (go_at_call 37; refine (RK.out _).mono ?_; rintro e w1 ⟨v, rfl, hv, hl, hb1⟩) | (go_at_call 34; refine (rFloat_of (by assumption) (by assumption) _).mono ?_; rintro e w' ⟨rfl, rfl⟩))
  all_goals go_ret
  all_goals exact ⟨rfl, by repeat (first | exact Below.refl _ _ | apply below_alloc | apply below_drewN | apply below_drew | refine below_via (by assumption) ?_)⟩
set_option maxRecDepth 100000 in
theorem RSlow_30 (a b p q : Int) (hp : U64 p) (hq : U64 q) (w : World) (VA : ∀ w, Calls Try.prog 36 #[.int .u64 a] w fun e w' => e = .returned (.tuple #[.float .f64 p.toNat, .bool true]) ∧ w' = w) (VB : ∀ w, Calls Try.prog 36 #[.int .u64 b] w fun e w' => e = .returned (.tuple #[.float .f64 q.toNat, .bool true]) ∧ w' = w) :
    Calls Try.prog 17 #[.int .i64 30, .int .u64 a, .int .u64 b] w fun e w' => e = .returned (.int .u64 (slowI 30 p q)) ∧ Below w.heap.size w w' := by
  have RK := fun w => reckon_30 p q hp hq w
  rw [slowI_num (by decide) (by decide)]
  generalize numI 30 p q = R at *
  clear hp hq
  generalize p.toNat = x at *
  generalize q.toNat = y at *
  replace VA := Lib.hid VA
  replace VB := Lib.hid VB
  replace RK := Lib.hid RK
  go_enter Try.func17, Try.ntmps17
  go_wp2_with (first | (go_at_call 36; with_reducible first | (refine (VA.out _).mono ?_; rintro e w' ⟨rfl, rfl⟩) | (refine (VB.out _).mono ?_; rintro e w' ⟨rfl, rfl⟩)) | (go_at_call 37; refine (RK.out _).mono ?_; rintro e w1 ⟨v, rfl, hv, hl, hb1⟩) | (go_at_call 34; refine (rFloat_of (by assumption) (by assumption) _).mono ?_; rintro e w' ⟨rfl, rfl⟩))
  all_goals go_ret
  all_goals exact ⟨rfl, by repeat (first | exact Below.refl _ _ | apply below_alloc | apply below_drewN | apply below_drew | refine below_via (by assumption) ?_)⟩
set_option maxRecDepth 100000 in
theorem RSlow_31 (a b p q : Int) (hp : U64 p) (hq : U64 q) (w : World) (VA : ∀ w, Calls Try.prog 36 #[.int .u64 a] w fun e w' => e = .returned (.tuple #[.float .f64 p.toNat, .bool true]) ∧ w' = w) (VB : ∀ w, Calls Try.prog 36 #[.int .u64 b] w fun e w' => e = .returned (.tuple #[.float .f64 q.toNat, .bool true]) ∧ w' = w) :
    Calls Try.prog 17 #[.int .i64 31, .int .u64 a, .int .u64 b] w fun e w' => e = .returned (.int .u64 (slowI 31 p q)) ∧ Below w.heap.size w w' := by
  have RK := fun w => reckon_31 p q hp hq w
  rw [slowI_num (by decide) (by decide)]
  generalize numI 31 p q = R at *
  clear hp hq
  generalize p.toNat = x at *
  generalize q.toNat = y at *
  replace VA := Lib.hid VA
  replace VB := Lib.hid VB
  replace RK := Lib.hid RK
  go_enter Try.func17, Try.ntmps17
  go_wp2_with (first | (go_at_call 36; with_reducible first | (refine (VA.out _).mono ?_; rintro e w' ⟨rfl, rfl⟩) | (refine (VB.out _).mono ?_; rintro e w' ⟨rfl, rfl⟩)) | (go_at_call 37; refine (RK.out _).mono ?_; rintro e w1 ⟨v, rfl, hv, hl, hb1⟩) | (go_at_call 34; refine (rFloat_of (by assumption) (by assumption) _).mono ?_; rintro e w' ⟨rfl, rfl⟩))
  all_goals go_ret
  all_goals exact ⟨rfl, by repeat (first | exact Below.refl _ _ | apply below_alloc | apply below_drewN | apply below_drew | refine below_via (by assumption) ?_)⟩
set_option maxRecDepth 100000 in
theorem RSlow_32 (a b p q : Int) (hp : U64 p) (hq : U64 q) (w : World) (VA : ∀ w, Calls Try.prog 36 #[.int .u64 a] w fun e w' => e = .returned (.tuple #[.float .f64 p.toNat, .bool true]) ∧ w' = w) (VB : ∀ w, Calls Try.prog 36 #[.int .u64 b] w fun e w' => e = .returned (.tuple #[.float .f64 q.toNat, .bool true]) ∧ w' = w) :
    Calls Try.prog 17 #[.int .i64 32, .int .u64 a, .int .u64 b] w fun e w' => e = .returned (.int .u64 (slowI 32 p q)) ∧ Below w.heap.size w w' := by
  have RK := fun w => reckon_32 p q hp hq w
  have RC := fun w => compare_32 p.toNat q.toNat w
  have RB := fun w => rBool_calls (cmpB 32 (FloatKind.f64.format.order p.toNat q.toNat)) w
  have e : slowI 32 p q = testsI 32 p q := by unfold slowI; simp only [Int.reduceEq, if_false, reduceIte, Int.reduceLE]
  rw [e, tests_cmp hp hq (by decide) (by decide)]
  clear hp hq e
  generalize p.toNat = x at *
  generalize q.toNat = y at *
  generalize cmpB 32 (FloatKind.f64.format.order x y) = c at *
  replace VA := Lib.hid VA
  replace VB := Lib.hid VB
  replace RK := Lib.hid RK
  replace RC := Lib.hid RC
  replace RB := Lib.hid RB
  go_enter Try.func17, Try.ntmps17
  go_wp2_with (first | (go_at_call 36; with_reducible first | (refine (VA.out _).mono ?_; rintro e w' ⟨rfl, rfl⟩) | (refine (VB.out _).mono ?_; rintro e w' ⟨rfl, rfl⟩)) | (go_at_call 37; refine (RK.out _).mono ?_; rintro e w1 ⟨rfl, hb1⟩) | (go_at_call 39; refine (RC.out _).mono ?_; rintro e w' ⟨rfl, rfl⟩) | (go_at_call 38; refine (RB.out _).mono ?_; rintro e w' ⟨rfl, rfl⟩))
  all_goals go_ret
  all_goals exact ⟨rfl, by repeat (first | exact Below.refl _ _ | apply below_alloc | apply below_drewN | apply below_drew | refine below_via (by assumption) ?_)⟩
set_option maxRecDepth 100000 in
theorem RSlow_33 (a b p q : Int) (hp : U64 p) (hq : U64 q) (w : World) (VA : ∀ w, Calls Try.prog 36 #[.int .u64 a] w fun e w' => e = .returned (.tuple #[.float .f64 p.toNat, .bool true]) ∧ w' = w) (VB : ∀ w, Calls Try.prog 36 #[.int .u64 b] w fun e w' => e = .returned (.tuple #[.float .f64 q.toNat, .bool true]) ∧ w' = w) :
    Calls Try.prog 17 #[.int .i64 33, .int .u64 a, .int .u64 b] w fun e w' => e = .returned (.int .u64 (slowI 33 p q)) ∧ Below w.heap.size w w' := by
  have RK := fun w => reckon_33 p q hp hq w
  have RC := fun w => compare_33 p.toNat q.toNat w
  have RB := fun w => rBool_calls (cmpB 33 (FloatKind.f64.format.order p.toNat q.toNat)) w
  have e : slowI 33 p q = testsI 33 p q := by unfold slowI; simp only [Int.reduceEq, if_false, reduceIte, Int.reduceLE]
  rw [e, tests_cmp hp hq (by decide) (by decide)]
  clear hp hq e
  generalize p.toNat = x at *
  generalize q.toNat = y at *
  generalize cmpB 33 (FloatKind.f64.format.order x y) = c at *
  replace VA := Lib.hid VA
  replace VB := Lib.hid VB
  replace RK := Lib.hid RK
  replace RC := Lib.hid RC
  replace RB := Lib.hid RB
  go_enter Try.func17, Try.ntmps17
  go_wp2_with (first | (go_at_call 36; with_reducible first | (refine (VA.out _).mono ?_; rintro e w' ⟨rfl, rfl⟩) | (refine (VB.out _).mono ?_; rintro e w' ⟨rfl, rfl⟩)) | (go_at_call 37; refine (RK.out _).mono ?_; rintro e w1 ⟨rfl, hb1⟩) | (go_at_call 39; refine (RC.out _).mono ?_; rintro e w' ⟨rfl, rfl⟩) | (go_at_call 38; refine (RB.out _).mono ?_; rintro e w' ⟨rfl, rfl⟩))
  all_goals go_ret
  all_goals exact ⟨rfl, by repeat (first | exact Below.refl _ _ | apply below_alloc | apply below_drewN | apply below_drew | refine below_via (by assumption) ?_)⟩
set_option maxRecDepth 100000 in
theorem RSlow_34 (a b p q : Int) (hp : U64 p) (hq : U64 q) (w : World) (VA : ∀ w, Calls Try.prog 36 #[.int .u64 a] w fun e w' => e = .returned (.tuple #[.float .f64 p.toNat, .bool true]) ∧ w' = w) (VB : ∀ w, Calls Try.prog 36 #[.int .u64 b] w fun e w' => e = .returned (.tuple #[.float .f64 q.toNat, .bool true]) ∧ w' = w) :
    Calls Try.prog 17 #[.int .i64 34, .int .u64 a, .int .u64 b] w fun e w' => e = .returned (.int .u64 (slowI 34 p q)) ∧ Below w.heap.size w w' := by
  have RK := fun w => reckon_34 p q hp hq w
  have RC := fun w => compare_34 p.toNat q.toNat w
  have RB := fun w => rBool_calls (cmpB 34 (FloatKind.f64.format.order p.toNat q.toNat)) w
  have e : slowI 34 p q = testsI 34 p q := by unfold slowI; simp only [Int.reduceEq, if_false, reduceIte, Int.reduceLE]
  rw [e, tests_cmp hp hq (by decide) (by decide)]
  clear hp hq e
  generalize p.toNat = x at *
  generalize q.toNat = y at *
  generalize cmpB 34 (FloatKind.f64.format.order x y) = c at *
  replace VA := Lib.hid VA
  replace VB := Lib.hid VB
  replace RK := Lib.hid RK
  replace RC := Lib.hid RC
  replace RB := Lib.hid RB
  go_enter Try.func17, Try.ntmps17
  go_wp2_with (first | (go_at_call 36; with_reducible first | (refine (VA.out _).mono ?_; rintro e w' ⟨rfl, rfl⟩) | (refine (VB.out _).mono ?_; rintro e w' ⟨rfl, rfl⟩)) | (go_at_call 37; refine (RK.out _).mono ?_; rintro e w1 ⟨rfl, hb1⟩) | (go_at_call 39; refine (RC.out _).mono ?_; rintro e w' ⟨rfl, rfl⟩) | (go_at_call 38; refine (RB.out _).mono ?_; rintro e w' ⟨rfl, rfl⟩))
  all_goals go_ret
  all_goals exact ⟨rfl, by repeat (first | exact Below.refl _ _ | apply below_alloc | apply below_drewN | apply below_drew | refine below_via (by assumption) ?_)⟩
set_option maxRecDepth 100000 in
theorem RSlow_35 (a b p q : Int) (hp : U64 p) (hq : U64 q) (w : World) (VA : ∀ w, Calls Try.prog 36 #[.int .u64 a] w fun e w' => e = .returned (.tuple #[.float .f64 p.toNat, .bool true]) ∧ w' = w) (VB : ∀ w, Calls Try.prog 36 #[.int .u64 b] w fun e w' => e = .returned (.tuple #[.float .f64 q.toNat, .bool true]) ∧ w' = w) :
    Calls Try.prog 17 #[.int .i64 35, .int .u64 a, .int .u64 b] w fun e w' => e = .returned (.int .u64 (slowI 35 p q)) ∧ Below w.heap.size w w' := by
  have RK := fun w => reckon_35 p q hp hq w
  have RC := fun w => compare_35 p.toNat q.toNat w
  have RB := fun w => rBool_calls (cmpB 35 (FloatKind.f64.format.order p.toNat q.toNat)) w
  have e : slowI 35 p q = testsI 35 p q := by unfold slowI; simp only [Int.reduceEq, if_false, reduceIte, Int.reduceLE]
  rw [e, tests_cmp hp hq (by decide) (by decide)]
  clear hp hq e
  generalize p.toNat = x at *
  generalize q.toNat = y at *
  generalize cmpB 35 (FloatKind.f64.format.order x y) = c at *
  replace VA := Lib.hid VA
  replace VB := Lib.hid VB
  replace RK := Lib.hid RK
  replace RC := Lib.hid RC
  replace RB := Lib.hid RB
  go_enter Try.func17, Try.ntmps17
  go_wp2_with (first | (go_at_call 36; with_reducible first | (refine (VA.out _).mono ?_; rintro e w' ⟨rfl, rfl⟩) | (refine (VB.out _).mono ?_; rintro e w' ⟨rfl, rfl⟩)) | (go_at_call 37; refine (RK.out _).mono ?_; rintro e w1 ⟨rfl, hb1⟩) | (go_at_call 39; refine (RC.out _).mono ?_; rintro e w' ⟨rfl, rfl⟩) | (go_at_call 38; refine (RB.out _).mono ?_; rintro e w' ⟨rfl, rfl⟩))
  all_goals go_ret
  all_goals exact ⟨rfl, by repeat (first | exact Below.refl _ _ | apply below_alloc | apply below_drewN | apply below_drew | refine below_via (by assumption) ?_)⟩
set_option maxRecDepth 100000 in
theorem RSlow_not (op a b : Int) (x y : Nat) (s t : Bool) (w : World) (VA : ∀ w, Calls Try.prog 36 #[.int .u64 a] w fun e w' => e = .returned (.tuple #[.float .f64 x, .bool s]) ∧ w' = w) (VB : ∀ w, Calls Try.prog 36 #[.int .u64 b] w fun e w' => e = .returned (.tuple #[.float .f64 y, .bool t]) ∧ w' = w) (h : (s && t) = false ∨ op < 21 ∨ 35 < op) :
    Calls Try.prog 17 #[.int .i64 op, .int .u64 a, .int .u64 b] w fun e w' => e = .returned (.int .u64 18445336698825998336) ∧ Below w.heap.size w w' := by
  replace VA := Lib.hid VA
  replace VB := Lib.hid VB
  cases s
  · clear h
    go_enter Try.func17, Try.ntmps17
    go_wp2_with (first | (go_at_call 36; with_reducible first | (refine (VA.out _).mono ?_; rintro e w' ⟨rfl, rfl⟩) | (refine (VB.out _).mono ?_; rintro e w' ⟨rfl, rfl⟩)))
    all_goals go_ret
    all_goals exact ⟨rfl, by repeat (first | exact Below.refl _ _ | apply below_alloc | apply below_drewN | apply below_drew | refine below_via (by assumption) ?_)⟩
  · cases t
    · clear h
      go_enter Try.func17, Try.ntmps17
      go_wp2_with (first | (go_at_call 36; with_reducible first | (refine (VA.out _).mono ?_; rintro e w' ⟨rfl, rfl⟩) | (refine (VB.out _).mono ?_; rintro e w' ⟨rfl, rfl⟩)))
      all_goals go_ret
      all_goals exact ⟨rfl, by repeat (first | exact Below.refl _ _ | apply below_alloc | apply below_drewN | apply below_drew | refine below_via (by assumption) ?_)⟩
    · by_cases c : op < 21
      · clear h
        go_enter Try.func17, Try.ntmps17
        go_wp2_with (first | (go_at_call 36; with_reducible first | (refine (VA.out _).mono ?_; rintro e w' ⟨rfl, rfl⟩) | (refine (VB.out _).mono ?_; rintro e w' ⟨rfl, rfl⟩)))
        all_goals go_ret
        all_goals exact ⟨rfl, by repeat (first | exact Below.refl _ _ | apply below_alloc | apply below_drewN | apply below_drew | refine below_via (by assumption) ?_)⟩
      · have c2 : 35 < op := by rcases h with h | h | h; exact absurd h (by decide); omega; exact h
        clear h
        go_enter Try.func17, Try.ntmps17
        go_wp2_with (first | (go_at_call 36; with_reducible first | (refine (VA.out _).mono ?_; rintro e w' ⟨rfl, rfl⟩) | (refine (VB.out _).mono ?_; rintro e w' ⟨rfl, rfl⟩)))
        all_goals go_ret
        all_goals exact ⟨rfl, by repeat (first | exact Below.refl _ _ | apply below_alloc | apply below_drewN | apply below_drew | refine below_via (by assumption) ?_)⟩
theorem RSlow_calls (op a b : Int) (ha : U64 a) (hb : U64 b) (w : World) : Calls Try.prog 17 #[.int .i64 op, .int .u64 a, .int .u64 b] w fun e w' => e = .returned (.int .u64 (SlowG op a b)) ∧ Below w.heap.size w w' := by
  have VA := fun w => rValue_calls a ha w
  have VB := fun w => rValue_calls b hb w
  obtain ⟨a1, a2, a3⟩ := bits_val ha
  obtain ⟨b1, b2, b3⟩ := bits_val hb
  unfold SlowG
  rw [a1, b1]
  by_cases h : valB a = true ∧ valB b = true ∧ 21 ≤ op ∧ op ≤ 35
  · rw [if_pos h]
    obtain ⟨h1, h2, h3, h4⟩ := h
    obtain ⟨p, hp, p1, p2⟩ := a2 h1
    obtain ⟨q, hq, q1, q2⟩ := b2 h2
    rw [p1, h1] at VA
    rw [q1, h2] at VB
    rw [p2, q2, slowI_canon]
    have : op = 21 ∨ op = 22 ∨ op = 23 ∨ op = 24 ∨ op = 25 ∨ op = 26 ∨ op = 27 ∨ op = 28 ∨ op = 29 ∨ op = 30 ∨ op = 31 ∨ op = 32 ∨ op = 33 ∨ op = 34 ∨ op = 35 := by omega
    rcases this with rfl | rfl | rfl | rfl | rfl | rfl | rfl | rfl | rfl | rfl | rfl | rfl | rfl | rfl | rfl
    · exact RSlow_21 a b p q hp hq w VA VB
    · exact RSlow_22 a b p q hp hq w VA VB
    · exact RSlow_23 a b p q hp hq w VA VB
    · exact RSlow_24 a b p q hp hq w VA VB
    · exact RSlow_25 a b p q hp hq w VA VB
    · exact RSlow_26 a b p q hp hq w VA VB
    · exact RSlow_27 a b p q hp hq w VA VB
    · exact RSlow_28 a b p q hp hq w VA VB
    · exact RSlow_29 a b p q hp hq w VA VB
    · exact RSlow_30 a b p q hp hq w VA VB
    · exact RSlow_31 a b p q hp hq w VA VB
    · exact RSlow_32 a b p q hp hq w VA VB
    · exact RSlow_33 a b p q hp hq w VA VB
    · exact RSlow_34 a b p q hp hq w VA VB
    · exact RSlow_35 a b p q hp hq w VA VB
  · rw [if_neg h]
    refine RSlow_not op a b _ _ _ _ w VA VB ?_
    by_cases g : (valB a && valB b) = true
    · right
      rw [Bool.and_eq_true] at g
      have : ¬ (21 ≤ op ∧ op ≤ 35) := fun k => h ⟨g.1, g.2, k⟩
      omega
    · left; rw [Bool.not_eq_true] at g; exact g
end Go.Proofs.Ytkiakflmoplmeaa
