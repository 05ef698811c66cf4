/- The walks through package small: Slow. -/
import Derived.Test.YtkiakflmoplmeaaUa
import Derived.Test.YtkiakflmoplmeaaHb
import Derived.Test.YtkiakflmoplmeaaSh
import Derived.Test.YtkiakflmoplmeaaSi
import Derived.Test.YtkiakflmoplmeaaSc
namespace Go.Proofs.Ytkiakflmoplmeaa
open Go.RowKit Fp
set_option linter.unusedVariables false
set_option linter.unusedSimpArgs false
set_option maxRecDepth 100000 in
theorem tests_32 (p q : Int) (w : World) : Calls Try.prog 29 #[.int .i64 32, .int .u64 p, .int .u64 q] w fun e w' => e = .returned (.int .u64 (testsI 32 p q)) ∧ w' = w := by
  have HE := fun w => Equal_calls p q w
  have HL := fun w => Less_calls p q w
  have HO := fun w => wBool_calls (LessG p q) w
  unfold testsI
  simp only [if_pos, Int.reduceEq, if_false, reduceIte]
  generalize EqualG p q = e at *
  generalize LessG p q = l at *
  replace HE := Lib.hid HE
  replace HL := Lib.hid HL
  replace HO := Lib.hid HO
  cases e
  · go_enter Try.func29, Try.ntmps29
    go_wp2_with (first | (go_at_call 56; refine (HE.out _).mono ?_; rintro e w' ⟨rfl, rfl⟩) | (go_at_call 57; refine (HL.out _).mono ?_; rintro e w' ⟨rfl, rfl⟩) | (go_at_call 22; refine (HO.out _).mono ?_; rintro e w' ⟨rfl, rfl⟩))
    all_goals go_ret
    all_goals exact ⟨rfl, rfl⟩
  · go_enter Try.func29, Try.ntmps29
    go_wp2_with (first | (go_at_call 56; refine (HE.out _).mono ?_; rintro e w' ⟨rfl, rfl⟩) | (go_at_call 57; refine (HL.out _).mono ?_; rintro e w' ⟨rfl, rfl⟩) | (go_at_call 22; refine (HO.out _).mono ?_; rintro e w' ⟨rfl, rfl⟩))
    all_goals go_ret
    all_goals exact ⟨rfl, rfl⟩
set_option maxRecDepth 100000 in
theorem tests_33 (p q : Int) (w : World) : Calls Try.prog 29 #[.int .i64 33, .int .u64 p, .int .u64 q] w fun e w' => e = .returned (.int .u64 (testsI 33 p q)) ∧ w' = w := by
  have HE := fun w => Equal_calls p q w
  have HL := fun w => Less_calls p q w
  have HO := fun w => wBool_calls (LessG p q) w
  unfold testsI
  simp only [if_pos, Int.reduceEq, if_false, reduceIte]
  generalize EqualG p q = e at *
  generalize LessG p q = l at *
  replace HE := Lib.hid HE
  replace HL := Lib.hid HL
  replace HO := Lib.hid HO
  cases e
  · go_enter Try.func29, Try.ntmps29
    go_wp2_with (first | (go_at_call 56; refine (HE.out _).mono ?_; rintro e w' ⟨rfl, rfl⟩) | (go_at_call 57; refine (HL.out _).mono ?_; rintro e w' ⟨rfl, rfl⟩) | (go_at_call 22; refine (HO.out _).mono ?_; rintro e w' ⟨rfl, rfl⟩))
    all_goals go_ret
    all_goals exact ⟨rfl, rfl⟩
  · go_enter Try.func29, Try.ntmps29
    go_wp2_with (first | (go_at_call 56; refine (HE.out _).mono ?_; rintro e w' ⟨rfl, rfl⟩) | (go_at_call 57; refine (HL.out _).mono ?_; rintro e w' ⟨rfl, rfl⟩) | (go_at_call 22; refine (HO.out _).mono ?_; rintro e w' ⟨rfl, rfl⟩))
    all_goals go_ret
    all_goals exact ⟨rfl, rfl⟩
set_option maxRecDepth 100000 in
theorem tests_34 (p q : Int) (w : World) : Calls Try.prog 29 #[.int .i64 34, .int .u64 p, .int .u64 q] w fun e w' => e = .returned (.int .u64 (testsI 34 p q)) ∧ w' = w := by
  have HE := fun w => Equal_calls q p w
  have HL := fun w => Less_calls q p w
  have HO := fun w => wBool_calls (LessG q p) w
  unfold testsI
  simp only [if_pos, Int.reduceEq, if_false, reduceIte]
  generalize EqualG q p = e at *
  generalize LessG q p = l at *
  replace HE := Lib.hid HE
  replace HL := Lib.hid HL
  replace HO := Lib.hid HO
  cases e
  · go_enter Try.func29, Try.ntmps29
    go_wp2_with (first | (go_at_call 56; refine (HE.out _).mono ?_; rintro e w' ⟨rfl, rfl⟩) | (go_at_call 57; refine (HL.out _).mono ?_; rintro e w' ⟨rfl, rfl⟩) | (go_at_call 22; refine (HO.out _).mono ?_; rintro e w' ⟨rfl, rfl⟩))
    all_goals go_ret
    all_goals exact ⟨rfl, rfl⟩
  · go_enter Try.func29, Try.ntmps29
    go_wp2_with (first | (go_at_call 56; refine (HE.out _).mono ?_; rintro e w' ⟨rfl, rfl⟩) | (go_at_call 57; refine (HL.out _).mono ?_; rintro e w' ⟨rfl, rfl⟩) | (go_at_call 22; refine (HO.out _).mono ?_; rintro e w' ⟨rfl, rfl⟩))
    all_goals go_ret
    all_goals exact ⟨rfl, rfl⟩
set_option maxRecDepth 100000 in
theorem tests_35 (p q : Int) (w : World) : Calls Try.prog 29 #[.int .i64 35, .int .u64 p, .int .u64 q] w fun e w' => e = .returned (.int .u64 (testsI 35 p q)) ∧ w' = w := by
  have HE := fun w => Equal_calls q p w
  have HL := fun w => Less_calls q p w
  have HO := fun w => wBool_calls (LessG q p) w
  unfold testsI
  simp only [if_pos, Int.reduceEq, if_false, reduceIte]
  generalize EqualG q p = e at *
  generalize LessG q p = l at *
  replace HE := Lib.hid HE
  replace HL := Lib.hid HL
  replace HO := Lib.hid HO
  cases e
  · go_enter Try.func29, Try.ntmps29
    go_wp2_with (first | (go_at_call 56; refine (HE.out _).mono ?_; rintro e w' ⟨rfl, rfl⟩) | (go_at_call 57; refine (HL.out _).mono ?_; rintro e w' ⟨rfl, rfl⟩) | (go_at_call 22; refine (HO.out _).mono ?_; rintro e w' ⟨rfl, rfl⟩))
    all_goals go_ret
    all_goals exact ⟨rfl, rfl⟩
  · go_enter Try.func29, Try.ntmps29
    go_wp2_with (first | (go_at_call 56; refine (HE.out _).mono ?_; rintro e w' ⟨rfl, rfl⟩) | (go_at_call 57; refine (HL.out _).mono ?_; rintro e w' ⟨rfl, rfl⟩) | (go_at_call 22; refine (HO.out _).mono ?_; rintro e w' ⟨rfl, rfl⟩))
    all_goals go_ret
    all_goals exact ⟨rfl, rfl⟩
set_option maxRecDepth 100000 in
theorem bits_26 (p q : Int) (hp : U64 p) (hq : U64 q) (w : World) : Calls Try.prog 30 #[.int .i64 26, .int .u64 p, .int .u64 q] w fun e w' => e = .returned (.int .u64 (bitsI 26 (I32 p) (I32 q))) ∧ Below w.heap.size w w' := by
  have HX := fun w => ToInt32_calls p w hp
  have HY := fun w => ToInt32_calls q w hq
  obtain ⟨x0, x1⟩ := I32_bd p
  obtain ⟨y0, y1⟩ := I32_bd q
  unfold bitsI
  simp only [if_pos, Int.reduceEq, if_false, reduceIte]
  unfold I32 at *
  generalize wrap32 (ToUint32G p) = x at *
  generalize wrap32 (ToUint32G q) = y at *
  have hb := cnt_bits y
  have hcm : min (cnt y) 32 = cnt y := Nat.min_eq_left (by have := cnt_bd y; omega)
  have HF := fun w => FromInt_calls (wrap32 (x * 2 ^ cnt y)) w (by have := wrap32_bd (x * 2 ^ cnt y); omega) (by have := wrap32_bd (x * 2 ^ cnt y); omega)
  have hwb := wrap32_bd (x * 2 ^ cnt y)
  obtain ⟨w0, w1⟩ := hwb
  generalize cnt y = c at *
  replace HX := Lib.hid HX
  replace HY := Lib.hid HY
  replace HF := Lib.hid HF
  clear hp hq
  go_enter Try.func30, Try.ntmps30
  go_wp2_with (first | (go_at_call 58; with_reducible first | (refine (HX.out _).mono ?_; rintro e w1 ⟨rfl, hb1⟩) | (refine (HY.out _).mono ?_; rintro e w1 ⟨rfl, hb1⟩)) | (go_at_call 42; refine (HF.out _).mono ?_; rintro e w1 ⟨rfl, hb1⟩))
  all_goals go_ret
  all_goals exact ⟨rfl, by repeat (first | exact Below.refl _ _ | apply below_alloc | apply below_drewN | apply below_drew | refine below_via (by assumption) ?_)⟩
set_option maxRecDepth 100000 in
theorem bits_27 (p q : Int) (hp : U64 p) (hq : U64 q) (w : World) : Calls Try.prog 30 #[.int .i64 27, .int .u64 p, .int .u64 q] w fun e w' => e = .returned (.int .u64 (bitsI 27 (I32 p) (I32 q))) ∧ Below w.heap.size w w' := by
  have HX := fun w => ToInt32_calls p w hp
  have HY := fun w => ToInt32_calls q w hq
  obtain ⟨x0, x1⟩ := I32_bd p
  obtain ⟨y0, y1⟩ := I32_bd q
  unfold bitsI
  simp only [if_pos, Int.reduceEq, if_false, reduceIte]
  unfold I32 at *
  generalize wrap32 (ToUint32G p) = x at *
  generalize wrap32 (ToUint32G q) = y at *
  have hb := cnt_bits y
  have hcm : min (cnt y) 32 = cnt y := Nat.min_eq_left (by have := cnt_bd y; omega)
  have hs := shift_bd (cnt y) x0 x1
  obtain ⟨w0, w1⟩ := hs
  have HF := fun w => FromInt_calls (x / 2 ^ cnt y) w (by omega) (by omega)
  generalize cnt y = c at *
  replace HX := Lib.hid HX
  replace HY := Lib.hid HY
  replace HF := Lib.hid HF
  clear hp hq
  go_enter Try.func30, Try.ntmps30
  go_wp2_with (first | (go_at_call 58; with_reducible first | (refine (HX.out _).mono ?_; rintro e w1 ⟨rfl, hb1⟩) | (refine (HY.out _).mono ?_; rintro e w1 ⟨rfl, hb1⟩)) | (go_at_call 42; refine (HF.out _).mono ?_; rintro e w1 ⟨rfl, hb1⟩))
  all_goals go_ret
  all_goals exact ⟨rfl, by repeat (first | exact Below.refl _ _ | apply below_alloc | apply below_drewN | apply below_drew | refine below_via (by assumption) ?_)⟩
set_option maxRecDepth 100000 in
theorem bits_28 (p q : Int) (hp : U64 p) (hq : U64 q) (w : World) : Calls Try.prog 30 #[.int .i64 28, .int .u64 p, .int .u64 q] w fun e w' => e = .returned (.int .u64 (bitsI 28 (I32 p) (I32 q))) ∧ Below w.heap.size w w' := by
  have HX := fun w => ToInt32_calls p w hp
  have HY := fun w => ToInt32_calls q w hq
  obtain ⟨x0, x1⟩ := I32_bd p
  obtain ⟨y0, y1⟩ := I32_bd q
  unfold bitsI
  simp only [if_pos, Int.reduceEq, if_false, reduceIte]
  unfold I32 at *
  generalize wrap32 (ToUint32G p) = x at *
  generalize wrap32 (ToUint32G q) = y at *
  have hb := cnt_bits y
  have hcm : min (cnt y) 32 = cnt y := Nat.min_eq_left (by have := cnt_bd y; omega)
  have hs := ushift_bd (cnt y) x
  obtain ⟨w0, w1⟩ := hs
  have HF := fun w => FromUint_calls (x % 4294967296 / 2 ^ cnt y) w ⟨by omega, by omega⟩
  generalize cnt y = c at *
  replace HX := Lib.hid HX
  replace HY := Lib.hid HY
  replace HF := Lib.hid HF
  clear hp hq
  go_enter Try.func30, Try.ntmps30
  go_wp2_with (first | (go_at_call 58; with_reducible first | (refine (HX.out _).mono ?_; rintro e w1 ⟨rfl, hb1⟩) | (refine (HY.out _).mono ?_; rintro e w1 ⟨rfl, hb1⟩)) | (go_at_call 59; refine (HF.out _).mono ?_; rintro e w1 ⟨rfl, hb1⟩))
  all_goals go_ret
  all_goals exact ⟨rfl, by repeat (first | exact Below.refl _ _ | apply below_alloc | apply below_drewN | apply below_drew | refine below_via (by assumption) ?_)⟩
set_option maxRecDepth 100000 in
theorem bits_29 (p q : Int) (hp : U64 p) (hq : U64 q) (w : World) : Calls Try.prog 30 #[.int .i64 29, .int .u64 p, .int .u64 q] w fun e w' => e = .returned (.int .u64 (bitsI 29 (I32 p) (I32 q))) ∧ Below w.heap.size w w' := by
  have HX := fun w => ToInt32_calls p w hp
  have HY := fun w => ToInt32_calls q w hq
  obtain ⟨x0, x1⟩ := I32_bd p
  obtain ⟨y0, y1⟩ := I32_bd q
  unfold bitsI
  simp only [if_pos, Int.reduceEq, if_false, reduceIte]
  unfold I32 at *
  generalize wrap32 (ToUint32G p) = x at *
  generalize wrap32 (ToUint32G q) = y at *
  have hs := bits_wrap .and x y
  obtain ⟨w0, w1⟩ := hs
  have HF := fun w => FromInt_calls (Go.bits .and .i32 x y) w (by omega) (by omega)
  obtain ⟨r, hr⟩ : ∃ r, Go.bits .and .i32 x y = r := ⟨_, rfl⟩
  rw [hr] at HF w0 w1 ⊢
  replace HX := Lib.hid HX
  replace HY := Lib.hid HY
  replace HF := Lib.hid HF
  clear hp hq
  go_enter Try.func30, Try.ntmps30
  go_wp2_with (first | (go_at_call 58; with_reducible first | (refine (HX.out _).mono ?_; rintro e w1 ⟨rfl, hb1⟩) | (refine (HY.out _).mono ?_; rintro e w1 ⟨rfl, hb1⟩)) | (go_at_call 42; refine (HF.out _).mono ?_; rintro e w1 ⟨rfl, hb1⟩))
  all_goals go_ret
  all_goals exact ⟨rfl, by repeat (first | exact Below.refl _ _ | apply below_alloc | apply below_drewN | apply below_drew | refine below_via (by assumption) ?_)⟩
set_option maxRecDepth 100000 in
theorem bits_30 (p q : Int) (hp : U64 p) (hq : U64 q) (w : World) : Calls Try.prog 30 #[.int .i64 30, .int .u64 p, .int .u64 q] w fun e w' => e = .returned (.int .u64 (bitsI 30 (I32 p) (I32 q))) ∧ Below w.heap.size w w' := by
  have HX := fun w => ToInt32_calls p w hp
  have HY := fun w => ToInt32_calls q w hq
  obtain ⟨x0, x1⟩ := I32_bd p
  obtain ⟨y0, y1⟩ := I32_bd q
  unfold bitsI
  simp only [if_pos, Int.reduceEq, if_false, reduceIte]
  unfold I32 at *
  generalize wrap32 (ToUint32G p) = x at *
  generalize wrap32 (ToUint32G q) = y at *
  have hs := bits_wrap .or x y
  obtain ⟨w0, w1⟩ := hs
  have HF := fun w => FromInt_calls (Go.bits .or .i32 x y) w (by omega) (by omega)
  obtain ⟨r, hr⟩ : ∃ r, Go.bits .or .i32 x y = r := ⟨_, rfl⟩
  rw [hr] at HF w0 w1 ⊢
  replace HX := Lib.hid HX
  replace HY := Lib.hid HY
  replace HF := Lib.hid HF
  clear hp hq
  go_enter Try.func30, Try.ntmps30
  go_wp2_with (first | (go_at_call 58; with_reducible first | (refine (HX.out _).mono ?_; rintro e w1 ⟨rfl, hb1⟩) | (refine (HY.out _).mono ?_; rintro e w1 ⟨rfl, hb1⟩)) | (go_at_call 42; refine (HF.out _).mono ?_; rintro e w1 ⟨rfl, hb1⟩))
  all_goals go_ret
  all_goals exact ⟨rfl, by repeat (first | exact Below.refl _ _ | apply below_alloc | apply below_drewN | apply below_drew | refine below_via (by assumption) ?_)⟩
set_option maxRecDepth 100000 in
theorem bits_31 (p q : Int) (hp : U64 p) (hq : U64 q) (w : World) : Calls Try.prog 30 #[.int .i64 31, .int .u64 p, .int .u64 q] w fun e w' => e = .returned (.int .u64 (bitsI 31 (I32 p) (I32 q))) ∧ Below w.heap.size w w' := by
  have HX := fun w => ToInt32_calls p w hp
  have HY := fun w => ToInt32_calls q w hq
  obtain ⟨x0, x1⟩ := I32_bd p
  obtain ⟨y0, y1⟩ := I32_bd q
  unfold bitsI
  simp only [if_pos, Int.reduceEq, if_false, reduceIte]
  unfold I32 at *
  generalize wrap32 (ToUint32G p) = x at *
  generalize wrap32 (ToUint32G q) = y at *
  have hs := bits_wrap .xor x y
  obtain ⟨w0, w1⟩ := hs
  have HF := fun w => FromInt_calls (Go.bits .xor .i32 x y) w (by omega) (by omega)
  obtain ⟨r, hr⟩ : ∃ r, Go.bits .xor .i32 x y = r := ⟨_, rfl⟩
  rw [hr] at HF w0 w1 ⊢
  replace HX := Lib.hid HX
  replace HY := Lib.hid HY
  replace HF := Lib.hid HF
  clear hp hq
  go_enter Try.func30, Try.ntmps30
  go_wp2_with (first | (go_at_call 58; with_reducible first | (refine (HX.out _).mono ?_; rintro e w1 ⟨rfl, hb1⟩) | (refine (HY.out _).mono ?_; rintro e w1 ⟨rfl, hb1⟩)) | (go_at_call 42; refine (HF.out _).mono ?_; rintro e w1 ⟨rfl, hb1⟩))
  all_goals go_ret
  all_goals exact ⟨rfl, by repeat (first | exact Below.refl _ _ | apply below_alloc | apply below_drewN | apply below_drew | refine below_via (by assumption) ?_)⟩
set_option maxRecDepth 100000 in
theorem Slow_21 (a b p q : Int) (w : World) (HA : ∀ w, Calls Try.prog 23 #[.int .u64 a] w fun e w' => e = .returned (.tuple #[.int .u64 p, .bool true]) ∧ Below w.heap.size w w') (HB : ∀ w, Calls Try.prog 23 #[.int .u64 b] w fun e w' => e = .returned (.tuple #[.int .u64 q, .bool true]) ∧ Below w.heap.size w w') (hp : U64 p) (hq : U64 q) :
    Calls Try.prog 12 #[.int .i64 21, .int .u64 a, .int .u64 b] w fun e w' => e = .returned (.int .u64 (slowI 21 p q)) ∧ Below w.heap.size w w' := by
  unfold slowI
  simp only [if_pos, Int.reduceEq, if_false, reduceIte, Int.reduceLE]
  have HZ := fun w => AddC p q hp hq w
  have HN := fun w => Number_calls (AddG p q) w (add_u64 hp hq)
  generalize AddG p q = r at *
  generalize NumberG r = v at *
  replace HN := Lib.hid HN
  replace HZ := Lib.hid HZ
  replace HA := Lib.hid HA
  replace HB := Lib.hid HB
  clear hp hq
  go_enter Try.func12, Try.ntmps12
  go_wp2_with (first | (go_at_call 23; with_reducible first | (refine (HA.out _).mono ?_; rintro e w1 ⟨rfl, hb1⟩) | (refine (HB.out _).mono ?_; rintro e w1 ⟨rfl, hb1⟩)) | (go_at_call 24; refine (HZ.out _).mono ?_; rintro e w1 ⟨rfl, hb1⟩) | (go_at_call 31; refine (HN.out _).mono ?_; rintro e w1 ⟨rfl, hb1⟩))
  all_goals go_ret
  all_goals exact ⟨rfl, by repeat (first | exact Below.refl _ _ | apply below_alloc | apply below_drewN | apply below_drew | refine below_via (by assumption) ?_)⟩
set_option maxRecDepth 100000 in
theorem Slow_22 (a b p q : Int) (w : World) (HA : ∀ w, Calls Try.prog 23 #[.int .u64 a] w fun e w' => e = .returned (.tuple #[.int .u64 p, .bool true]) ∧ Below w.heap.size w w') (HB : ∀ w, Calls Try.prog 23 #[.int .u64 b] w fun e w' => e = .returned (.tuple #[.int .u64 q, .bool true]) ∧ Below w.heap.size w w') (hp : U64 p) (hq : U64 q) :
    Calls Try.prog 12 #[.int .i64 22, .int .u64 a, .int .u64 b] w fun e w' => e = .returned (.int .u64 (slowI 22 p q)) ∧ Below w.heap.size w w' := by
  unfold slowI
  simp only [if_pos, Int.reduceEq, if_false, reduceIte, Int.reduceLE]
  have HZ := fun w => SubC p q hp hq w
  have HN := fun w => Number_calls (SubG p q) w (sub_u64 hp hq)
  generalize SubG p q = r at *
  generalize NumberG r = v at *
  replace HN := Lib.hid HN
  replace HZ := Lib.hid HZ
  replace HA := Lib.hid HA
  replace HB := Lib.hid HB
  clear hp hq
  go_enter Try.func12, Try.ntmps12
  go_wp2_with (first | (go_at_call 23; with_reducible first | (refine (HA.out _).mono ?_; rintro e w1 ⟨rfl, hb1⟩) | (refine (HB.out _).mono ?_; rintro e w1 ⟨rfl, hb1⟩)) | (go_at_call 25; refine (HZ.out _).mono ?_; rintro e w1 ⟨rfl, hb1⟩) | (go_at_call 31; refine (HN.out _).mono ?_; rintro e w1 ⟨rfl, hb1⟩))
  all_goals go_ret
  all_goals exact ⟨rfl, by repeat (first | exact Below.refl _ _ | apply below_alloc | apply below_drewN | apply below_drew | refine below_via (by assumption) ?_)⟩
set_option maxRecDepth 100000 in
theorem Slow_23 (a b p q : Int) (w : World) (HA : ∀ w, Calls Try.prog 23 #[.int .u64 a] w fun e w' => e = .returned (.tuple #[.int .u64 p, .bool true]) ∧ Below w.heap.size w w') (HB : ∀ w, Calls Try.prog 23 #[.int .u64 b] w fun e w' => e = .returned (.tuple #[.int .u64 q, .bool true]) ∧ Below w.heap.size w w') (hp : U64 p) (hq : U64 q) :
    Calls Try.prog 12 #[.int .i64 23, .int .u64 a, .int .u64 b] w fun e w' => e = .returned (.int .u64 (slowI 23 p q)) ∧ Below w.heap.size w w' := by
  unfold slowI
  simp only [if_pos, Int.reduceEq, if_false, reduceIte, Int.reduceLE]
  have HZ := fun w => Mul_calls p q w hp hq
  have HN := fun w => Number_calls (MulG p q) w (mul_u64 hp hq)
  generalize MulG p q = r at *
  generalize NumberG r = v at *
  replace HN := Lib.hid HN
  replace HZ := Lib.hid HZ
  replace HA := Lib.hid HA
  replace HB := Lib.hid HB
  clear hp hq
  go_enter Try.func12, Try.ntmps12
  go_wp2_with (first | (go_at_call 23; with_reducible first | (refine (HA.out _).mono ?_; rintro e w1 ⟨rfl, hb1⟩) | (refine (HB.out _).mono ?_; rintro e w1 ⟨rfl, hb1⟩)) | (go_at_call 26; refine (HZ.out _).mono ?_; rintro e w1 ⟨rfl, hb1⟩) | (go_at_call 31; refine (HN.out _).mono ?_; rintro e w1 ⟨rfl, hb1⟩))
  all_goals go_ret
  all_goals exact ⟨rfl, by repeat (first | exact Below.refl _ _ | apply below_alloc | apply below_drewN | apply below_drew | refine below_via (by assumption) ?_)⟩
set_option maxRecDepth 100000 in
theorem Slow_24 (a b p q : Int) (w : World) (HA : ∀ w, Calls Try.prog 23 #[.int .u64 a] w fun e w' => e = .returned (.tuple #[.int .u64 p, .bool true]) ∧ Below w.heap.size w w') (HB : ∀ w, Calls Try.prog 23 #[.int .u64 b] w fun e w' => e = .returned (.tuple #[.int .u64 q, .bool true]) ∧ Below w.heap.size w w') (hp : U64 p) (hq : U64 q) :
    Calls Try.prog 12 #[.int .i64 24, .int .u64 a, .int .u64 b] w fun e w' => e = .returned (.int .u64 (slowI 24 p q)) ∧ Below w.heap.size w w' := by
  unfold slowI
  simp only [if_pos, Int.reduceEq, if_false, reduceIte, Int.reduceLE]
  have HZ := fun w => DivC p q hp hq w
  have HN := fun w => Number_calls (DivG p q) w (div_u64 hp hq)
  generalize DivG p q = r at *
  generalize NumberG r = v at *
  replace HN := Lib.hid HN
  replace HZ := Lib.hid HZ
  replace HA := Lib.hid HA
  replace HB := Lib.hid HB
  clear hp hq
  go_enter Try.func12, Try.ntmps12
  go_wp2_with (first | (go_at_call 23; with_reducible first | (refine (HA.out _).mono ?_; rintro e w1 ⟨rfl, hb1⟩) | (refine (HB.out _).mono ?_; rintro e w1 ⟨rfl, hb1⟩)) | (go_at_call 27; refine (HZ.out _).mono ?_; rintro e w1 ⟨rfl, hb1⟩) | (go_at_call 31; refine (HN.out _).mono ?_; rintro e w1 ⟨rfl, hb1⟩))
  all_goals go_ret
  all_goals exact ⟨rfl, by repeat (first | exact Below.refl _ _ | apply below_alloc | apply below_drewN | apply below_drew | refine below_via (by assumption) ?_)⟩
set_option maxRecDepth 100000 in
theorem Slow_25 (a b p q : Int) (w : World) (HA : ∀ w, Calls Try.prog 23 #[.int .u64 a] w fun e w' => e = .returned (.tuple #[.int .u64 p, .bool true]) ∧ Below w.heap.size w w') (HB : ∀ w, Calls Try.prog 23 #[.int .u64 b] w fun e w' => e = .returned (.tuple #[.int .u64 q, .bool true]) ∧ Below w.heap.size w w') (hp : U64 p) (hq : U64 q) :
    Calls Try.prog 12 #[.int .i64 25, .int .u64 a, .int .u64 b] w fun e w' => e = .returned (.int .u64 (slowI 25 p q)) ∧ Below w.heap.size w w' := by
  unfold slowI
  simp only [if_pos, Int.reduceEq, if_false, reduceIte, Int.reduceLE]
  have HZ := fun w => RemC p q hp hq w
  have HN := fun w => Number_calls (RemG p q) w (rem_u64 hp hq)
  generalize RemG p q = r at *
  generalize NumberG r = v at *
  replace HN := Lib.hid HN
  replace HZ := Lib.hid HZ
  replace HA := Lib.hid HA
  replace HB := Lib.hid HB
  clear hp hq
  go_enter Try.func12, Try.ntmps12
  go_wp2_with (first | (go_at_call 23; with_reducible first | (refine (HA.out _).mono ?_; rintro e w1 ⟨rfl, hb1⟩) | (refine (HB.out _).mono ?_; rintro e w1 ⟨rfl, hb1⟩)) | (go_at_call 28; refine (HZ.out _).mono ?_; rintro e w1 ⟨rfl, hb1⟩) | (go_at_call 31; refine (HN.out _).mono ?_; rintro e w1 ⟨rfl, hb1⟩))
  all_goals go_ret
  all_goals exact ⟨rfl, by repeat (first | exact Below.refl _ _ | apply below_alloc | apply below_drewN | apply below_drew | refine below_via (by assumption) ?_)⟩
set_option maxRecDepth 100000 in
theorem Slow_26 (a b p q : Int) (w : World) (HA : ∀ w, Calls Try.prog 23 #[.int .u64 a] w fun e w' => e = .returned (.tuple #[.int .u64 p, .bool true]) ∧ Below w.heap.size w w') (HB : ∀ w, Calls Try.prog 23 #[.int .u64 b] w fun e w' => e = .returned (.tuple #[.int .u64 q, .bool true]) ∧ Below w.heap.size w w') (hp : U64 p) (hq : U64 q) :
    Calls Try.prog 12 #[.int .i64 26, .int .u64 a, .int .u64 b] w fun e w' => e = .returned (.int .u64 (slowI 26 p q)) ∧ Below w.heap.size w w' := by
  unfold slowI
  simp only [if_pos, Int.reduceEq, if_false, reduceIte, Int.reduceLE]
  have HZ := fun w => bits_26 p q hp hq w
  have HN := fun w => Number_calls (bitsI 26 (I32 p) (I32 q)) w (bitsI_u64 _ _ _ (I32_bd p).1 (I32_bd p).2)
  generalize bitsI 26 (I32 p) (I32 q) = r at *
  generalize NumberG r = v at *
  replace HN := Lib.hid HN
  replace HZ := Lib.hid HZ
  replace HA := Lib.hid HA
  replace HB := Lib.hid HB
  clear hp hq
  go_enter Try.func12, Try.ntmps12
  go_wp2_with (first | (go_at_call 23; with_reducible first | (refine (HA.out _).mono ?_; rintro e w1 ⟨rfl, hb1⟩) | (refine (HB.out _).mono ?_; rintro e w1 ⟨rfl, hb1⟩)) | (go_at_call 30; refine (HZ.out _).mono ?_; rintro e w1 ⟨rfl, hb1⟩) | (go_at_call 31; refine (HN.out _).mono ?_; rintro e w1 ⟨rfl, hb1⟩))
  all_goals go_ret
  all_goals exact ⟨rfl, by repeat (first | exact Below.refl _ _ | apply below_alloc | apply below_drewN | apply below_drew | refine below_via (by assumption) ?_)⟩
set_option maxRecDepth 100000 in
theorem Slow_27 (a b p q : Int) (w : World) (HA : ∀ w, Calls Try.prog 23 #[.int .u64 a] w fun e w' => e = .returned (.tuple #[.int .u64 p, .bool true]) ∧ Below w.heap.size w w') (HB : ∀ w, Calls Try.prog 23 #[.int .u64 b] w fun e w' => e = .returned (.tuple #[.int .u64 q, .bool true]) ∧ Below w.heap.size w w') (hp : U64 p) (hq : U64 q) :
    Calls Try.prog 12 #[.int .i64 27, .int .u64 a, .int .u64 b] w fun e w' => e = .returned (.int .u64 (slowI 27 p q)) ∧ Below w.heap.size w w' := by
  unfold slowI
  simp only [if_pos, Int.reduceEq, if_false, reduceIte, Int.reduceLE]
  have HZ := fun w => bits_27 p q hp hq w
  have HN := fun w => Number_calls (bitsI 27 (I32 p) (I32 q)) w (bitsI_u64 _ _ _ (I32_bd p).1 (I32_bd p).2)
  generalize bitsI 27 (I32 p) (I32 q) = r at *
  generalize NumberG r = v at *
  replace HN := Lib.hid HN
  replace HZ := Lib.hid HZ
  replace HA := Lib.hid HA
  replace HB := Lib.hid HB
  clear hp hq
  go_enter Try.func12, Try.ntmps12
  go_wp2_with (first | (go_at_call 23; with_reducible first | (refine (HA.out _).mono ?_; rintro e w1 ⟨rfl, hb1⟩) | (refine (HB.out _).mono ?_; rintro e w1 ⟨rfl, hb1⟩)) | (go_at_call 30; refine (HZ.out _).mono ?_; rintro e w1 ⟨rfl, hb1⟩) | (go_at_call 31; refine (HN.out _).mono ?_; rintro e w1 ⟨rfl, hb1⟩))
  all_goals go_ret
  all_goals exact ⟨rfl, by repeat (first | exact Below.refl _ _ | apply below_alloc | apply below_drewN | apply below_drew | refine below_via (by assumption) ?_)⟩
set_option maxRecDepth 100000 in
theorem Slow_28 (a b p q : Int) (w : World) (HA : ∀ w, Calls Try.prog 23 #[.int .u64 a] w fun e w' => e = .returned (.tuple #[.int .u64 p, .bool true]) ∧ Below w.heap.size w w') (HB : ∀ w, Calls Try.prog 23 #[.int .u64 b] w fun e w' => e = .returned (.tuple #[.int .u64 q, .bool true]) ∧ Below w.heap.size w w') (hp : U64 p) (hq : U64 q) :
    Calls Try.prog 12 #[.int .i64 28, .int .u64 a, .int .u64 b] w fun e w' => e = .returned (.int .u64 (slowI 28 p q)) ∧ Below w.heap.size w w' := by
  unfold slowI
  simp only [if_pos, Int.reduceEq, if_false, reduceIte, Int.reduceLE]
  have HZ := fun w => bits_28 p q hp hq w
  have HN := fun w => Number_calls (bitsI 28 (I32 p) (I32 q)) w (bitsI_u64 _ _ _ (I32_bd p).1 (I32_bd p).2)
  generalize bitsI 28 (I32 p) (I32 q) = r at *
  generalize NumberG r = v at *
  replace HN := Lib.hid HN
  replace HZ := Lib.hid HZ
  replace HA := Lib.hid HA
  replace HB := Lib.hid HB
  clear hp hq
  go_enter Try.func12, Try.ntmps12
  go_wp2_with (first | (go_at_call 23; with_reducible first | (refine (HA.out _).mono ?_; rintro e w1 ⟨rfl, hb1⟩) | (refine (HB.out _).mono ?_; rintro e w1 ⟨rfl, hb1⟩)) | (go_at_call 30; refine (HZ.out _).mono ?_; rintro e w1 ⟨rfl, hb1⟩) | (go_at_call 31; refine (HN.out _).mono ?_; rintro e w1 ⟨rfl, hb1⟩))
  all_goals go_ret
  all_goals exact ⟨rfl, by repeat (first | exact Below.refl _ _ | apply below_alloc | apply below_drewN | apply below_drew | refine below_via (by assumption) ?_)⟩
set_option maxRecDepth 100000 in
theorem Slow_29 (a b p q : Int) (w : World) (HA : ∀ w, Calls Try.prog 23 #[.int .u64 a] w fun e w' => e = .returned (.tuple #[.int .u64 p, .bool true]) ∧ Below w.heap.size w w') (HB : ∀ w, Calls Try.prog 23 #[.int .u64 b] w fun e w' => e = .returned (.tuple #[.int .u64 q, .bool true]) ∧ Below w.heap.size w w') (hp : U64 p) (hq : U64 q) :
    Calls Try.prog 12 #[.int .i64 29, .int .u64 a, .int .u64 b] w fun e w' => e = .returned (.int .u64 (slowI 29 p q)) ∧ Below w.heap.size w w' := by
  unfold slowI
  simp only [if_pos, Int.reduceEq, if_false, reduceIte, Int.reduceLE]
  have HZ := fun w => bits_29 p q hp hq w
  have HN := fun w => Number_calls (bitsI 29 (I32 p) (I32 q)) w (bitsI_u64 _ _ _ (I32_bd p).1 (I32_bd p).2)
  generalize bitsI 29 (I32 p) (I32 q) = r at *
  generalize NumberG r = v at *
  replace HN := Lib.hid HN
  replace HZ := Lib.hid HZ
  replace HA := Lib.hid HA
  replace HB := Lib.hid HB
  clear hp hq
  go_enter Try.func12, Try.ntmps12
  go_wp2_with (first | (go_at_call 23; with_reducible first | (refine (HA.out _).mono ?_; rintro e w1 ⟨rfl, hb1⟩) | (refine (HB.out _).mono ?_; rintro e w1 ⟨rfl, hb1⟩)) | (go_at_call 30; refine (HZ.out _).mono ?_; rintro e w1 ⟨rfl, hb1⟩) | (go_at_call 31; refine (HN.out _).mono ?_; rintro e w1 ⟨rfl, hb1⟩))
  all_goals go_ret
  all_goals exact ⟨rfl, by repeat (first | exact Below.refl _ _ | apply below_alloc | apply below_drewN | apply below_drew | refine below_via (by assumption) ?_)⟩
set_option maxRecDepth 100000 in
theorem Slow_30 (a b p q : Int) (w : World) (HA : ∀ w, Calls Try.prog 23 #[.int .u64 a] w fun e w' => e = .returned (.tuple #[.int .u64 p, .bool true]) ∧ Below w.heap.size w w') (HB : ∀ w, Calls Try.prog 23 #[.int .u64 b] w fun e w' => e = .returned (.tuple #[.int .u64 q, .bool true]) ∧ Below w.heap.size w w') (hp : U64 p) (hq : U64 q) :
    Calls Try.prog 12 #[.int .i64 30, .int .u64 a, .int .u64 b] w fun e w' => e = .returned (.int .u64 (slowI 30 p q)) ∧ Below w.heap.size w w' := by
  unfold slowI
  simp only [if_pos, Int.reduceEq, if_false, reduceIte, Int.reduceLE]
  have HZ := fun w => bits_30 p q hp hq w
  have HN := fun w => Number_calls (bitsI 30 (I32 p) (I32 q)) w (bitsI_u64 _ _ _ (I32_bd p).1 (I32_bd p).2)
  generalize bitsI 30 (I32 p) (I32 q) = r at *
  generalize NumberG r = v at *
  replace HN := Lib.hid HN
  replace HZ := Lib.hid HZ
  replace HA := Lib.hid HA
  replace HB := Lib.hid HB
  clear hp hq
  go_enter Try.func12, Try.ntmps12
  go_wp2_with (first | (go_at_call 23; with_reducible first | (refine (HA.out _).mono ?_; rintro e w1 ⟨rfl, hb1⟩) | (refine (HB.out _).mono ?_; rintro e w1 ⟨rfl, hb1⟩)) | (go_at_call 30; refine (HZ.out _).mono ?_; rintro e w1 ⟨rfl, hb1⟩) | (go_at_call 31; refine (HN.out _).mono ?_; rintro e w1 ⟨rfl, hb1⟩))
  all_goals go_ret
  all_goals exact ⟨rfl, by repeat (first | exact Below.refl _ _ | apply below_alloc | apply below_drewN | apply below_drew | refine below_via (by assumption) ?_)⟩
set_option maxRecDepth 100000 in
theorem Slow_31 (a b p q : Int) (w : World) (HA : ∀ w, Calls Try.prog 23 #[.int .u64 a] w fun e w' => e = .returned (.tuple #[.int .u64 p, .bool true]) ∧ Below w.heap.size w w') (HB : ∀ w, Calls Try.prog 23 #[.int .u64 b] w fun e w' => e = .returned (.tuple #[.int .u64 q, .bool true]) ∧ Below w.heap.size w w') (hp : U64 p) (hq : U64 q) :
    Calls Try.prog 12 #[.int .i64 31, .int .u64 a, .int .u64 b] w fun e w' => e = .returned (.int .u64 (slowI 31 p q)) ∧ Below w.heap.size w w' := by
  unfold slowI
  simp only [if_pos, Int.reduceEq, if_false, reduceIte, Int.reduceLE]
  have HZ := fun w => bits_31 p q hp hq w
  have HN := fun w => Number_calls (bitsI 31 (I32 p) (I32 q)) w (bitsI_u64 _ _ _ (I32_bd p).1 (I32_bd p).2)
  generalize bitsI 31 (I32 p) (I32 q) = r at *
  generalize NumberG r = v at *
  replace HN := Lib.hid HN
  replace HZ := Lib.hid HZ
  replace HA := Lib.hid HA
  replace HB := Lib.hid HB
  clear hp hq
  go_enter Try.func12, Try.ntmps12
  go_wp2_with (first | (go_at_call 23; with_reducible first | (refine (HA.out _).mono ?_; rintro e w1 ⟨rfl, hb1⟩) | (refine (HB.out _).mono ?_; rintro e w1 ⟨rfl, hb1⟩)) | (go_at_call 30; refine (HZ.out _).mono ?_; rintro e w1 ⟨rfl, hb1⟩) | (go_at_call 31; refine (HN.out _).mono ?_; rintro e w1 ⟨rfl, hb1⟩))
  all_goals go_ret
  all_goals exact ⟨rfl, by repeat (first | exact Below.refl _ _ | apply below_alloc | apply below_drewN | apply below_drew | refine below_via (by assumption) ?_)⟩
set_option maxRecDepth 100000 in
theorem Slow_32 (a b p q : Int) (w : World) (HA : ∀ w, Calls Try.prog 23 #[.int .u64 a] w fun e w' => e = .returned (.tuple #[.int .u64 p, .bool true]) ∧ Below w.heap.size w w') (HB : ∀ w, Calls Try.prog 23 #[.int .u64 b] w fun e w' => e = .returned (.tuple #[.int .u64 q, .bool true]) ∧ Below w.heap.size w w') (hp : U64 p) (hq : U64 q) :
    Calls Try.prog 12 #[.int .i64 32, .int .u64 a, .int .u64 b] w fun e w' => e = .returned (.int .u64 (slowI 32 p q)) ∧ Below w.heap.size w w' := by
  unfold slowI
  simp only [if_pos, Int.reduceEq, if_false, reduceIte, Int.reduceLE]
  have HZ := fun w => tests_32 p q w
  generalize testsI 32 p q = r at *
  replace HZ := Lib.hid HZ
  replace HA := Lib.hid HA
  replace HB := Lib.hid HB
  clear hp hq
  go_enter Try.func12, Try.ntmps12
  go_wp2_with (first | (go_at_call 23; with_reducible first | (refine (HA.out _).mono ?_; rintro e w1 ⟨rfl, hb1⟩) | (refine (HB.out _).mono ?_; rintro e w1 ⟨rfl, hb1⟩)) | (go_at_call 29; refine (HZ.out _).mono ?_; rintro e w' ⟨rfl, rfl⟩))
  all_goals go_ret
  all_goals exact ⟨rfl, by repeat (first | exact Below.refl _ _ | apply below_alloc | apply below_drewN | apply below_drew | refine below_via (by assumption) ?_)⟩
set_option maxRecDepth 100000 in
theorem Slow_33 (a b p q : Int) (w : World) (HA : ∀ w, Calls Try.prog 23 #[.int .u64 a] w fun e w' => e = .returned (.tuple #[.int .u64 p, .bool true]) ∧ Below w.heap.size w w') (HB : ∀ w, Calls Try.prog 23 #[.int .u64 b] w fun e w' => e = .returned (.tuple #[.int .u64 q, .bool true]) ∧ Below w.heap.size w w') (hp : U64 p) (hq : U64 q) :
    Calls Try.prog 12 #[.int .i64 33, .int .u64 a, .int .u64 b] w fun e w' => e = .returned (.int .u64 (slowI 33 p q)) ∧ Below w.heap.size w w' := by
  unfold slowI
  simp only [if_pos, Int.reduceEq, if_false, reduceIte, Int.reduceLE]
  have HZ := fun w => tests_33 p q w
  generalize testsI 33 p q = r at *
  replace HZ := Lib.hid HZ
  replace HA := Lib.hid HA
  replace HB := Lib.hid HB
  clear hp hq
  go_enter Try.func12, Try.ntmps12
  go_wp2_with (first | (go_at_call 23; with_reducible first | (refine (HA.out _).mono ?_; rintro e w1 ⟨rfl, hb1⟩) | (refine (HB.out _).mono ?_; rintro e w1 ⟨rfl, hb1⟩)) | (go_at_call 29; refine (HZ.out _).mono ?_; rintro e w' ⟨rfl, rfl⟩))
  all_goals go_ret
  all_goals exact ⟨rfl, by repeat (first | exact Below.refl _ _ | apply below_alloc | apply below_drewN | apply below_drew | refine below_via (by assumption) ?_)⟩
set_option maxRecDepth 100000 in
theorem Slow_34 (a b p q : Int) (w : World) (HA : ∀ w, Calls Try.prog 23 #[.int .u64 a] w fun e w' => e = .returned (.tuple #[.int .u64 p, .bool true]) ∧ Below w.heap.size w w') (HB : ∀ w, Calls Try.prog 23 #[.int .u64 b] w fun e w' => e = .returned (.tuple #[.int .u64 q, .bool true]) ∧ Below w.heap.size w w') (hp : U64 p) (hq : U64 q) :
    Calls Try.prog 12 #[.int .i64 34, .int .u64 a, .int .u64 b] w fun e w' => e = .returned (.int .u64 (slowI 34 p q)) ∧ Below w.heap.size w w' := by
  unfold slowI
  simp only [if_pos, Int.reduceEq, if_false, reduceIte, Int.reduceLE]
  have HZ := fun w => tests_34 p q w
  generalize testsI 34 p q = r at *
  replace HZ := Lib.hid HZ
  replace HA := Lib.hid HA
  replace HB := Lib.hid HB
  clear hp hq
  go_enter Try.func12, Try.ntmps12
  go_wp2_with (first | (go_at_call 23; with_reducible first | (refine (HA.out _).mono ?_; rintro e w1 ⟨rfl, hb1⟩) | (refine (HB.out _).mono ?_; rintro e w1 ⟨rfl, hb1⟩)) | (go_at_call 29; refine (HZ.out _).mono ?_; rintro e w' ⟨rfl, rfl⟩))
  all_goals go_ret
  all_goals exact ⟨rfl, by repeat (first | exact Below.refl _ _ | apply below_alloc | apply below_drewN | apply below_drew | refine below_via (by assumption) ?_)⟩
set_option maxRecDepth 100000 in
theorem Slow_35 (a b p q : Int) (w : World) (HA : ∀ w, Calls Try.prog 23 #[.int .u64 a] w fun e w' => e = .returned (.tuple #[.int .u64 p, .bool true]) ∧ Below w.heap.size w w') (HB : ∀ w, Calls Try.prog 23 #[.int .u64 b] w fun e w' => e = .returned (.tuple #[.int .u64 q, .bool true]) ∧ Below w.heap.size w w') (hp : U64 p) (hq : U64 q) :
    Calls Try.prog 12 #[.int .i64 35, .int .u64 a, .int .u64 b] w fun e w' => e = .returned (.int .u64 (slowI 35 p q)) ∧ Below w.heap.size w w' := by
  unfold slowI
  simp only [if_pos, Int.reduceEq, if_false, reduceIte, Int.reduceLE]
  have HZ := fun w => tests_35 p q w
  generalize testsI 35 p q = r at *
  replace HZ := Lib.hid HZ
  replace HA := Lib.hid HA
  replace HB := Lib.hid HB
  clear hp hq
  go_enter Try.func12, Try.ntmps12
  go_wp2_with (first | (go_at_call 23; with_reducible first | (refine (HA.out _).mono ?_; rintro e w1 ⟨rfl, hb1⟩) | (refine (HB.out _).mono ?_; rintro e w1 ⟨rfl, hb1⟩)) | (go_at_call 29; refine (HZ.out _).mono ?_; rintro e w' ⟨rfl, rfl⟩))
  all_goals go_ret
  all_goals exact ⟨rfl, by repeat (first | exact Below.refl _ _ | apply below_alloc | apply below_drewN | apply below_drew | refine below_via (by assumption) ?_)⟩
set_option maxRecDepth 100000 in
theorem Slow_not (op a b p q : Int) (s t : Bool) (w : World) (HA : ∀ w, Calls Try.prog 23 #[.int .u64 a] w fun e w' => e = .returned (.tuple #[.int .u64 p, .bool s]) ∧ Below w.heap.size w w') (HB : ∀ w, Calls Try.prog 23 #[.int .u64 b] w fun e w' => e = .returned (.tuple #[.int .u64 q, .bool t]) ∧ Below w.heap.size w w') (h : (s && t) = false ∨ op < 21 ∨ 35 < op) :
    Calls Try.prog 12 #[.int .i64 op, .int .u64 a, .int .u64 b] w fun e w' => e = .returned (.int .u64 18445336698825998336) ∧ Below w.heap.size w w' := by
  replace HA := Lib.hid HA
  replace HB := Lib.hid HB
  cases s
  · clear h
    go_enter Try.func12, Try.ntmps12
    go_wp2_with (first | (go_at_call 23; with_reducible first | (refine (HA.out _).mono ?_; rintro e w1 ⟨rfl, hb1⟩) | (refine (HB.out _).mono ?_; rintro e w1 ⟨rfl, hb1⟩)))
    all_goals go_ret
    all_goals exact ⟨rfl, by repeat (first | exact Below.refl _ _ | apply below_alloc | apply below_drewN | apply below_drew | refine below_via (by assumption) ?_)⟩
  · cases t
    · clear h
      go_enter Try.func12, Try.ntmps12
      go_wp2_with (first | (go_at_call 23; with_reducible first | (refine (HA.out _).mono ?_; rintro e w1 ⟨rfl, hb1⟩) | (refine (HB.out _).mono ?_; rintro e w1 ⟨rfl, hb1⟩)))
      all_goals go_ret
      all_goals exact ⟨rfl, by repeat (first | exact Below.refl _ _ | apply below_alloc | apply below_drewN | apply below_drew | refine below_via (by assumption) ?_)⟩
    · by_cases c : op < 21
      · clear h
        go_enter Try.func12, Try.ntmps12
        go_wp2_with (first | (go_at_call 23; with_reducible first | (refine (HA.out _).mono ?_; rintro e w1 ⟨rfl, hb1⟩) | (refine (HB.out _).mono ?_; rintro e w1 ⟨rfl, hb1⟩)))
        all_goals go_ret
        all_goals exact ⟨rfl, by repeat (first | exact Below.refl _ _ | apply below_alloc | apply below_drewN | apply below_drew | refine below_via (by assumption) ?_)⟩
      · have c2 : 35 < op := by rcases h with h | h | h; exact absurd h (by decide); omega; exact h
        clear h
        go_enter Try.func12, Try.ntmps12
        go_wp2_with (first | (go_at_call 23; with_reducible first | (refine (HA.out _).mono ?_; rintro e w1 ⟨rfl, hb1⟩) | (refine (HB.out _).mono ?_; rintro e w1 ⟨rfl, hb1⟩)))
        all_goals go_ret
        all_goals exact ⟨rfl, by repeat (first | exact Below.refl _ _ | apply below_alloc | apply below_drewN | apply below_drew | refine below_via (by assumption) ?_)⟩
theorem Slow_calls (op a b : Int) (ha : U64 a) (hb : U64 b) (w : World) : Calls Try.prog 12 #[.int .i64 op, .int .u64 a, .int .u64 b] w fun e w' => e = .returned (.int .u64 (SlowG op a b)) ∧ Below w.heap.size w w' := by
  have HA := fun w => Bits_calls a w ha (pI_bd a 65529).1 (pI_bd a 65529).2
  have HB := fun w => Bits_calls b w hb (pI_bd b 65529).1 (pI_bd b 65529).2
  have hp := bits1_u64 ha
  have hq := bits1_u64 hb
  unfold SlowG
  generalize (BitsG a).1 = p at *
  generalize (BitsG b).1 = q at *
  by_cases h : (BitsG a).2 = true ∧ (BitsG b).2 = true ∧ 21 ≤ op ∧ op ≤ 35
  · rw [if_pos h]
    obtain ⟨h1, h2, h3, h4⟩ := h
    rw [h1] at HA
    rw [h2] at HB
    have : op = 21 ∨ op = 22 ∨ op = 23 ∨ op = 24 ∨ op = 25 ∨ op = 26 ∨ op = 27 ∨ op = 28 ∨ op = 29 ∨ op = 30 ∨ op = 31 ∨ op = 32 ∨ op = 33 ∨ op = 34 ∨ op = 35 := by omega
    rcases this with rfl | rfl | rfl | rfl | rfl | rfl | rfl | rfl | rfl | rfl | rfl | rfl | rfl | rfl | rfl
    · exact Slow_21 a b p q w HA HB hp hq
    · exact Slow_22 a b p q w HA HB hp hq
    · exact Slow_23 a b p q w HA HB hp hq
    · exact Slow_24 a b p q w HA HB hp hq
    · exact Slow_25 a b p q w HA HB hp hq
    · exact Slow_26 a b p q w HA HB hp hq
    · exact Slow_27 a b p q w HA HB hp hq
    · exact Slow_28 a b p q w HA HB hp hq
    · exact Slow_29 a b p q w HA HB hp hq
    · exact Slow_30 a b p q w HA HB hp hq
    · exact Slow_31 a b p q w HA HB hp hq
    · exact Slow_32 a b p q w HA HB hp hq
    · exact Slow_33 a b p q w HA HB hp hq
    · exact Slow_34 a b p q w HA HB hp hq
    · exact Slow_35 a b p q w HA HB hp hq
  · rw [if_neg h]
    refine Slow_not op a b p q _ _ w HA HB ?_
    by_cases g : ((BitsG a).2 && (BitsG b).2) = true
    · right
      rw [Bool.and_eq_true] at g
      have : ¬ (21 ≤ op ∧ op ≤ 35) := fun k => h ⟨g.1, g.2, k⟩
      omega
    · left; rw [Bool.not_eq_true] at g; exact g
end Go.Proofs.Ytkiakflmoplmeaa
