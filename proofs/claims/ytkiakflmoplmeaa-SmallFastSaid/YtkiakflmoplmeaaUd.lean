/- The walks through the document's package small. -/
import Derived.Test.YtkiakflmoplmeaaUc
import Derived.Test.YtkiakflmoplmeaaHe
import Derived.Test.YtkiakflmoplmeaaTm
import Derived.Test.YtkiakflmoplmeaaTj
import Derived.Test.YtkiakflmoplmeaaRc
namespace Go.Proofs.Ytkiakflmoplmeaa
open Go.RowKit Fp
set_option linter.unusedVariables false
set_option linter.unusedSimpArgs false
theorem toI64_neg {m : Int} (hu : U64 m) (hf : sz m < 9218868437227405312) (r : Nat) (h : V m = r * U) (hr : r < 4294967296) : floatToIntVal .f64 m.toNat .i64 = some (if ngb m then -(r : Int) else (r : Int)) := by
  by_cases z : r = 0
  · subst z
    rw [Nat.zero_mul] at h
    have zz := (V_zero_iff hu).1 h
    have := sz_eq hu
    have l0 := hu.lo
    have l1 := hu.hi
    have e : m = 0 ∨ m = 9223372036854775808 := by omega
    rcases e with rfl | rfl <;> decide +kernel
  · obtain ⟨k, hk⟩ : ∃ k : Int, (if ngb m then -(r : Int) else (r : Int)) = k := ⟨_, rfl⟩
    have k0 : -9007199254740992 < k := by rw [← hk]; split <;> omega
    have k1 : k < 9007199254740992 := by rw [← hk]; split <;> omega
    have fu := FromInt_u64 k0 k1
    have e : SV m = SV (FromIntG k) := by
      rw [SV_FromInt k0 k1, ← hk]
      unfold SV
      rw [h]
      split
      · rw [Int.natCast_mul, Int.neg_mul]
      · rw [Int.natCast_mul]
    have hSR := SR_of_SV hu fu e
    have hnz : SR m ≠ 0 := by
      intro c
      have c2 : sz m = 0 := by unfold SR at c; split at c <;> omega
      have v := (V_zero_iff hu).2 c2
      rw [h] at v
      rcases Nat.mul_eq_zero.1 v with g | g
      · exact z g
      · exact absurd g (Nat.ne_of_gt U_pos)
    rw [hk, SR_inj hu fu hSR hnz]
    exact toI64_FromInt k0 k1
set_option maxRecDepth 100000 in
theorem rwhole_calls (a : Int) (ha : U64 a) (w : World) : Calls Try.prog 64 #[.float .f64 a.toNat] w fun e w' => e = .returned (.int .u32 (ToUint32G a)) ∧ Below w.heap.size w w' := by
  obtain ⟨g, k, h⟩ := mTrunc_calls a ha
  have HT := fun w => (h w).1
  have HO := fun w => (h w).2
  have HS : (FloatKind.f64.format.order a.toNat a.toNat != some .eq) = isNaN a := self_ok ha
  have HI := fun w => IsInf0_calls a ha w
  clear h
  cases hn : isNaN a
  case true =>
    rw [hn] at HS
    rw [u32_nan hn]
    clear HO hn ha HI HT
    generalize a.toNat = x at *
    go_enter Try.func64, Try.ntmps64
    go_wp2
    all_goals go_ret
    all_goals exact ⟨rfl, by repeat (first | exact Below.refl _ _ | apply below_alloc | apply below_drewN | apply below_drew | refine below_via (by assumption) ?_)⟩
  rw [hn] at HS
  by_cases hf : sz a < 9218868437227405312
  case neg =>
    have : ¬ 9218868437227405312 < sz a := by rw [← nan_iff', hn]; decide
    rw [u32_zero hf]
    rw [inf_iff.2 (show sz a = 9218868437227405312 by omega)] at HI
    clear HO hn ha hf this HT
    generalize a.toNat = x at *
    replace HI := Lib.hid HI
    go_enter Try.func64, Try.ntmps64
    go_wp2_with (first | (go_at_call 73; refine (HI.out _).mono ?_; rintro e w' ⟨rfl, rfl⟩))
    all_goals go_ret
    all_goals exact ⟨rfl, by repeat (first | exact Below.refl _ _ | apply below_alloc | apply below_drewN | apply below_drew | refine below_via (by assumption) ?_)⟩
  have T := trunc_of ha hf
  obtain ⟨nt, it⟩ := num_of_fin T.fin
  rw [(num_of_fin hf).2] at HI
  have M := mod32 ha hf
  have HM := fun w => Mod_calls (TruncG a) 4751297606875873280 T.u c32_pos.u T.fin c32_pos.fin (by rw [c32_pos.sz]; decide) w
  rw [show (4751297606875873280 : Int).toNat = 4751297606875873280 by omega] at HM
  have e : ∀ v, g v = (TruncG a).toNat := fun v => OfG_back (HO v).1 nt
  simp only [e] at HT
  rw [u32_fin ha hf]
  have hr : WP a % 4294967296 < 4294967296 := Nat.mod_lt _ (by decide)
  have hc := toI64_neg M.u M.fin _ M.val hr
  rw [M.ng] at hc
  have hcv := fun w => run_convert_float_int (P := Try.prog) (w := w) 51 2 .f64 .i64 _ _ (by kernel_rfl) (by kernel_rfl) hc
  have hw : (if ngb a then -((WP a % 4294967296 : Nat) : Int) else ((WP a % 4294967296 : Nat) : Int)) % 4294967296 = if (ngb a && decide (WP a % 4294967296 ≠ 0)) = true then 4294967296 - ((WP a % 4294967296 : Nat) : Int) else ((WP a % 4294967296 : Nat) : Int) := by
    generalize WP a % 4294967296 = r at *
    cases ngb a
    · simp only [Bool.false_eq_true, if_false, Bool.false_and]; omega
    · by_cases z : r = 0
      · subst z; simp
      · rw [if_pos rfl, decide_eq_true z, if_pos (show (true && true) = true from rfl)]; omega
  rw [← hw]
  have hb : -4294967296 < (if ngb a then -((WP a % 4294967296 : Nat) : Int) else ((WP a % 4294967296 : Nat) : Int)) ∧ (if ngb a then -((WP a % 4294967296 : Nat) : Int) else ((WP a % 4294967296 : Nat) : Int)) < 4294967296 := by split <;> omega
  obtain ⟨hb0, hb1⟩ := hb
  clear hw hc M T it e HO hn nt hr ha hf
  generalize (if ngb a then -((WP a % 4294967296 : Nat) : Int) else ((WP a % 4294967296 : Nat) : Int)) = r at *
  generalize (modR (TruncG a) 4751297606875873280).toNat = mm at *
  generalize (TruncG a).toNat = t at *
  generalize a.toNat = x at *
  replace HT := Lib.hid HT
  replace HI := Lib.hid HI
  replace HM := Lib.hid HM
  go_enter Try.func64, Try.ntmps64
  go_wp2_with (first | (go_at_call 74; refine (HT.out _).mono ?_; rintro e w' ⟨rfl, rfl⟩) | (go_at_call 73; refine (HI.out _).mono ?_; rintro e w' ⟨rfl, rfl⟩) | (go_at_call 65; refine (HM.out _).mono ?_; rintro e w' ⟨rfl, rfl⟩))
  all_goals go_ret
  all_goals exact ⟨rfl, by repeat (first | exact Below.refl _ _ | apply below_alloc | apply below_drewN | apply below_drew | refine below_via (by assumption) ?_)⟩
def cmpB (k : Int) (o : Option Ordering) : Bool := if k = 32 then o == some .lt else if k = 33 then (o == some .lt || o == some .eq) else if k = 34 then o == some .gt else (o == some .gt || o == some .eq)
def numI (op p q : Int) : Int := if op = 21 then AddG p q else if op = 22 then SubG p q else if op = 23 then MulG p q else if op = 24 then DivG p q else if op = 25 then RemG p q else bitsI op (I32 p) (I32 q)
theorem float_i {k : Int} (h0 : -9007199254740992 < k) (h1 : k < 9007199254740992) : OfG (floatOfInt .f64 k) = FromIntG k ∧ floatOfInt .f64 k < 18446744073709551616 := by
  have fu := FromInt_u64 h0 h1
  have l0 := fu.lo
  have l1 := fu.hi
  rw [floatOfInt_eq h0 h1]
  refine ⟨?_, by omega⟩
  unfold OfG
  rw [Int.toNat_of_nonneg l0, not_nan_of_fin (FromInt_fin h0 h1), if_neg (by decide)]
theorem compare_32 (x y : Nat) (w : World) : Calls Try.prog 39 #[.int .i64 32, .float .f64 x, .float .f64 y] w fun e w' => e = .returned (.bool (cmpB 32 (FloatKind.f64.format.order x y))) ∧ w' = w := by
  obtain ⟨o, ho⟩ : ∃ o, FloatKind.f64.format.order x y = o := ⟨_, rfl⟩
  rw [ho]
  rcases o with _ | o
  · show Calls _ _ _ _ fun e w' => e = .returned (.bool false) ∧ w' = w
    go_enter Try.func39, Try.ntmps39
    go_wp2
    all_goals go_ret
    all_goals exact ⟨rfl, rfl⟩
  · cases o
    · show Calls _ _ _ _ fun e w' => e = .returned (.bool true) ∧ w' = w
      go_enter Try.func39, Try.ntmps39
      go_wp2
      all_goals go_ret
      all_goals exact ⟨rfl, rfl⟩
    · show Calls _ _ _ _ fun e w' => e = .returned (.bool false) ∧ w' = w
      go_enter Try.func39, Try.ntmps39
      go_wp2
      all_goals go_ret
      all_goals exact ⟨rfl, rfl⟩
    · show Calls _ _ _ _ fun e w' => e = .returned (.bool false) ∧ w' = w
      go_enter Try.func39, Try.ntmps39
      go_wp2
      all_goals go_ret
      all_goals exact ⟨rfl, rfl⟩
theorem compare_33 (x y : Nat) (w : World) : Calls Try.prog 39 #[.int .i64 33, .float .f64 x, .float .f64 y] w fun e w' => e = .returned (.bool (cmpB 33 (FloatKind.f64.format.order x y))) ∧ w' = w := by
  obtain ⟨o, ho⟩ : ∃ o, FloatKind.f64.format.order x y = o := ⟨_, rfl⟩
  rw [ho]
  rcases o with _ | o
  · show Calls _ _ _ _ fun e w' => e = .returned (.bool false) ∧ w' = w
    go_enter Try.func39, Try.ntmps39
    go_wp2
    all_goals go_ret
    all_goals exact ⟨rfl, rfl⟩
  · cases o
    · show Calls _ _ _ _ fun e w' => e = .returned (.bool true) ∧ w' = w
      go_enter Try.func39, Try.ntmps39
      go_wp2
      all_goals go_ret
      all_goals exact ⟨rfl, rfl⟩
    · show Calls _ _ _ _ fun e w' => e = .returned (.bool true) ∧ w' = w
      go_enter Try.func39, Try.ntmps39
      go_wp2
      all_goals go_ret
      all_goals exact ⟨rfl, rfl⟩
    · show Calls _ _ _ _ fun e w' => e = .returned (.bool false) ∧ w' = w
      go_enter Try.func39, Try.ntmps39
      go_wp2
      all_goals go_ret
      all_goals exact ⟨rfl, rfl⟩
theorem compare_34 (x y : Nat) (w : World) : Calls Try.prog 39 #[.int .i64 34, .float .f64 x, .float .f64 y] w fun e w' => e = .returned (.bool (cmpB 34 (FloatKind.f64.format.order x y))) ∧ w' = w := by
  obtain ⟨o, ho⟩ : ∃ o, FloatKind.f64.format.order x y = o := ⟨_, rfl⟩
  rw [ho]
  rcases o with _ | o
  · show Calls _ _ _ _ fun e w' => e = .returned (.bool false) ∧ w' = w
    go_enter Try.func39, Try.ntmps39
    go_wp2
    all_goals go_ret
    all_goals exact ⟨rfl, rfl⟩
  · cases o
    · show Calls _ _ _ _ fun e w' => e = .returned (.bool false) ∧ w' = w
      go_enter Try.func39, Try.ntmps39
      go_wp2
      all_goals go_ret
      all_goals exact ⟨rfl, rfl⟩
    · show Calls _ _ _ _ fun e w' => e = .returned (.bool false) ∧ w' = w
      go_enter Try.func39, Try.ntmps39
      go_wp2
      all_goals go_ret
      all_goals exact ⟨rfl, rfl⟩
    · show Calls _ _ _ _ fun e w' => e = .returned (.bool true) ∧ w' = w
      go_enter Try.func39, Try.ntmps39
      go_wp2
      all_goals go_ret
      all_goals exact ⟨rfl, rfl⟩
theorem compare_35 (x y : Nat) (w : World) : Calls Try.prog 39 #[.int .i64 35, .float .f64 x, .float .f64 y] w fun e w' => e = .returned (.bool (cmpB 35 (FloatKind.f64.format.order x y))) ∧ w' = w := by
  obtain ⟨o, ho⟩ : ∃ o, FloatKind.f64.format.order x y = o := ⟨_, rfl⟩
  rw [ho]
  rcases o with _ | o
  · show Calls _ _ _ _ fun e w' => e = .returned (.bool false) ∧ w' = w
    go_enter Try.func39, Try.ntmps39
    go_wp2
    all_goals go_ret
    all_goals exact ⟨rfl, rfl⟩
  · cases o
    · show Calls _ _ _ _ fun e w' => e = .returned (.bool false) ∧ w' = w
      go_enter Try.func39, Try.ntmps39
      go_wp2
      all_goals go_ret
      all_goals exact ⟨rfl, rfl⟩
    · show Calls _ _ _ _ fun e w' => e = .returned (.bool true) ∧ w' = w
      go_enter Try.func39, Try.ntmps39
      go_wp2
      all_goals go_ret
      all_goals exact ⟨rfl, rfl⟩
    · show Calls _ _ _ _ fun e w' => e = .returned (.bool true) ∧ w' = w
      go_enter Try.func39, Try.ntmps39
      go_wp2
      all_goals go_ret
      all_goals exact ⟨rfl, rfl⟩
set_option maxRecDepth 100000 in
theorem reckon_21 (p q : Int) (hp : U64 p) (hq : U64 q) (w : World) : Calls Try.prog 37 #[.int .i64 21, .float .f64 p.toNat, .float .f64 q.toNat] w fun e w' => ∃ v : Nat, e = .returned (.tuple #[.float .f64 v, .bool true]) ∧ OfG v = numI 21 p q ∧ v < 18446744073709551616 ∧ Below w.heap.size w w' := by
  have WX := fun w => rwhole_calls p hp w
  have WY := fun w => rwhole_calls q hq w
  have bx := u32_bd hp
  have bY := u32_bd hq
  obtain ⟨x0, x1⟩ := bx
  obtain ⟨y0, y1⟩ := bY
  unfold numI
  simp only [if_pos, Int.reduceEq, if_false, reduceIte]
  obtain ⟨g, c, G⟩ := arith_run .add (.inl rfl) p.toNat q.toNat _ (add_of hp hq)
  have HR := fun t w => (G t w).1
  have HG := Lib.hid (fun w => (G 0 w).2)
  generalize AddG p q = R at *
  clear G hp hq
  generalize p.toNat = x at *
  generalize q.toNat = y at *
  generalize ToUint32G p = px at *
  generalize ToUint32G q = qy at *
  replace WX := Lib.hid WX
  replace WY := Lib.hid WY
  go_enter Try.func37, Try.ntmps37
  go_wp2_with (first | (go_at_call 64; with_reducible first | (refine (WX.out _).mono ?_; rintro e w1 ⟨rfl, hb1⟩) | (refine (WY.out _).mono ?_; rintro e w1 ⟨rfl, hb1⟩)))
  all_goals go_ret2
  all_goals exact ⟨_, rfl, (HG.out _).1, (HG.out _).2, by repeat (first | exact Below.refl _ _ | apply below_alloc | apply below_drewN | apply below_drew | refine below_via (by assumption) ?_)⟩
set_option maxRecDepth 100000 in
theorem reckon_22 (p q : Int) (hp : U64 p) (hq : U64 q) (w : World) : Calls Try.prog 37 #[.int .i64 22, .float .f64 p.toNat, .float .f64 q.toNat] w fun e w' => ∃ v : Nat, e = .returned (.tuple #[.float .f64 v, .bool true]) ∧ OfG v = numI 22 p q ∧ v < 18446744073709551616 ∧ Below w.heap.size w w' := by
  have WX := fun w => rwhole_calls p hp w
  have WY := fun w => rwhole_calls q hq w
  have bx := u32_bd hp
  have bY := u32_bd hq
  obtain ⟨x0, x1⟩ := bx
  obtain ⟨y0, y1⟩ := bY
  unfold numI
  simp only [if_pos, Int.reduceEq, if_false, reduceIte]
  obtain ⟨g, c, G⟩ := arith_run .sub (.inr (.inl rfl)) p.toNat q.toNat _ (sub_of hp hq)
  have HR := fun t w => (G t w).1
  have HG := Lib.hid (fun w => (G 0 w).2)
  generalize SubG p q = R at *
  clear G hp hq
  generalize p.toNat = x at *
  generalize q.toNat = y at *
  generalize ToUint32G p = px at *
  generalize ToUint32G q = qy at *
  replace WX := Lib.hid WX
  replace WY := Lib.hid WY
  go_enter Try.func37, Try.ntmps37
  go_wp2_with (first | (go_at_call 64; with_reducible first | (refine (WX.out _).mono ?_; rintro e w1 ⟨rfl, hb1⟩) | (refine (WY.out _).mono ?_; rintro e w1 ⟨rfl, hb1⟩)))
  all_goals go_ret2
  all_goals exact ⟨_, rfl, (HG.out _).1, (HG.out _).2, by repeat (first | exact Below.refl _ _ | apply below_alloc | apply below_drewN | apply below_drew | refine below_via (by assumption) ?_)⟩
set_option maxRecDepth 100000 in
theorem reckon_23 (p q : Int) (hp : U64 p) (hq : U64 q) (w : World) : Calls Try.prog 37 #[.int .i64 23, .float .f64 p.toNat, .float .f64 q.toNat] w fun e w' => ∃ v : Nat, e = .returned (.tuple #[.float .f64 v, .bool true]) ∧ OfG v = numI 23 p q ∧ v < 18446744073709551616 ∧ Below w.heap.size w w' := by
  have WX := fun w => rwhole_calls p hp w
  have WY := fun w => rwhole_calls q hq w
  have bx := u32_bd hp
  have bY := u32_bd hq
  obtain ⟨x0, x1⟩ := bx
  obtain ⟨y0, y1⟩ := bY
  unfold numI
  simp only [if_pos, Int.reduceEq, if_false, reduceIte]
  obtain ⟨g, c, G⟩ := arith_run .mul (.inr (.inr (.inl rfl))) p.toNat q.toNat _ (mul_of hp hq)
  have HR := fun t w => (G t w).1
  have HG := Lib.hid (fun w => (G 0 w).2)
  generalize MulG p q = R at *
  clear G hp hq
  generalize p.toNat = x at *
  generalize q.toNat = y at *
  generalize ToUint32G p = px at *
  generalize ToUint32G q = qy at *
  replace WX := Lib.hid WX
  replace WY := Lib.hid WY
  go_enter Try.func37, Try.ntmps37
  go_wp2_with (first | (go_at_call 64; with_reducible first | (refine (WX.out _).mono ?_; rintro e w1 ⟨rfl, hb1⟩) | (refine (WY.out _).mono ?_; rintro e w1 ⟨rfl, hb1⟩)))
  all_goals go_ret2
  all_goals exact ⟨_, rfl, (HG.out _).1, (HG.out _).2, by repeat (first | exact Below.refl _ _ | apply below_alloc | apply below_drewN | apply below_drew | refine below_via (by assumption) ?_)⟩
set_option maxRecDepth 100000 in
theorem reckon_24 (p q : Int) (hp : U64 p) (hq : U64 q) (w : World) : Calls Try.prog 37 #[.int .i64 24, .float .f64 p.toNat, .float .f64 q.toNat] w fun e w' => ∃ v : Nat, e = .returned (.tuple #[.float .f64 v, .bool true]) ∧ OfG v = numI 24 p q ∧ v < 18446744073709551616 ∧ Below w.heap.size w w' := by
  have WX := fun w => rwhole_calls p hp w
  have WY := fun w => rwhole_calls q hq w
  have bx := u32_bd hp
  have bY := u32_bd hq
  obtain ⟨x0, x1⟩ := bx
  obtain ⟨y0, y1⟩ := bY
  unfold numI
  simp only [if_pos, Int.reduceEq, if_false, reduceIte]
  obtain ⟨g, c, G⟩ := arith_run .quo (.inr (.inr (.inr rfl))) p.toNat q.toNat _ (div_of hp hq)
  have HR := fun t w => (G t w).1
  have HG := Lib.hid (fun w => (G 0 w).2)
  generalize DivG p q = R at *
  clear G hp hq
  generalize p.toNat = x at *
  generalize q.toNat = y at *
  generalize ToUint32G p = px at *
  generalize ToUint32G q = qy at *
  replace WX := Lib.hid WX
  replace WY := Lib.hid WY
  go_enter Try.func37, Try.ntmps37
  go_wp2_with (first | (go_at_call 64; with_reducible first | (refine (WX.out _).mono ?_; rintro e w1 ⟨rfl, hb1⟩) | (refine (WY.out _).mono ?_; rintro e w1 ⟨rfl, hb1⟩)))
  all_goals go_ret2
  all_goals exact ⟨_, rfl, (HG.out _).1, (HG.out _).2, by repeat (first | exact Below.refl _ _ | apply below_alloc | apply below_drewN | apply below_drew | refine below_via (by assumption) ?_)⟩
set_option maxRecDepth 100000 in
theorem reckon_25 (p q : Int) (hp : U64 p) (hq : U64 q) (w : World) : Calls Try.prog 37 #[.int .i64 25, .float .f64 p.toNat, .float .f64 q.toNat] w fun e w' => ∃ v : Nat, e = .returned (.tuple #[.float .f64 v, .bool true]) ∧ OfG v = numI 25 p q ∧ v < 18446744073709551616 ∧ Below w.heap.size w w' := by
  have WX := fun w => rwhole_calls p hp w
  have WY := fun w => rwhole_calls q hq w
  have bx := u32_bd hp
  have bY := u32_bd hq
  obtain ⟨x0, x1⟩ := bx
  obtain ⟨y0, y1⟩ := bY
  unfold numI
  simp only [if_pos, Int.reduceEq, if_false, reduceIte]
  obtain ⟨v, v1, v2, v3⟩ := Mod_all p q hp hq
  generalize RemG p q = R at *
  clear hp hq
  generalize p.toNat = x at *
  generalize q.toNat = y at *
  generalize ToUint32G p = px at *
  generalize ToUint32G q = qy at *
  replace WX := Lib.hid WX
  replace WY := Lib.hid WY
  replace v3 := Lib.hid v3
  go_enter Try.func37, Try.ntmps37
  go_wp2_with (first | (go_at_call 64; with_reducible first | (refine (WX.out _).mono ?_; rintro e w1 ⟨rfl, hb1⟩) | (refine (WY.out _).mono ?_; rintro e w1 ⟨rfl, hb1⟩)) | (go_at_call 65; refine (v3.out _).mono ?_; rintro e w' ⟨rfl, rfl⟩))
  all_goals go_ret2
  all_goals exact ⟨_, rfl, v1, v2, by repeat (first | exact Below.refl _ _ | apply below_alloc | apply below_drewN | apply below_drew | refine below_via (by assumption) ?_)⟩
set_option maxRecDepth 100000 in
theorem reckon_26 (p q : Int) (hp : U64 p) (hq : U64 q) (w : World) : Calls Try.prog 37 #[.int .i64 26, .float .f64 p.toNat, .float .f64 q.toNat] w fun e w' => ∃ v : Nat, e = .returned (.tuple #[.float .f64 v, .bool true]) ∧ OfG v = numI 26 p q ∧ v < 18446744073709551616 ∧ Below w.heap.size w w' := by
  have WX := fun w => rwhole_calls p hp w
  have WY := fun w => rwhole_calls q hq w
  have bx := u32_bd hp
  have bY := u32_bd hq
  obtain ⟨x0, x1⟩ := bx
  obtain ⟨y0, y1⟩ := bY
  unfold numI
  simp only [if_pos, Int.reduceEq, if_false, reduceIte]
  unfold bitsI I32
  simp only [if_pos, Int.reduceEq, if_false, reduceIte]
  clear hp hq
  generalize p.toNat = x at *
  generalize q.toNat = y at *
  generalize ToUint32G p = px at *
  generalize ToUint32G q = qy at *
  have hk : cnt (wrap32 qy) = (qy % 32).toNat := cnt_u32 qy
  rw [hk]
  obtain ⟨B, hB⟩ : ∃ b, (qy % 32).toNat = b := ⟨_, rfl⟩
  have hB2 : qy % 32 = (B : Int) := by omega
  have hcm : min B 32 = B := by omega
  rw [hB]
  clear hB hk
  rw [← shl_eq32]
  obtain ⟨r, hr⟩ : ∃ r, wrap32 (px * 2 ^ B % 4294967296) = r := ⟨_, rfl⟩
  have hrb : -2147483648 ≤ r ∧ r < 2147483648 := by rw [← hr]; exact wrap32_bd _
  rw [hr]
  obtain ⟨r0, r1⟩ := hrb
  have HF := Lib.hid (float_i (k := r) (by omega) (by omega))
  replace WX := Lib.hid WX
  replace WY := Lib.hid WY
  go_enter Try.func37, Try.ntmps37
  go_wp2_with (first | (go_at_call 64; with_reducible first | (refine (WX.out _).mono ?_; rintro e w1 ⟨rfl, hb1⟩) | (refine (WY.out _).mono ?_; rintro e w1 ⟨rfl, hb1⟩)))
  all_goals go_ret2
  all_goals exact ⟨_, rfl, HF.out.1, HF.out.2, by repeat (first | exact Below.refl _ _ | apply below_alloc | apply below_drewN | apply below_drew | refine below_via (by assumption) ?_)⟩
set_option maxRecDepth 100000 in
theorem reckon_27 (p q : Int) (hp : U64 p) (hq : U64 q) (w : World) : Calls Try.prog 37 #[.int .i64 27, .float .f64 p.toNat, .float .f64 q.toNat] w fun e w' => ∃ v : Nat, e = .returned (.tuple #[.float .f64 v, .bool true]) ∧ OfG v = numI 27 p q ∧ v < 18446744073709551616 ∧ Below w.heap.size w w' := by
  have WX := fun w => rwhole_calls p hp w
  have WY := fun w => rwhole_calls q hq w
  have bx := u32_bd hp
  have bY := u32_bd hq
  obtain ⟨x0, x1⟩ := bx
  obtain ⟨y0, y1⟩ := bY
  unfold numI
  simp only [if_pos, Int.reduceEq, if_false, reduceIte]
  unfold bitsI I32
  simp only [if_pos, Int.reduceEq, if_false, reduceIte]
  clear hp hq
  generalize p.toNat = x at *
  generalize q.toNat = y at *
  generalize ToUint32G p = px at *
  generalize ToUint32G q = qy at *
  have hk : cnt (wrap32 qy) = (qy % 32).toNat := cnt_u32 qy
  rw [hk]
  obtain ⟨B, hB⟩ : ∃ b, (qy % 32).toNat = b := ⟨_, rfl⟩
  have hB2 : qy % 32 = (B : Int) := by omega
  have hcm : min B 32 = B := by omega
  rw [hB]
  clear hB hk
  obtain ⟨w0, w1⟩ := wrap32_bd px
  have hrb := shift_bd B w0 w1
  obtain ⟨s, hs⟩ : ∃ r, wrap32 px = r := ⟨_, rfl⟩
  rw [hs] at hrb w0 w1 ⊢
  obtain ⟨r, hr⟩ : ∃ r, s / 2 ^ B = r := ⟨_, rfl⟩
  rw [hr] at hrb ⊢
  obtain ⟨r0, r1⟩ := hrb
  have HF := Lib.hid (float_i (k := r) (by omega) (by omega))
  replace WX := Lib.hid WX
  replace WY := Lib.hid WY
  go_enter Try.func37, Try.ntmps37
  go_wp2_with (first | (go_at_call 64; with_reducible first | (refine (WX.out _).mono ?_; rintro e w1 ⟨rfl, hb1⟩) | (refine (WY.out _).mono ?_; rintro e w1 ⟨rfl, hb1⟩)))
  all_goals go_ret2
  all_goals exact ⟨_, rfl, HF.out.1, HF.out.2, by repeat (first | exact Below.refl _ _ | apply below_alloc | apply below_drewN | apply below_drew | refine below_via (by assumption) ?_)⟩
set_option maxRecDepth 100000 in
theorem reckon_28 (p q : Int) (hp : U64 p) (hq : U64 q) (w : World) : Calls Try.prog 37 #[.int .i64 28, .float .f64 p.toNat, .float .f64 q.toNat] w fun e w' => ∃ v : Nat, e = .returned (.tuple #[.float .f64 v, .bool true]) ∧ OfG v = numI 28 p q ∧ v < 18446744073709551616 ∧ Below w.heap.size w w' := by
  have WX := fun w => rwhole_calls p hp w
  have WY := fun w => rwhole_calls q hq w
  have bx := u32_bd hp
  have bY := u32_bd hq
  obtain ⟨x0, x1⟩ := bx
  obtain ⟨y0, y1⟩ := bY
  unfold numI
  simp only [if_pos, Int.reduceEq, if_false, reduceIte]
  unfold bitsI I32
  simp only [if_pos, Int.reduceEq, if_false, reduceIte]
  clear hp hq
  generalize p.toNat = x at *
  generalize q.toNat = y at *
  generalize ToUint32G p = px at *
  generalize ToUint32G q = qy at *
  have hk : cnt (wrap32 qy) = (qy % 32).toNat := cnt_u32 qy
  rw [hk]
  obtain ⟨B, hB⟩ : ∃ b, (qy % 32).toNat = b := ⟨_, rfl⟩
  have hB2 : qy % 32 = (B : Int) := by omega
  have hcm : min B 32 = B := by omega
  rw [hB]
  clear hB hk
  rw [wrap32_mod x0 x1]
  have hq' : px / 2 ^ B = px % 4294967296 / 2 ^ B := by rw [Int.emod_eq_of_lt x0 x1]
  have hrb := ushift_bd B px
  rw [← hq'] at hrb
  obtain ⟨r, hr⟩ : ∃ r, px / 2 ^ B = r := ⟨_, rfl⟩
  rw [hr] at hrb ⊢
  rw [near_int hrb.1]
  clear hq'
  obtain ⟨r0, r1⟩ := hrb
  have HF := Lib.hid (float_i (k := r) (by omega) (by omega))
  replace WX := Lib.hid WX
  replace WY := Lib.hid WY
  go_enter Try.func37, Try.ntmps37
  go_wp2_with (first | (go_at_call 64; with_reducible first | (refine (WX.out _).mono ?_; rintro e w1 ⟨rfl, hb1⟩) | (refine (WY.out _).mono ?_; rintro e w1 ⟨rfl, hb1⟩)))
  all_goals go_ret2
  all_goals exact ⟨_, rfl, HF.out.1, HF.out.2, by repeat (first | exact Below.refl _ _ | apply below_alloc | apply below_drewN | apply below_drew | refine below_via (by assumption) ?_)⟩
set_option maxRecDepth 100000 in
theorem reckon_29 (p q : Int) (hp : U64 p) (hq : U64 q) (w : World) : Calls Try.prog 37 #[.int .i64 29, .float .f64 p.toNat, .float .f64 q.toNat] w fun e w' => ∃ v : Nat, e = .returned (.tuple #[.float .f64 v, .bool true]) ∧ OfG v = numI 29 p q ∧ v < 18446744073709551616 ∧ Below w.heap.size w w' := by
  have WX := fun w => rwhole_calls p hp w
  have WY := fun w => rwhole_calls q hq w
  have bx := u32_bd hp
  have bY := u32_bd hq
  obtain ⟨x0, x1⟩ := bx
  obtain ⟨y0, y1⟩ := bY
  unfold numI
  simp only [if_pos, Int.reduceEq, if_false, reduceIte]
  unfold bitsI I32
  simp only [if_pos, Int.reduceEq, if_false, reduceIte]
  clear hp hq
  generalize p.toNat = x at *
  generalize q.toNat = y at *
  generalize ToUint32G p = px at *
  generalize ToUint32G q = qy at *
  rw [← and_32]
  obtain ⟨s, hs⟩ : ∃ r, Go.bits .and .u32 px qy = r := ⟨_, rfl⟩
  have hsb : 0 ≤ s ∧ s < 4294967296 := by
    have h : ∀ n, 0 ≤ IntKind.u32.wrap n ∧ IntKind.u32.wrap n < 4294967296 := fun n => by rw [IntKind.wrap_u32]; omega
    rw [← hs]; exact h _
  rw [hs]
  obtain ⟨s0, s1⟩ := hsb
  obtain ⟨r, hr⟩ : ∃ r, wrap32 s = r := ⟨_, rfl⟩
  have hrb : -2147483648 ≤ r ∧ r < 2147483648 := by rw [← hr]; exact wrap32_bd _
  rw [hr]
  obtain ⟨r0, r1⟩ := hrb
  have HF := Lib.hid (float_i (k := r) (by omega) (by omega))
  replace WX := Lib.hid WX
  replace WY := Lib.hid WY
  go_enter Try.func37, Try.ntmps37
  go_wp2_with (first | (go_at_call 64; with_reducible first | (refine (WX.out _).mono ?_; rintro e w1 ⟨rfl, hb1⟩) | (refine (WY.out _).mono ?_; rintro e w1 ⟨rfl, hb1⟩)))
  all_goals go_ret2
  all_goals exact ⟨_, rfl, HF.out.1, HF.out.2, by repeat (first | exact Below.refl _ _ | apply below_alloc | apply below_drewN | apply below_drew | refine below_via (by assumption) ?_)⟩
set_option maxRecDepth 100000 in
theorem reckon_30 (p q : Int) (hp : U64 p) (hq : U64 q) (w : World) : Calls Try.prog 37 #[.int .i64 30, .float .f64 p.toNat, .float .f64 q.toNat] w fun e w' => ∃ v : Nat, e = .returned (.tuple #[.float .f64 v, .bool true]) ∧ OfG v = numI 30 p q ∧ v < 18446744073709551616 ∧ Below w.heap.size w w' := by
  have WX := fun w => rwhole_calls p hp w
  have WY := fun w => rwhole_calls q hq w
  have bx := u32_bd hp
  have bY := u32_bd hq
  obtain ⟨x0, x1⟩ := bx
  obtain ⟨y0, y1⟩ := bY
  unfold numI
  simp only [if_pos, Int.reduceEq, if_false, reduceIte]
  unfold bitsI I32
  simp only [if_pos, Int.reduceEq, if_false, reduceIte]
  clear hp hq
  generalize p.toNat = x at *
  generalize q.toNat = y at *
  generalize ToUint32G p = px at *
  generalize ToUint32G q = qy at *
  rw [← or_32]
  obtain ⟨s, hs⟩ : ∃ r, Go.bits .or .u32 px qy = r := ⟨_, rfl⟩
  have hsb : 0 ≤ s ∧ s < 4294967296 := by
    have h : ∀ n, 0 ≤ IntKind.u32.wrap n ∧ IntKind.u32.wrap n < 4294967296 := fun n => by rw [IntKind.wrap_u32]; omega
    rw [← hs]; exact h _
  rw [hs]
  obtain ⟨s0, s1⟩ := hsb
  obtain ⟨r, hr⟩ : ∃ r, wrap32 s = r := ⟨_, rfl⟩
  have hrb : -2147483648 ≤ r ∧ r < 2147483648 := by rw [← hr]; exact wrap32_bd _
  rw [hr]
  obtain ⟨r0, r1⟩ := hrb
  have HF := Lib.hid (float_i (k := r) (by omega) (by omega))
  replace WX := Lib.hid WX
  replace WY := Lib.hid WY
  go_enter Try.func37, Try.ntmps37
  go_wp2_with (first | (go_at_call 64; with_reducible first | (refine (WX.out _).mono ?_; rintro e w1 ⟨rfl, hb1⟩) | (refine (WY.out _).mono ?_; rintro e w1 ⟨rfl, hb1⟩)))
  all_goals go_ret2
  all_goals exact ⟨_, rfl, HF.out.1, HF.out.2, by repeat (first | exact Below.refl _ _ | apply below_alloc | apply below_drewN | apply below_drew | refine below_via (by assumption) ?_)⟩
set_option maxRecDepth 100000 in
theorem reckon_31 (p q : Int) (hp : U64 p) (hq : U64 q) (w : World) : Calls Try.prog 37 #[.int .i64 31, .float .f64 p.toNat, .float .f64 q.toNat] w fun e w' => ∃ v : Nat, e = .returned (.tuple #[.float .f64 v, .bool true]) ∧ OfG v = numI 31 p q ∧ v < 18446744073709551616 ∧ Below w.heap.size w w' := by
  have WX := fun w => rwhole_calls p hp w
  have WY := fun w => rwhole_calls q hq w
  have bx := u32_bd hp
  have bY := u32_bd hq
  obtain ⟨x0, x1⟩ := bx
  obtain ⟨y0, y1⟩ := bY
  unfold numI
  simp only [if_pos, Int.reduceEq, if_false, reduceIte]
  unfold bitsI I32
  simp only [if_pos, Int.reduceEq, if_false, reduceIte]
  clear hp hq
  generalize p.toNat = x at *
  generalize q.toNat = y at *
  generalize ToUint32G p = px at *
  generalize ToUint32G q = qy at *
  rw [← xor_32]
  obtain ⟨s, hs⟩ : ∃ r, Go.bits .xor .u32 px qy = r := ⟨_, rfl⟩
  have hsb : 0 ≤ s ∧ s < 4294967296 := by
    have h : ∀ n, 0 ≤ IntKind.u32.wrap n ∧ IntKind.u32.wrap n < 4294967296 := fun n => by rw [IntKind.wrap_u32]; omega
    rw [← hs]; exact h _
  rw [hs]
  obtain ⟨s0, s1⟩ := hsb
  obtain ⟨r, hr⟩ : ∃ r, wrap32 s = r := ⟨_, rfl⟩
  have hrb : -2147483648 ≤ r ∧ r < 2147483648 := by rw [← hr]; exact wrap32_bd _
  rw [hr]
  obtain ⟨r0, r1⟩ := hrb
  have HF := Lib.hid (float_i (k := r) (by omega) (by omega))
  replace WX := Lib.hid WX
  replace WY := Lib.hid WY
  go_enter Try.func37, Try.ntmps37
  go_wp2_with (first | (go_at_call 64; with_reducible first | (refine (WX.out _).mono ?_; rintro e w1 ⟨rfl, hb1⟩) | (refine (WY.out _).mono ?_; rintro e w1 ⟨rfl, hb1⟩)))
  all_goals go_ret2
  all_goals exact ⟨_, rfl, HF.out.1, HF.out.2, by repeat (first | exact Below.refl _ _ | apply below_alloc | apply below_drewN | apply below_drew | refine below_via (by assumption) ?_)⟩
set_option maxRecDepth 100000 in
theorem reckon_32 (p q : Int) (hp : U64 p) (hq : U64 q) (w : World) : Calls Try.prog 37 #[.int .i64 32, .float .f64 p.toNat, .float .f64 q.toNat] w fun e w' => e = .returned (.tuple #[.float .f64 0, .bool false]) ∧ Below w.heap.size w w' := by
  have WX := fun w => rwhole_calls p hp w
  have WY := fun w => rwhole_calls q hq w
  have bx := u32_bd hp
  have bY := u32_bd hq
  obtain ⟨x0, x1⟩ := bx
  obtain ⟨y0, y1⟩ := bY
  clear hp hq
  generalize p.toNat = x at *
  generalize q.toNat = y at *
  generalize ToUint32G p = px at *
  generalize ToUint32G q = qy at *
  replace WX := Lib.hid WX
  replace WY := Lib.hid WY
  go_enter Try.func37, Try.ntmps37
  go_wp2_with (first | (go_at_call 64; with_reducible first | (refine (WX.out _).mono ?_; rintro e w1 ⟨rfl, hb1⟩) | (refine (WY.out _).mono ?_; rintro e w1 ⟨rfl, hb1⟩)))
  all_goals go_ret2
  all_goals exact ⟨rfl, by repeat (first | exact Below.refl _ _ | apply below_alloc | apply below_drewN | apply below_drew | refine below_via (by assumption) ?_)⟩
set_option maxRecDepth 100000 in
theorem reckon_33 (p q : Int) (hp : U64 p) (hq : U64 q) (w : World) : Calls Try.prog 37 #[.int .i64 33, .float .f64 p.toNat, .float .f64 q.toNat] w fun e w' => e = .returned (.tuple #[.float .f64 0, .bool false]) ∧ Below w.heap.size w w' := by
  have WX := fun w => rwhole_calls p hp w
  have WY := fun w => rwhole_calls q hq w
  have bx := u32_bd hp
  have bY := u32_bd hq
  obtain ⟨x0, x1⟩ := bx
  obtain ⟨y0, y1⟩ := bY
  clear hp hq
  generalize p.toNat = x at *
  generalize q.toNat = y at *
  generalize ToUint32G p = px at *
  generalize ToUint32G q = qy at *
  replace WX := Lib.hid WX
  replace WY := Lib.hid WY
  go_enter Try.func37, Try.ntmps37
  go_wp2_with (first | (go_at_call 64; with_reducible first | (refine (WX.out _).mono ?_; rintro e w1 ⟨rfl, hb1⟩) | (refine (WY.out _).mono ?_; rintro e w1 ⟨rfl, hb1⟩)))
  all_goals go_ret2
  all_goals exact ⟨rfl, by repeat (first | exact Below.refl _ _ | apply below_alloc | apply below_drewN | apply below_drew | refine below_via (by assumption) ?_)⟩
set_option maxRecDepth 100000 in
theorem reckon_34 (p q : Int) (hp : U64 p) (hq : U64 q) (w : World) : Calls Try.prog 37 #[.int .i64 34, .float .f64 p.toNat, .float .f64 q.toNat] w fun e w' => e = .returned (.tuple #[.float .f64 0, .bool false]) ∧ Below w.heap.size w w' := by
  have WX := fun w => rwhole_calls p hp w
  have WY := fun w => rwhole_calls q hq w
  have bx := u32_bd hp
  have bY := u32_bd hq
  obtain ⟨x0, x1⟩ := bx
  obtain ⟨y0, y1⟩ := bY
  clear hp hq
  generalize p.toNat = x at *
  generalize q.toNat = y at *
  generalize ToUint32G p = px at *
  generalize ToUint32G q = qy at *
  replace WX := Lib.hid WX
  replace WY := Lib.hid WY
  go_enter Try.func37, Try.ntmps37
  go_wp2_with (first | (go_at_call 64; with_reducible first | (refine (WX.out _).mono ?_; rintro e w1 ⟨rfl, hb1⟩) | (refine (WY.out _).mono ?_; rintro e w1 ⟨rfl, hb1⟩)))
  all_goals go_ret2
  all_goals exact ⟨rfl, by repeat (first | exact Below.refl _ _ | apply below_alloc | apply below_drewN | apply below_drew | refine below_via (by assumption) ?_)⟩
set_option maxRecDepth 100000 in
theorem reckon_35 (p q : Int) (hp : U64 p) (hq : U64 q) (w : World) : Calls Try.prog 37 #[.int .i64 35, .float .f64 p.toNat, .float .f64 q.toNat] w fun e w' => e = .returned (.tuple #[.float .f64 0, .bool false]) ∧ Below w.heap.size w w' := by
  have WX := fun w => rwhole_calls p hp w
  have WY := fun w => rwhole_calls q hq w
  have bx := u32_bd hp
  have bY := u32_bd hq
  obtain ⟨x0, x1⟩ := bx
  obtain ⟨y0, y1⟩ := bY
  clear hp hq
  generalize p.toNat = x at *
  generalize q.toNat = y at *
  generalize ToUint32G p = px at *
  generalize ToUint32G q = qy at *
  replace WX := Lib.hid WX
  replace WY := Lib.hid WY
  go_enter Try.func37, Try.ntmps37
  go_wp2_with (first | (go_at_call 64; with_reducible first | (refine (WX.out _).mono ?_; rintro e w1 ⟨rfl, hb1⟩) | (refine (WY.out _).mono ?_; rintro e w1 ⟨rfl, hb1⟩)))
  all_goals go_ret2
  all_goals exact ⟨rfl, by repeat (first | exact Below.refl _ _ | apply below_alloc | apply below_drewN | apply below_drew | refine below_via (by assumption) ?_)⟩
end Go.Proofs.Ytkiakflmoplmeaa
