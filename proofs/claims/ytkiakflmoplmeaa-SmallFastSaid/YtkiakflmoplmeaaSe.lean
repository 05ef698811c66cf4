/- The walks through package soft: sums of two opened numbers. -/
import Derived.Test.YtkiakflmoplmeaaSb
import Derived.Shelf.Spec.BitsCarry
import Derived.Deep.QuietTactic
import Derived.BigQuiet
import Derived.Deep.RegionHeld3
import Derived.Deep.OwnRows
namespace Go.Proofs.Ytkiakflmoplmeaa
open Go.RowKit Fp
set_option linter.unusedVariables false
set_option linter.unusedSimpArgs false
theorem Add64_runs (x y : Int) (hx : U64 x) (hy : U64 y) (w : World) :
    (callFunc 68 #[.int .u64 x, .int .u64 y, .int .u64 0]).run Try.prog w = .ok (.value (.tuple #[.int .u64 (alo x y), .int .u64 (aca x y)])) w := by
  obtain ⟨hx0, hx1⟩ := hx
  obtain ⟨hy0, hy1⟩ := hy
  have h := run_add64 (P := Try.prog) x y 0 hx0 hy0 (by omega) (by omega) w
  rw [run_callFunc_extern Try.func68 (by kernel_rfl) (by kernel_rfl) (by kernel_rfl) (e := add64Entry) (by kernel_rfl), h]
  simp only [Result.andThen, alo, aca, Int.add_zero]
theorem below_drewN {w W : World} (h : Below w.heap.size w W) (n : Nat) : Below w.heap.size w (W.drewN n) := ⟨h.os, h.tape, h.output, h.size, h.block⟩
theorem below_drew {w W : World} (h : Below w.heap.size w W) : Below w.heap.size w W.drew := ⟨h.os, h.tape, h.output, h.size, h.block⟩
theorem keepS {w W W1 : World} {a b : Addr} {x y : Value} (h : Below W.heap.size W W1) (k : W.cell? a = some x ∧ W.cell? b = some y ∧ Below w.heap.size w W) : W1.cell? a = some x ∧ W1.cell? b = some y ∧ Below w.heap.size w W1 :=
  ⟨(h.cell (World.block_lt_of_cell? W a k.1)).trans k.1, (h.cell (World.block_lt_of_cell? W b k.2.1)).trans k.2.1, below_via h k.2.2⟩
set_option maxRecDepth 100000 in
theorem add_sn (nx : Bool) (xm xe : Int) (ny : Bool) (ym ye : Int) (w : World) (hx : U64 xm) (hy : U64 ym) (h0 : -2000 ≤ xe) (h1 : xe ≤ 2000) (h2 : ye ≤ xe) (h3 : -2000 ≤ ye) (c0 : xe - ye < 64) (hn : (nx == ny) = true) :
    Calls Try.prog 49 #[.agg #[.bool nx, .int .u64 xm, .int .i64 xe], .agg #[.bool ny, .int .u64 ym, .int .i64 ye]] w fun e w' => e = .returned (.int .u64 (addS nx xm xe (lessG ym (xe - ye)) (lostG ym (xe - ye)))) ∧ Below w.heap.size w w' := by
  have hl := lessG_u64 hy (xe - ye)
  have E1 : ym / 2 ^ (xe - ye).toNat = lessG ym (xe - ye) := rfl
  have E2 : (IntKind.u64.wrap (lessG ym (xe - ye) * 2 ^ (xe - ye).toNat) != ym) = lostG ym (xe - ye) := rfl
  have hA := Add64_runs xm (lessG ym (xe - ye)) hx hl
  by_cases hc : (aca xm (lessG ym (xe - ye)) == 0) = true
  · have E : addS nx xm xe (lessG ym (xe - ye)) (lostG ym (xe - ye)) = nearG nx (alo xm (lessG ym (xe - ye))) xe (lostG ym (xe - ye)) := if_pos hc
    rw [E]; clear E
    go_enter Try.func49, Try.ntmps49
    go_wp2_with (first | (go_at_call 53; refine (near_calls _ _ _ _ _ (by omega) (by omega)).mono ?_; rintro e w1 ⟨rfl, hb1⟩))
    go_quiet (fail)
    go_wp2_with (first | (go_at_call 53; refine (near_calls _ _ _ _ _ (by omega) (by omega)).mono ?_; rintro e w1 ⟨rfl, hb1⟩))
    go_ret
    exact ⟨rfl, below_via hb1 (by repeat (first | exact Below.refl _ _ | apply below_alloc | apply below_drewN | apply below_drew))⟩
  · have hcb : (aca xm (lessG ym (xe - ye)) == 0) = false := Bool.eq_false_iff.mpr hc
    have E : addS nx xm xe (lessG ym (xe - ye)) (lostG ym (xe - ye)) = nearG nx (Go.bits .or .u64 (alo xm (lessG ym (xe - ye)) / 2) 9223372036854775808) (xe + 1) ((lostG ym (xe - ye)) || (Go.bits .and .u64 (alo xm (lessG ym (xe - ye))) 1 == 1)) := if_neg hc
    rw [E]; clear E hc
    obtain ⟨lo, hlo⟩ : ∃ l, lostG ym (xe - ye) = l := ⟨_, rfl⟩
    rw [hlo] at E2 ⊢
    cases lo
    all_goals
      go_enter Try.func49, Try.ntmps49
      go_wp2_with (first | (go_at_call 53; refine (near_calls _ _ _ _ _ (by omega) (by omega)).mono ?_; rintro e w1 ⟨rfl, hb1⟩))
      go_quiet (fail)
      go_wp2_with (first | (go_at_call 53; refine (near_calls _ _ _ _ _ (by omega) (by omega)).mono ?_; rintro e w1 ⟨rfl, hb1⟩))
      go_ret
      exact ⟨rfl, below_via hb1 (by repeat (first | exact Below.refl _ _ | apply below_alloc | apply below_drewN | apply below_drew))⟩
set_option maxRecDepth 100000 in
theorem add_sf (nx : Bool) (xm xe : Int) (ny : Bool) (ym ye : Int) (w : World) (hx : U64 xm) (hy : U64 ym) (h0 : -2000 ≤ xe) (h1 : xe ≤ 2000) (h2 : ye ≤ xe) (h3 : -2000 ≤ ye) (c0 : ¬ xe - ye < 64) (hn : (nx == ny) = true) :
    Calls Try.prog 49 #[.agg #[.bool nx, .int .u64 xm, .int .i64 xe], .agg #[.bool ny, .int .u64 ym, .int .i64 ye]] w fun e w' => e = .returned (.int .u64 (addS nx xm xe 0 true)) ∧ Below w.heap.size w w' := by
  have hA := Add64_runs xm 0 hx ⟨by decide, by decide⟩
  by_cases hc : (aca xm 0 == 0) = true
  · have E : addS nx xm xe 0 true = nearG nx (alo xm 0) xe true := if_pos hc
    rw [E]; clear E
    go_enter Try.func49, Try.ntmps49
    go_wp2_with (first | (go_at_call 53; refine (near_calls _ _ _ _ _ (by omega) (by omega)).mono ?_; rintro e w1 ⟨rfl, hb1⟩))
    go_ret
    exact ⟨rfl, below_via hb1 (by repeat (first | exact Below.refl _ _ | apply below_alloc | apply below_drewN | apply below_drew))⟩
  · have hcb : (aca xm 0 == 0) = false := Bool.eq_false_iff.mpr hc
    have E : addS nx xm xe 0 true = nearG nx (Go.bits .or .u64 (alo xm 0 / 2) 9223372036854775808) (xe + 1) (true || (Go.bits .and .u64 (alo xm 0) 1 == 1)) := if_neg hc
    rw [E]; clear E hc
    go_enter Try.func49, Try.ntmps49
    go_wp2_with (first | (go_at_call 53; refine (near_calls _ _ _ _ _ (by omega) (by omega)).mono ?_; rintro e w1 ⟨rfl, hb1⟩))
    go_ret
    exact ⟨rfl, below_via hb1 (by repeat (first | exact Below.refl _ _ | apply below_alloc | apply below_drewN | apply below_drew))⟩
set_option maxRecDepth 100000 in
theorem add_dn (nx : Bool) (xm xe : Int) (ny : Bool) (ym ye : Int) (w : World) (hx : U64 xm) (hy : U64 ym) (h0 : -2000 ≤ xe) (h1 : xe ≤ 2000) (h2 : ye ≤ xe) (h3 : -2000 ≤ ye) (c0 : xe - ye < 64) (hn : (nx == ny) = false) :
    Calls Try.prog 49 #[.agg #[.bool nx, .int .u64 xm, .int .i64 xe], .agg #[.bool ny, .int .u64 ym, .int .i64 ye]] w fun e w' => e = .returned (.int .u64 (addD nx xm xe (lessG ym (xe - ye)) (lostG ym (xe - ye)))) ∧ Below w.heap.size w w' := by
  have hl := lessG_u64 hy (xe - ye)
  have E1 : ym / 2 ^ (xe - ye).toNat = lessG ym (xe - ye) := rfl
  have E2 : (IntKind.u64.wrap (lessG ym (xe - ye) * 2 ^ (xe - ye).toNat) != ym) = lostG ym (xe - ye) := rfl
  obtain ⟨lo, hlo⟩ : ∃ l, lostG ym (xe - ye) = l := ⟨_, rfl⟩
  rw [hlo] at E2 ⊢
  cases lo
  · have EM : (IntKind.u64.wrap (xm - (lessG ym (xe - ye)))) = subM xm (lessG ym (xe - ye)) false := rfl
    have hu := subM_u64 xm (lessG ym (xe - ye)) false
    generalize hM : subM xm (lessG ym (xe - ye)) false = M at *
    have E : addD nx xm xe (lessG ym (xe - ye)) false = if (M == 0) = true then 0 else nearG nx (shlG M) (xe - lz M) false := by unfold addD; rw [hM]
    rw [E]; clear E hM
    obtain ⟨hz0, hz1⟩ := lz_bd hu
    have E3 : IntKind.u64.wrap (M * 2 ^ (lz M).toNat) = shlG M := rfl
    by_cases hc : (M == 0) = true
    · rw [if_pos hc]
      go_enter Try.func49, Try.ntmps49
      go_wp2_with (first | (go_at_call 53; refine (near_calls _ _ _ _ _ (by omega) (by omega)).mono ?_; rintro e w1 ⟨rfl, hb1⟩) | (go_at_call 67; refine (lz_calls _ _ (by assumption)).mono ?_; rintro e w' ⟨rfl, rfl⟩))
      go_quiet (fail)
      go_wp2_with (first | (go_at_call 53; refine (near_calls _ _ _ _ _ (by omega) (by omega)).mono ?_; rintro e w1 ⟨rfl, hb1⟩) | (go_at_call 67; refine (lz_calls _ _ (by assumption)).mono ?_; rintro e w' ⟨rfl, rfl⟩))
      go_ret
      exact ⟨rfl, (by repeat (first | exact Below.refl _ _ | apply below_alloc | apply below_drewN | apply below_drew))⟩
    · rw [if_neg hc]
      have hcb : (M == 0) = false := Bool.eq_false_iff.mpr hc
      clear hc
      have HW : IntKind.i64.wrap (xe - lz M) = xe - lz M := by rw [IntKind.wrap_i64]; omega
      go_enter Try.func49, Try.ntmps49
      go_wp2_with (first | (go_at_call 53; refine (near_calls _ _ _ _ _ (by omega) (by omega)).mono ?_; rintro e w1 ⟨rfl, hb1⟩) | (go_at_call 67; refine (lz_calls _ _ (by assumption)).mono ?_; rintro e w' ⟨rfl, rfl⟩))
      go_quiet (fail)
      go_wp2_with (first | (go_at_call 53; refine (near_calls _ _ _ _ _ (by omega) (by omega)).mono ?_; rintro e w1 ⟨rfl, hb1⟩) | (go_at_call 67; refine (lz_calls _ _ (by assumption)).mono ?_; rintro e w' ⟨rfl, rfl⟩))
      go_region_held3 (fun w' => w'.cell? ⟨w.heap.size, 0, none⟩ = some (.bool nx) ∧ w'.cell? ⟨w.heap.size, 2, none⟩ = some (.int .i64 xe) ∧ Below w.heap.size w w') (first | exact ⟨by simp, by simp, by repeat (first | exact Below.refl _ _ | apply below_alloc | apply below_drewN | apply below_drew)⟩ | exact keepS hb1 ‹_›)
        (first | (go_at_call 53; refine (near_calls _ _ _ _ _ (by omega) (by omega)).mono ?_; rintro e w1 ⟨rfl, hb1⟩))
      go_wp2
      go_ret
      exact ⟨rfl, below_via hb1 (by repeat (first | exact Below.refl _ _ | apply below_alloc | apply below_drewN | apply below_drew))⟩
  · have EM : (IntKind.u64.wrap (IntKind.u64.wrap (xm - (lessG ym (xe - ye))) - 1)) = subM xm (lessG ym (xe - ye)) true := rfl
    have hu := subM_u64 xm (lessG ym (xe - ye)) true
    generalize hM : subM xm (lessG ym (xe - ye)) true = M at *
    have E : addD nx xm xe (lessG ym (xe - ye)) true = if (M == 0) = true then 0 else nearG nx (shlG M) (xe - lz M) true := by unfold addD; rw [hM]
    rw [E]; clear E hM
    obtain ⟨hz0, hz1⟩ := lz_bd hu
    have E3 : IntKind.u64.wrap (M * 2 ^ (lz M).toNat) = shlG M := rfl
    by_cases hc : (M == 0) = true
    · rw [if_pos hc]
      go_enter Try.func49, Try.ntmps49
      go_wp2_with (first | (go_at_call 53; refine (near_calls _ _ _ _ _ (by omega) (by omega)).mono ?_; rintro e w1 ⟨rfl, hb1⟩) | (go_at_call 67; refine (lz_calls _ _ (by assumption)).mono ?_; rintro e w' ⟨rfl, rfl⟩))
      go_quiet (fail)
      go_wp2_with (first | (go_at_call 53; refine (near_calls _ _ _ _ _ (by omega) (by omega)).mono ?_; rintro e w1 ⟨rfl, hb1⟩) | (go_at_call 67; refine (lz_calls _ _ (by assumption)).mono ?_; rintro e w' ⟨rfl, rfl⟩))
      go_ret
      exact ⟨rfl, (by repeat (first | exact Below.refl _ _ | apply below_alloc | apply below_drewN | apply below_drew))⟩
    · rw [if_neg hc]
      have hcb : (M == 0) = false := Bool.eq_false_iff.mpr hc
      clear hc
      have HW : IntKind.i64.wrap (xe - lz M) = xe - lz M := by rw [IntKind.wrap_i64]; omega
      go_enter Try.func49, Try.ntmps49
      go_wp2_with (first | (go_at_call 53; refine (near_calls _ _ _ _ _ (by omega) (by omega)).mono ?_; rintro e w1 ⟨rfl, hb1⟩) | (go_at_call 67; refine (lz_calls _ _ (by assumption)).mono ?_; rintro e w' ⟨rfl, rfl⟩))
      go_quiet (fail)
      go_wp2_with (first | (go_at_call 53; refine (near_calls _ _ _ _ _ (by omega) (by omega)).mono ?_; rintro e w1 ⟨rfl, hb1⟩) | (go_at_call 67; refine (lz_calls _ _ (by assumption)).mono ?_; rintro e w' ⟨rfl, rfl⟩))
      go_region_held3 (fun w' => w'.cell? ⟨w.heap.size, 0, none⟩ = some (.bool nx) ∧ w'.cell? ⟨w.heap.size, 2, none⟩ = some (.int .i64 xe) ∧ Below w.heap.size w w') (first | exact ⟨by simp, by simp, by repeat (first | exact Below.refl _ _ | apply below_alloc | apply below_drewN | apply below_drew)⟩ | exact keepS hb1 ‹_›)
        (first | (go_at_call 53; refine (near_calls _ _ _ _ _ (by omega) (by omega)).mono ?_; rintro e w1 ⟨rfl, hb1⟩))
      go_wp2
      go_ret
      exact ⟨rfl, below_via hb1 (by repeat (first | exact Below.refl _ _ | apply below_alloc | apply below_drewN | apply below_drew))⟩
set_option maxRecDepth 100000 in
theorem add_df (nx : Bool) (xm xe : Int) (ny : Bool) (ym ye : Int) (w : World) (hx : U64 xm) (hy : U64 ym) (h0 : -2000 ≤ xe) (h1 : xe ≤ 2000) (h2 : ye ≤ xe) (h3 : -2000 ≤ ye) (c0 : ¬ xe - ye < 64) (hn : (nx == ny) = false) :
    Calls Try.prog 49 #[.agg #[.bool nx, .int .u64 xm, .int .i64 xe], .agg #[.bool ny, .int .u64 ym, .int .i64 ye]] w fun e w' => e = .returned (.int .u64 (addD nx xm xe 0 true)) ∧ Below w.heap.size w w' := by
  have EM : (IntKind.u64.wrap (IntKind.u64.wrap (xm - 0) - 1)) = subM xm 0 true := rfl
  rw [Int.sub_zero] at EM
  have hu := subM_u64 xm 0 true
  generalize hM : subM xm 0 true = M at *
  have E : addD nx xm xe 0 true = if (M == 0) = true then 0 else nearG nx (shlG M) (xe - lz M) true := by unfold addD; rw [hM]
  rw [E]; clear E hM
  obtain ⟨hz0, hz1⟩ := lz_bd hu
  have E3 : IntKind.u64.wrap (M * 2 ^ (lz M).toNat) = shlG M := rfl
  by_cases hc : (M == 0) = true
  · rw [if_pos hc]
    go_enter Try.func49, Try.ntmps49
    go_wp2_with (first | (go_at_call 53; refine (near_calls _ _ _ _ _ (by omega) (by omega)).mono ?_; rintro e w1 ⟨rfl, hb1⟩) | (go_at_call 67; refine (lz_calls _ _ (by assumption)).mono ?_; rintro e w' ⟨rfl, rfl⟩))
    go_ret
    exact ⟨rfl, (by repeat (first | exact Below.refl _ _ | apply below_alloc | apply below_drewN | apply below_drew))⟩
  · rw [if_neg hc]
    have hcb : (M == 0) = false := Bool.eq_false_iff.mpr hc
    clear hc
    have HW : IntKind.i64.wrap (xe - lz M) = xe - lz M := by rw [IntKind.wrap_i64]; omega
    go_enter Try.func49, Try.ntmps49
    go_wp2_with (first | (go_at_call 53; refine (near_calls _ _ _ _ _ (by omega) (by omega)).mono ?_; rintro e w1 ⟨rfl, hb1⟩) | (go_at_call 67; refine (lz_calls _ _ (by assumption)).mono ?_; rintro e w' ⟨rfl, rfl⟩))
    go_region_held3 (fun w' => w'.cell? ⟨w.heap.size, 0, none⟩ = some (.bool nx) ∧ w'.cell? ⟨w.heap.size, 2, none⟩ = some (.int .i64 xe) ∧ Below w.heap.size w w') (first | exact ⟨by simp, by simp, by repeat (first | exact Below.refl _ _ | apply below_alloc | apply below_drewN | apply below_drew)⟩ | exact keepS hb1 ‹_›)
      (first | (go_at_call 53; refine (near_calls _ _ _ _ _ (by omega) (by omega)).mono ?_; rintro e w1 ⟨rfl, hb1⟩))
    go_wp2
    go_ret
    exact ⟨rfl, below_via hb1 (by repeat (first | exact Below.refl _ _ | apply below_alloc | apply below_drewN | apply below_drew))⟩
theorem add_calls (nx : Bool) (xm xe : Int) (ny : Bool) (ym ye : Int) (w : World) (hx : U64 xm) (hy : U64 ym) (h0 : -2000 ≤ xe) (h1 : xe ≤ 2000) (h2 : ye ≤ xe) (h3 : -2000 ≤ ye) :
    Calls Try.prog 49 #[.agg #[.bool nx, .int .u64 xm, .int .i64 xe], .agg #[.bool ny, .int .u64 ym, .int .i64 ye]] w fun e w' => e = .returned (.int .u64 (addG nx xm xe ny ym ye)) ∧ Below w.heap.size w w' := by
  unfold addG
  by_cases hn : (nx == ny) = true
  · rw [if_pos hn]
    by_cases c0 : xe - ye < 64
    · rw [if_pos c0]; exact add_sn nx xm xe ny ym ye w hx hy h0 h1 h2 h3 c0 hn
    · rw [if_neg c0]; exact add_sf nx xm xe ny ym ye w hx hy h0 h1 h2 h3 c0 hn
  · rw [if_neg hn]
    have hn := Bool.eq_false_iff.mpr hn
    by_cases c0 : xe - ye < 64
    · rw [if_pos c0]; exact add_dn nx xm xe ny ym ye w hx hy h0 h1 h2 h3 c0 hn
    · rw [if_neg c0]; exact add_df nx xm xe ny ym ye w hx hy h0 h1 h2 h3 c0 hn
end Go.Proofs.Ytkiakflmoplmeaa
