/- The walks through soft.Floor and through the document's Trunc and Floor. -/
import Derived.Test.YtmemefjhefmfhaaTa
import Derived.Test.YtmemefjhefmfhaaGi
import Derived.Test.YtmemefjhefmfhaaSd
import Derived.Test.YtmemefjhefmfhaaSg
namespace Go.Proofs.Ytmemefjhefmfhaa
open Go.RowKit Fp
set_option linter.unusedVariables false
set_option linter.unusedSimpArgs false
theorem toIntegral_run (name : String) (way : Ieee.Toward) (a v : Int) (ha : U64 a)
    (hnan : isNaN a = true → v = 9221120237041090560) (hnum : isNaN a = false → OfG (Ieee.double.write ((Ieee.double.read a.toNat).integral way)) = v ∧ Ieee.double.write ((Ieee.double.read a.toNat).integral way) < 18446744073709551616) :
    ∃ g : World → Nat, ∃ k : Nat, ∀ w : World, (Extern.MathFloor.toIntegral name way #[.float .f64 a.toNat]).run Try.prog w = .ok (.float .f64 (g w)) (w.drewN k) ∧ OfG (g w) = v ∧ g w < 18446744073709551616 := by
  have a0 := ha.lo
  have a1 := ha.hi
  have es := sz_eq ha
  have eq : Extern.MathFloor.toIntegral name way #[.float .f64 a.toNat] = (match Ieee.double.read a.toNat with
      | Ieee.Datum.nan s t => (if FloatKind.f64.format.quiet t = t then pure (Value.float .f64 a.toNat) else do
          let kept ← choose (.extern "math.Floor,Ceil,Trunc,RoundToEven.signallingNaN kept" 2)
          pure (Value.float .f64 (if kept == 1 then a.toNat else FloatKind.f64.encode (.nan s (FloatKind.f64.format.quiet t)))))
      | d => pure (Value.float .f64 (FloatKind.f64.encode (d.integral way)))) := rfl
  cases hn : isNaN a
  · obtain ⟨h1, h2⟩ := hnum hn
    refine ⟨fun _ => Ieee.double.write ((Ieee.double.read a.toNat).integral way), 0, fun w => ⟨?_, h1, h2⟩⟩
    have hnot : ¬ 9218868437227405312 < sz a := by rw [← nan_iff', hn]; decide
    rw [eq]
    rw [read_eq ha]
    by_cases c : sz a < 9218868437227405312
    · rw [if_pos c]; rfl
    · rw [if_neg c, if_pos (by omega)]; rfl
  · have hv := hnan hn
    have hlt : 9218868437227405312 < sz a := nan_iff'.1 hn
    have hr : Ieee.double.read a.toNat = .nan (ngb a) ((sz a - 9218868437227405312).toNat) := by
      rw [read_eq ha, if_neg (by omega), if_neg (by omega)]
    obtain ⟨t, ht⟩ : ∃ t, (sz a - 9218868437227405312).toNat = t := ⟨_, rfl⟩
    rw [ht] at hr
    have ht2 : t < 4503599627370496 := by omega
    have self : OfG a.toNat = v := by
      unfold OfG
      rw [Int.toNat_of_nonneg a0, hn, if_pos rfl, hv]
    have hq := quiet_nan (ngb a) t ht2
    have hql : Ieee.double.write (.nan (ngb a) (Ieee.double.quiet t)) < 18446744073709551616 := by
      have := encode_wf .f64 (.nan (ngb a) (Ieee.double.quiet t))
      simp [Lit.wf] at this; exact this
    rw [eq, hr]
    by_cases c : FloatKind.f64.format.quiet t = t
    · exact ⟨fun _ => a.toNat, 0, fun w => ⟨by simp only [if_pos c]; rfl, self, by dsimp only; omega⟩⟩
    · refine ⟨fun w => if (Question.extern "math.Floor,Ceil,Trunc,RoundToEven.signallingNaN kept" 2).cut (w.tape w.drawn (.extern "math.Floor,Ceil,Trunc,RoundToEven.signallingNaN kept" 2)) == 1 then a.toNat else Ieee.double.write (.nan (ngb a) (Ieee.double.quiet t)), 1, fun w => ⟨?_, ?_, ?_⟩⟩
      · simp only [if_neg c]
        simp [Question.forced, World.drewN]
        rfl
      · dsimp only
        split
        · exact self
        · unfold OfG; rw [if_pos hq, hv]
      · dsimp only
        split
        · omega
        · exact hql
theorem inf_word {a : Int} (ha : U64 a) (way : Ieee.Toward) (h : sz a = 9218868437227405312) : Ieee.double.write ((Ieee.double.read a.toNat).integral way) = a.toNat := by
  rw [read_eq ha, if_neg (by omega), if_pos h]
  show Ieee.double.word (ngb a) Ieee.double.infRung = _
  have a0 := ha.lo
  have a1 := ha.hi
  have es := sz_eq ha
  rw [infRung_d]
  have w := sgn_word (ngb a) 9218868437227405312 (by omega)
  rw [sgn_eq (by omega) (by omega)] at w
  unfold ngb at w ⊢
  by_cases c : 9223372036854775808 ≤ a
  · rw [decide_eq_true c] at w ⊢; rw [if_pos rfl] at w; omega
  · rw [decide_eq_false c] at w ⊢; rw [if_neg (by decide)] at w; omega
theorem trunc_nan {a : Int} (h : isNaN a = true) : TruncG a = 9221120237041090560 := by unfold TruncG; rw [if_pos h]
theorem trunc_inf {a : Int} (h : sz a = 9218868437227405312) : TruncG a = a := by
  have hn : isNaN a = false := by rw [Bool.eq_false_iff]; intro c; rw [nan_iff'] at c; omega
  have k : (kindS a != 1) = true := by unfold kindS; rw [if_neg (by omega), if_neg (by omega)]; split <;> decide
  unfold TruncG
  rw [hn, if_neg (by decide), if_pos k]
theorem OfG_num {x : Nat} (h : isNaN (x : Int) = false) : OfG x = (x : Int) := by unfold OfG; rw [h, if_neg (by decide)]
theorem trunc_run (a : Int) (ha : U64 a) : ∃ g : World → Nat, ∃ k : Nat, ∀ w : World, (callFunc 64 #[.float .f64 a.toNat]).run Try.prog w = .ok (.value (.float .f64 (g w))) (w.drewN k) ∧ OfG (g w) = TruncG a ∧ g w < 18446744073709551616 := by
  have a0 := ha.lo
  have a1 := ha.hi
  obtain ⟨g, k, h⟩ := toIntegral_run "math.archTrunc" .zero a (TruncG a) ha trunc_nan (fun hn => by
    refine ⟨?_, Ieee.Format.write_lt _ _⟩
    rcases Int.lt_or_le (sz a) 9218868437227405312 with c | c
    · have T := trunc_of ha c
      have e := trunc_eq ha c
      unfold truncN at e
      rw [OfG_num (by rw [e]; exact (fin_num T.fin).1), e]
    · have : ¬ 9218868437227405312 < sz a := by rw [← nan_iff', hn]; decide
      rw [inf_word ha _ (by omega), trunc_inf (by omega)]
      rw [OfG_num (by rw [Int.toNat_of_nonneg a0]; exact hn)]
      omega)
  refine ⟨g, k, fun w => ⟨?_, (h w).2⟩⟩
  rw [run_callFunc_extern Try.func64 (by kernel_rfl) (by kernel_rfl) (by kernel_rfl) (e := Extern.MathFloor.toIntegral "math.archTrunc" .zero) (by kernel_rfl)]
  rw [(h w).1]
  rfl
theorem floor_run (a : Int) (ha : U64 a) : ∃ g : World → Nat, ∃ k : Nat, ∀ w : World, (callFunc 66 #[.float .f64 a.toNat]).run Try.prog w = .ok (.value (.float .f64 (g w))) (w.drewN k) ∧ OfG (g w) = FloorG a ∧ g w < 18446744073709551616 := by
  have a0 := ha.lo
  have a1 := ha.hi
  obtain ⟨g, k, h⟩ := toIntegral_run "math.archFloor" .down a (FloorG a) ha (fun hn => by unfold FloorG; rw [if_pos (.inr (.inl (trunc_nan hn))), trunc_nan hn]) (fun hn => by
    refine ⟨?_, Ieee.Format.write_lt _ _⟩
    rcases Int.lt_or_le (sz a) 9218868437227405312 with c | c
    · have e := floor_eq ha c
      have e2 := floor_near ha c
      have e3 := nearest_num (ngb a) (WP a + (ngb a && (V a % U != 0)).toNat) 0
      rw [← e2] at e3
      unfold floorN at e e3
      rw [OfG_num e3, e]
    · have : ¬ 9218868437227405312 < sz a := by rw [← nan_iff', hn]; decide
      have t := trunc_inf (a := a) (by omega)
      rw [inf_word ha _ (by omega)]
      unfold FloorG
      rw [if_pos (.inl t), t, OfG_num (by rw [Int.toNat_of_nonneg a0]; exact hn)]
      omega)
  refine ⟨g, k, fun w => ⟨?_, (h w).2⟩⟩
  rw [run_callFunc_extern Try.func66 (by kernel_rfl) (by kernel_rfl) (by kernel_rfl) (e := Extern.MathFloor.toIntegral "math.archFloor" .down) (by kernel_rfl)]
  rw [(h w).1]
  rfl
theorem mTrunc_calls (a : Int) (ha : U64 a) : ∃ g : World → Nat, ∃ k : Nat, ∀ w : World, (Calls Try.prog 56 #[.float .f64 a.toNat] w fun e w' => e = .returned (.float .f64 (g w)) ∧ w' = w.drewN k) ∧ OfG (g w) = TruncG a ∧ g w < 18446744073709551616 := by
  obtain ⟨g, k, h⟩ := trunc_run a ha
  refine ⟨g, k, fun w => ⟨?_, (h w).2⟩⟩
  have hf := fun w => (h w).1
  clear h ha
  generalize a.toNat = x at *
  go_enter Try.func56, Try.ntmps56
  go_wp2
  go_ret
  exact ⟨rfl, rfl⟩
theorem mFloor_calls (a : Int) (ha : U64 a) : ∃ g : World → Nat, ∃ k : Nat, ∀ w : World, (Calls Try.prog 57 #[.float .f64 a.toNat] w fun e w' => e = .returned (.float .f64 (g w)) ∧ w' = w.drewN k) ∧ OfG (g w) = FloorG a ∧ g w < 18446744073709551616 := by
  obtain ⟨g, k, h⟩ := floor_run a ha
  refine ⟨g, k, fun w => ⟨?_, (h w).2⟩⟩
  have hf := fun w => (h w).1
  clear h ha
  generalize a.toNat = x at *
  go_enter Try.func57, Try.ntmps57
  go_wp2
  go_ret
  exact ⟨rfl, rfl⟩
theorem RTrunc_calls (a : Int) (ha : U64 a) (w : World) : Calls Try.prog 37 #[.int .u64 a] w fun e w' => e = .returned (.int .u64 (TruncG a)) ∧ Below w.heap.size w w' := by
  obtain ⟨g, k, h⟩ := mTrunc_calls a ha
  have VA := fun w => Val_calls a w
  have HT := fun w => (h w).1
  have HO := fun v w => Of_val (h v).2.1 (h v).2.2 w
  clear h ha
  generalize a.toNat = x at *
  generalize TruncG a = r at *
  replace VA := Lib.hid VA
  replace HT := Lib.hid HT
  replace HO := Lib.hid HO
  go_enter Try.func37, Try.ntmps37
  go_wp2_with (first | (go_at_call 10; refine (VA.out _).mono ?_; rintro e w' ⟨rfl, rfl⟩) | (go_at_call 56; refine (HT.out _).mono ?_; rintro e w' ⟨rfl, rfl⟩) | (go_at_call 15; refine (HO.out _ _).mono ?_; rintro e w' ⟨rfl, rfl⟩))
  go_ret
  exact ⟨rfl, by repeat (first | exact Below.refl _ _ | apply below_alloc | apply below_drewN | apply below_drew | refine below_via (by assumption) ?_)⟩
theorem RFloor_calls (a : Int) (ha : U64 a) (w : World) : Calls Try.prog 36 #[.int .u64 a] w fun e w' => e = .returned (.int .u64 (FloorG a)) ∧ Below w.heap.size w w' := by
  obtain ⟨g, k, h⟩ := mFloor_calls a ha
  have VA := fun w => Val_calls a w
  have HT := fun w => (h w).1
  have HO := fun v w => Of_val (h v).2.1 (h v).2.2 w
  clear h ha
  generalize a.toNat = x at *
  generalize FloorG a = r at *
  replace VA := Lib.hid VA
  replace HT := Lib.hid HT
  replace HO := Lib.hid HO
  go_enter Try.func36, Try.ntmps36
  go_wp2_with (first | (go_at_call 10; refine (VA.out _).mono ?_; rintro e w' ⟨rfl, rfl⟩) | (go_at_call 57; refine (HT.out _).mono ?_; rintro e w' ⟨rfl, rfl⟩) | (go_at_call 15; refine (HO.out _ _).mono ?_; rintro e w' ⟨rfl, rfl⟩))
  go_ret
  exact ⟨rfl, by repeat (first | exact Below.refl _ _ | apply below_alloc | apply below_drewN | apply below_drew | refine below_via (by assumption) ?_)⟩
theorem trunc_u64 {a : Int} (ha : U64 a) : U64 (TruncG a) := by
  cases hn : isNaN a
  · rcases Int.lt_or_le (sz a) 9218868437227405312 with c | c
    · exact (trunc_of ha c).u
    · have : ¬ 9218868437227405312 < sz a := by rw [← nan_iff', hn]; decide
      rw [trunc_inf (by omega)]; exact ha
  · rw [trunc_nan hn]; exact NaN_u64
theorem FloorC (a : Int) (ha : U64 a) (w : World) : Calls Try.prog 30 #[.int .u64 a] w fun e w' => e = .returned (.int .u64 (FloorG a)) ∧ Below w.heap.size w w' := by
  have HT := fun w => Trunc_calls a w ha
  have HS := fun w => SubC (TruncG a) 4607182418800017408 (trunc_u64 ha) one_pos.u w
  have E1 : TruncG a = a → FloorG a = TruncG a := fun h => if_pos (.inl h)
  have E2 : TruncG a = 9221120237041090560 → FloorG a = TruncG a := fun h => if_pos (.inr (.inl h))
  have E3 : a < 9223372036854775808 → FloorG a = TruncG a := fun h => if_pos (.inr (.inr h))
  have E4 : ¬ TruncG a = a → ¬ TruncG a = 9221120237041090560 → ¬ a < 9223372036854775808 → FloorG a = SubG (TruncG a) 4607182418800017408 := fun h1 h2 h3 => if_neg (fun h => h.elim h1 (fun k => k.elim h2 h3))
  clear ha
  generalize TruncG a = t at *
  generalize SubG t 4607182418800017408 = s at *
  generalize FloorG a = r at *
  replace HT := Lib.hid HT
  replace HS := Lib.hid HS
  by_cases c1 : t = a
  · obtain rfl := E1 c1
    have d1 : (r == a) = true := beq_iff_eq.2 c1
    clear E1 E2 E3 E4 c1
    go_enter Try.func30, Try.ntmps30
    go_wp2_with (first | (go_at_call 29; refine (HT.out _).mono ?_; rintro e w1 ⟨rfl, hb1⟩))
    go_ret
    exact ⟨rfl, by repeat (first | exact Below.refl _ _ | apply below_alloc | apply below_drewN | apply below_drew | refine below_via (by assumption) ?_)⟩
  have d1 : (t == a) = false := beq_eq_false_iff_ne.2 c1
  by_cases c2 : t = 9221120237041090560
  · obtain rfl := E2 c2
    have d2 : (r == 9221120237041090560) = true := beq_iff_eq.2 c2
    clear E1 E2 E3 E4 c1 c2
    go_enter Try.func30, Try.ntmps30
    go_wp2_with (first | (go_at_call 29; refine (HT.out _).mono ?_; rintro e w1 ⟨rfl, hb1⟩))
    go_ret
    exact ⟨rfl, by repeat (first | exact Below.refl _ _ | apply below_alloc | apply below_drewN | apply below_drew | refine below_via (by assumption) ?_)⟩
  have d2 : (t == 9221120237041090560) = false := beq_eq_false_iff_ne.2 c2
  by_cases c3 : a < 9223372036854775808
  · obtain rfl := E3 c3
    clear E1 E2 E3 E4 c1 c2
    go_enter Try.func30, Try.ntmps30
    go_wp2_with (first | (go_at_call 29; refine (HT.out _).mono ?_; rintro e w1 ⟨rfl, hb1⟩))
    go_ret
    exact ⟨rfl, by repeat (first | exact Below.refl _ _ | apply below_alloc | apply below_drewN | apply below_drew | refine below_via (by assumption) ?_)⟩
  · obtain rfl := E4 c1 c2 c3
    clear E1 E2 E3 E4 c1 c2
    go_enter Try.func30, Try.ntmps30
    go_wp2_with (first | (go_at_call 29; refine (HT.out _).mono ?_; rintro e w1 ⟨rfl, hb1⟩) | (go_at_call 20; refine (HS.out _).mono ?_; rintro e w2 ⟨rfl, hb2⟩))
    go_ret
    exact ⟨rfl, by repeat (first | exact Below.refl _ _ | apply below_alloc | apply below_drewN | apply below_drew | refine below_via (by assumption) ?_)⟩
end Go.Proofs.Ytmemefjhefmfhaa
