/- The walks through soft.Floor and through the document's Trunc and Floor. -/
import Derived.Test.YtkiakflmoplmeaaTa
import Derived.Test.YtkiakflmoplmeaaGi
import Derived.Test.YtkiakflmoplmeaaSd
import Derived.Test.YtkiakflmoplmeaaSg
namespace Go.Proofs.Ytkiakflmoplmeaa
open Go.RowKit Fp
set_option linter.unusedVariables false
set_option linter.unusedSimpArgs false
theorem toIntegral_run (name : String) (way : Ieee.Toward) (a v : Int) (ha : U64 a)
    (hnan : isNaN a = true → v = 9221120237041090560) (hnum : isNaN a = false → OfG (Ieee.double.write ((Ieee.double.read a.toNat).integral way)) = v ∧ Ieee.double.write ((Ieee.double.read a.toNat).integral way) < 18446744073709551616) :
    ∃ g : World → Nat, ∃ k : Nat, ∀ w : World, (Extern.MathFloor.toIntegral name way #[.float .f64 a.toNat]).run Try.prog w = .ok (.float .f64 (g w)) (w.drewN k) ∧ OfG (g w) = v ∧ g w < 18446744073709551616 := by
  have a0 := ha.lo
  have a1 := ha.hi
  have es := sz_eq ha
  have eq : Extern.MathFloor.toIntegral name way #[.float .f64 a.toNat] = (match Ieee.double.read a.toNat with
      | Ieee.Datum.nan s t => (if FloatKind.f64.format.quiet t = t then pure (Value.float .f64 a.toNat) else do
          let kept ← choose (.extern "math.Floor,Ceil,Trunc,RoundToEven.signallingNaN kept" 2)
          pure (Value.float .f64 (if kept == 1 then a.toNat else FloatKind.f64.encode (.nan s (FloatKind.f64.format.quiet t)))))
      | d => pure (Value.float .f64 (FloatKind.f64.encode (d.integral way)))) := rfl
  cases hn : isNaN a
  · obtain ⟨h1, h2⟩ := hnum hn
    refine ⟨fun _ => Ieee.double.write ((Ieee.double.read a.toNat).integral way), 0, fun w => ⟨?_, h1, h2⟩⟩
    have hnot : ¬ 9218868437227405312 < sz a := by rw [← nan_iff', hn]; decide
    rw [eq]
    rw [read_eq ha]
    by_cases c : sz a < 9218868437227405312
    · rw [if_pos c]; rfl
    · rw [if_neg c, if_pos (by omega)]; rfl
  · have hv := hnan hn
    have hlt : 9218868437227405312 < sz a := nan_iff'.1 hn
    have hr : Ieee.double.read a.toNat = .nan (ngb a) ((sz a - 9218868437227405312).toNat) := by
      rw [read_eq ha, if_neg (by omega), if_neg (by omega)]
    obtain ⟨t, ht⟩ : ∃ t, (sz a - 9218868437227405312).toNat = t := ⟨_, rfl⟩
    rw [ht] at hr
    have ht2 : t < 4503599627370496 := by omega
    have self : OfG a.toNat = v := by
      unfold OfG
      rw [Int.toNat_of_nonneg a0, hn, if_pos rfl, hv]
    have hq := quiet_nan (ngb a) t ht2
    have hql : Ieee.double.write (.nan (ngb a) (Ieee.double.quiet t)) < 18446744073709551616 := by
      have := encode_wf .f64 (.nan (ngb a) (Ieee.double.quiet t))
      simp [Lit.wf] at this; exact this
    rw [eq, hr]
    by_cases c : FloatKind.f64.format.quiet t = t
    · exact ⟨fun _ => a.toNat, 0, fun w => ⟨by simp only [if_pos c]; rfl, self, by dsimp only; omega⟩⟩
    · refine ⟨fun w => if (Question.extern "math.Floor,Ceil,Trunc,RoundToEven.signallingNaN kept" 2).cut (w.tape w.drawn (.extern "math.Floor,Ceil,Trunc,RoundToEven.signallingNaN kept" 2)) == 1 then a.toNat else Ieee.double.write (.nan (ngb a) (Ieee.double.quiet t)), 1, fun w => ⟨?_, ?_, ?_⟩⟩
      · simp only [if_neg c]
        simp [Question.forced, World.drewN]
        rfl
      · dsimp only
        split
        · exact self
        · unfold OfG; rw [if_pos hq, hv]
      · dsimp only
        split
        · omega
        · exact hql
theorem inf_word {a : Int} (ha : U64 a) (way : Ieee.Toward) (h : sz a = 9218868437227405312) : Ieee.double.write ((Ieee.double.read a.toNat).integral way) = a.toNat := by
  rw [read_eq ha, if_neg (by omega), if_pos h]
  show Ieee.double.word (ngb a) Ieee.double.infRung = _
  have a0 := ha.lo
  have a1 := ha.hi
  have es := sz_eq ha
  rw [infRung_d]
  have w := sgn_word (ngb a) 9218868437227405312 (by omega)
  rw [sgn_eq (by omega) (by omega)] at w
  unfold ngb at w ⊢
  by_cases c : 9223372036854775808 ≤ a
  · rw [decide_eq_true c] at w ⊢; rw [if_pos rfl] at w; omega
  · rw [decide_eq_false c] at w ⊢; rw [if_neg (by decide)] at w; omega
theorem trunc_nan {a : Int} (h : isNaN a = true) : TruncG a = 9221120237041090560 := by unfold TruncG; rw [if_pos h]
theorem trunc_inf {a : Int} (h : sz a = 9218868437227405312) : TruncG a = a := by
  have hn : isNaN a = false := by rw [Bool.eq_false_iff]; intro c; rw [nan_iff'] at c; omega
  have k : (kindS a != 1) = true := by unfold kindS; rw [if_neg (by omega), if_neg (by omega)]; split <;> decide
  unfold TruncG
  rw [hn, if_neg (by decide), if_pos k]
theorem OfG_num {x : Nat} (h : isNaN (x : Int) = false) : OfG x = (x : Int) := by unfold OfG; rw [h, if_neg (by decide)]
theorem trunc_run (a : Int) (ha : U64 a) : ∃ g : World → Nat, ∃ k : Nat, ∀ w : World, (callFunc 81 #[.float .f64 a.toNat]).run Try.prog w = .ok (.value (.float .f64 (g w))) (w.drewN k) ∧ OfG (g w) = TruncG a ∧ g w < 18446744073709551616 := by
  have a0 := ha.lo
  have a1 := ha.hi
  obtain ⟨g, k, h⟩ := toIntegral_run "math.archTrunc" .zero a (TruncG a) ha trunc_nan (fun hn => by
    refine ⟨?_, Ieee.Format.write_lt _ _⟩
    rcases Int.lt_or_le (sz a) 9218868437227405312 with c | c
    · have T := trunc_of ha c
      have e := trunc_eq ha c
      unfold truncN at e
      rw [OfG_num (by rw [e]; exact (fin_num T.fin).1), e]
    · have : ¬ 9218868437227405312 < sz a := by rw [← nan_iff', hn]; decide
      rw [inf_word ha _ (by omega), trunc_inf (by omega)]
      rw [OfG_num (by rw [Int.toNat_of_nonneg a0]; exact hn)]
      omega)
  refine ⟨g, k, fun w => ⟨?_, (h w).2⟩⟩
  rw [run_callFunc_extern Try.func81 (by kernel_rfl) (by kernel_rfl) (by kernel_rfl) (e := Extern.MathFloor.toIntegral "math.archTrunc" .zero) (by kernel_rfl)]
  rw [(h w).1]
  rfl
theorem floor_run (a : Int) (ha : U64 a) : ∃ g : World → Nat, ∃ k : Nat, ∀ w : World, (callFunc 71 #[.float .f64 a.toNat]).run Try.prog w = .ok (.value (.float .f64 (g w))) (w.drewN k) ∧ OfG (g w) = FloorG a ∧ g w < 18446744073709551616 := by
  have a0 := ha.lo
  have a1 := ha.hi
  obtain ⟨g, k, h⟩ := toIntegral_run "math.archFloor" .down a (FloorG a) ha (fun hn => by unfold FloorG; rw [if_pos (.inr (.inl (trunc_nan hn))), trunc_nan hn]) (fun hn => by
    refine ⟨?_, Ieee.Format.write_lt _ _⟩
    rcases Int.lt_or_le (sz a) 9218868437227405312 with c | c
    · have e := floor_eq ha c
      have e2 := floor_near ha c
      have e3 := nearest_num (ngb a) (WP a + (ngb a && (V a % U != 0)).toNat) 0
      rw [← e2] at e3
      unfold floorN at e e3
      rw [OfG_num e3, e]
    · have : ¬ 9218868437227405312 < sz a := by rw [← nan_iff', hn]; decide
      have t := trunc_inf (a := a) (by omega)
      rw [inf_word ha _ (by omega)]
      unfold FloorG
      rw [if_pos (.inl t), t, OfG_num (by rw [Int.toNat_of_nonneg a0]; exact hn)]
      omega)
  refine ⟨g, k, fun w => ⟨?_, (h w).2⟩⟩
  rw [run_callFunc_extern Try.func71 (by kernel_rfl) (by kernel_rfl) (by kernel_rfl) (e := Extern.MathFloor.toIntegral "math.archFloor" .down) (by kernel_rfl)]
  rw [(h w).1]
  rfl
theorem mTrunc_calls (a : Int) (ha : U64 a) : ∃ g : World → Nat, ∃ k : Nat, ∀ w : World, (Calls Try.prog 74 #[.float .f64 a.toNat] w fun e w' => e = .returned (.float .f64 (g w)) ∧ w' = w.drewN k) ∧ OfG (g w) = TruncG a ∧ g w < 18446744073709551616 := by
  obtain ⟨g, k, h⟩ := trunc_run a ha
  refine ⟨g, k, fun w => ⟨?_, (h w).2⟩⟩
  have hf := fun w => (h w).1
  clear h ha
  generalize a.toNat = x at *
  go_enter Try.func74, Try.ntmps74
  go_wp2
  go_ret
  exact ⟨rfl, rfl⟩
theorem mFloor_calls (a : Int) (ha : U64 a) : ∃ g : World → Nat, ∃ k : Nat, ∀ w : World, (Calls Try.prog 61 #[.float .f64 a.toNat] w fun e w' => e = .returned (.float .f64 (g w)) ∧ w' = w.drewN k) ∧ OfG (g w) = FloorG a ∧ g w < 18446744073709551616 := by
  obtain ⟨g, k, h⟩ := floor_run a ha
  refine ⟨g, k, fun w => ⟨?_, (h w).2⟩⟩
  have hf := fun w => (h w).1
  clear h ha
  generalize a.toNat = x at *
  go_enter Try.func61, Try.ntmps61
  go_wp2
  go_ret
  exact ⟨rfl, rfl⟩
theorem trunc_u64 {a : Int} (ha : U64 a) : U64 (TruncG a) := by
  cases hn : isNaN a
  · rcases Int.lt_or_le (sz a) 9218868437227405312 with c | c
    · exact (trunc_of ha c).u
    · have : ¬ 9218868437227405312 < sz a := by rw [← nan_iff', hn]; decide
      rw [trunc_inf (by omega)]; exact ha
  · rw [trunc_nan hn]; exact NaN_u64
end Go.Proofs.Ytkiakflmoplmeaa
