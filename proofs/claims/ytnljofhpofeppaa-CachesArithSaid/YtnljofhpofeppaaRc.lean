/- The walks through the document's words: Bits, IsTag. -/
import Derived.Test.YtnljofhpofeppaaRb
import Derived.Test.YtnljofhpofeppaaFw
namespace Go.Proofs.Ytnljofhpofeppaa
open Go.RowKit Fp
set_option linter.unusedVariables false
set_option linter.unusedSimpArgs false
theorem bits_val {a : Int} (hu : U64 a) : (BitsG a).2 = valB a ∧ (valB a = true → ∃ v : Int, U64 v ∧ valX a = v.toNat ∧ (BitsG a).1 = canon v) ∧ (valB a = false → BitsG a = (0, false)) := by
  have h0 := hu.lo
  have h1 := hu.hi
  cases hr : RightG a
  · have t : ¬ tg a 65529 = true := by
      intro h
      have e := (tg_iff a 65529).1 h
      have := right_tag (t := 65529) (.inl rfl) hu (by omega)
      rw [hr] at this
      exact of_decide_eq_false this.symm e
    have e : BitsG a = (0, false) := by unfold BitsG; rw [if_neg t, if_neg (by simp [hr])]
    have v : valB a = false := by unfold valB; rw [hr]; rfl
    rw [v, e]
    exact ⟨rfl, (fun h => by cases h), fun _ => rfl⟩
  · by_cases c1 : tT a = 65529
    · have ht : a / 281474976710656 = 65529 := by unfold tT top at c1; split at c1 <;> omega
      have hp : tP a = a % 4294967296 := by unfold tP top; rw [if_neg (by omega)]
      have r := right_tag (t := 65529) (.inl rfl) hu ht
      rw [hr] at r
      have t : tg a 65529 = true := r.symm
      have e : BitsG a = (FromIntG (pI a 65529), true) := if_pos t
      have ep : pI a 65529 = wrap32 (tP a) := by unfold pI; rw [if_pos t, hp]
      have v : valB a = true := by unfold valB; rw [hr, decide_eq_true c1]; rfl
      obtain ⟨k0, k1⟩ := pI_bd a 65529
      have fu := FromInt_u64 (n := pI a 65529) (by omega) (by omega)
      have nn := not_nan_of_fin (FromInt_fin (k := pI a 65529) (by omega) (by omega))
      rw [v, e]
      refine ⟨rfl, fun _ => ⟨FromIntG (pI a 65529), fu, ?_, ?_⟩, fun h => by cases h⟩
      · unfold valX; rw [if_pos hr, if_pos c1, ep]
      · unfold canon; rw [nn]; rfl
    · have t : ¬ tg a 65529 = true := by
        intro h
        have := (tg_iff a 65529).1 h
        apply c1; unfold tT top; rw [if_neg (by omega)]; omega
      by_cases c2 : tT a = 0
      · have hc : ¬ (65529 ≤ a / 281474976710656 ∧ a / 281474976710656 ≤ 65532) := by
          unfold tT top at c2; split at c2 <;> omega
        have e : BitsG a = (a, true) := bits_num hr (Bool.eq_false_iff.mpr t) hc
        have v : valB a = true := by unfold valB; rw [hr, decide_eq_true c2, Bool.or_true]; rfl
        rw [v, e]
        refine ⟨rfl, fun _ => ⟨a, hu, ?_, ?_⟩, fun h => by cases h⟩
        · unfold valX; rw [if_pos hr, if_neg c1]
        · have er := rRight_eq hu
          rw [hr, if_pos c2] at er
          have en : NumberG a = a := beq_iff_eq.mp er.symm
          unfold canon
          by_cases hn : isNaN a = true
          · rw [if_pos hn]
            have : NumberG a = 9221120237041090560 := if_pos hn
            rw [← en, this]
          · rw [if_neg hn]
      · have hc : 65529 ≤ a / 281474976710656 ∧ a / 281474976710656 ≤ 65532 := by
          unfold tT top at c2; split at c2
          · exact absurd rfl c2
          · omega
        have e : BitsG a = (0, false) := by unfold BitsG; rw [if_neg t, if_pos hr, if_pos hc]
        have v : valB a = false := by unfold valB; rw [decide_eq_false c1, decide_eq_false c2, Bool.or_false, Bool.and_false]
        rw [v, e]
        exact ⟨rfl, (fun h => by cases h), fun _ => rfl⟩
def isT (a t : Int) : Bool := decide (tT a = t) && RightG a
def isTP (a t : Int) : Int := if isT a t = true then tP a else 0
set_option maxRecDepth 100000 in
theorem rIsTag_calls (a t : Int) (hu : U64 a) (w : World) :
    Calls Try.prog 17 #[.int .u64 a, .int .u64 t] w fun e w' => e = .returned (.tuple #[.int .u32 (isTP a t), .bool (isT a t)]) ∧ w' = w := by
  unfold isTP isT
  by_cases c1 : tT a = t
  · have b1 : (tT a != t) = false := by rw [bne_eq_false_iff_eq]; exact c1
    rw [decide_eq_true c1, Bool.true_and]
    clear c1
    cases hr : RightG a
    · rw [if_neg (by decide)]
      go_enter Try.func17, Try.ntmps17
      go_wp2_with (first | (go_at_call 26; refine (rTag_calls _ hu _).mono ?_; rintro e w' ⟨rfl, rfl⟩) | (go_at_call 27; refine (rRight_calls _ hu _).mono ?_; rintro e w' ⟨rfl, rfl⟩))
      go_ret2
      exact ⟨rfl, rfl⟩
    · rw [if_pos rfl]
      go_enter Try.func17, Try.ntmps17
      go_wp2_with (first | (go_at_call 26; refine (rTag_calls _ hu _).mono ?_; rintro e w' ⟨rfl, rfl⟩) | (go_at_call 27; refine (rRight_calls _ hu _).mono ?_; rintro e w' ⟨rfl, rfl⟩))
      go_ret2
      exact ⟨rfl, rfl⟩
  · have b1 : (tT a != t) = true := by rw [bne_iff_ne]; exact c1
    rw [decide_eq_false c1, Bool.false_and, if_neg (by decide)]
    clear c1
    go_enter Try.func17, Try.ntmps17
    go_wp2_with (first | (go_at_call 26; refine (rTag_calls _ hu _).mono ?_; rintro e w' ⟨rfl, rfl⟩) | (go_at_call 27; refine (rRight_calls _ hu _).mono ?_; rintro e w' ⟨rfl, rfl⟩))
    go_ret2
    exact ⟨rfl, rfl⟩
/-- IsTag is package word's, for the three tags. -/
theorem isT_eq {a t : Int} (hu : U64 a) (ht : t = 65529 ∨ t = 65530 ∨ t = 65532) : isT a t = tg a t ∧ (tg a t = true → tP a = a % 4294967296) := by
  have h0 := hu.lo
  have h1 := hu.hi
  refine ⟨?_, fun h => ?_⟩
  · unfold isT
    by_cases c : a / 281474976710656 = t
    · have e : tT a = t := by unfold tT top; rw [if_neg (by omega)]; exact c
      rw [decide_eq_true e, Bool.true_and, right_tag ht hu c]; rfl
    · have e : ¬ tT a = t := by unfold tT top; split <;> omega
      rw [decide_eq_false e, Bool.false_and, tg_top c]
  · have e := (tg_iff a t).1 h
    unfold tP top; rw [if_neg (by omega)]
end Go.Proofs.Ytnljofhpofeppaa
