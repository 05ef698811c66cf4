/- The walks through package soft: sums and differences of all words. -/
import Derived.Test.YtkiakflmoplmeaaSf
import Derived.Test.YtkiakflmoplmeaaFl
namespace Go.Proofs.Ytkiakflmoplmeaa
open Go.RowKit Fp
set_option linter.unusedVariables false
set_option linter.unusedSimpArgs false
theorem AddC (a b : Int) (ha : U64 a) (hb : U64 b) (w : World) :
    Calls Try.prog 24 #[.int .u64 a, .int .u64 b] w fun e w' => e = .returned (.int .u64 (AddG a b)) ∧ Below w.heap.size w w' :=
  Add_calls a b w ha hb fun za zb ia ib na nb => by
    have z1 : ¬ sz a = 0 := fun h => by rw [isZ_iff.2 h] at za; cases za
    have z2 : ¬ sz b = 0 := fun h => by rw [isZ_iff.2 h] at zb; cases zb
    exact ⟨fun h => oexp_mono ha hb z1 (by omega), fun h => oexp_mono hb ha z2 (by omega)⟩
theorem neg_u64' {b : Int} (hb : U64 b) : U64 (negG b) := by
  unfold negG; split
  · exact ⟨by decide, by decide⟩
  · have h := bits_xor64 b.toNat 9223372036854775808 (by have := hb.lo; have := hb.hi; omega) (by decide)
    have e : ((b.toNat : Nat) : Int) = b := by have := hb.lo; omega
    rw [e] at h
    rw [show Go.bits .xor .u64 b 9223372036854775808 = _ from h]
    refine ⟨by omega, ?_⟩
    have : b.toNat ^^^ 9223372036854775808 < 2 ^ 64 := Nat.xor_lt_two_pow (by have := hb.lo; have := hb.hi; omega) (by decide)
    omega
theorem SubC (a b : Int) (ha : U64 a) (hb : U64 b) (w : World) :
    Calls Try.prog 25 #[.int .u64 a, .int .u64 b] w fun e w' => e = .returned (.int .u64 (SubG a b)) ∧ Below w.heap.size w w' := by
  have hn := neg_u64' hb
  have E : SubG a b = AddG a (negG b) := rfl
  rw [E]; clear E
  have HA := fun w => AddC a (negG b) ha hn w
  generalize AddG a (negG b) = s at *
  go_enter Try.func25, Try.ntmps25
  go_wp2_with (first | (go_at_call 50; refine (Neg_calls _ _).mono ?_; rintro e w' ⟨rfl, rfl⟩) | (go_at_call 24; refine (HA _).mono ?_; rintro e w1 ⟨rfl, hb1⟩))
  go_ret
  exact ⟨rfl, hb1⟩
theorem Div00 (w : World) : Calls Try.prog 27 #[.int .u64 0, .int .u64 0] w fun e w' => e = .returned (.int .u64 9221120237041090560) ∧ w' = w := by
  have n1 : isNaN 0 = false := by decide +kernel
  have n2 : isInf 0 = false := by decide +kernel
  have n3 : isZ 0 = true := by decide +kernel
  go_enter Try.func27, Try.ntmps27
  go_wp2_with (first | (go_at_call 44; refine (isNaN_calls _ _).mono ?_; rintro e w' ⟨rfl, rfl⟩) | (go_at_call 45; refine (isInf_calls _ _).mono ?_; rintro e w' ⟨rfl, rfl⟩) | (go_at_call 46; refine (zero_calls _ _).mono ?_; rintro e w' ⟨rfl, rfl⟩))
  go_ret
  exact ⟨rfl, rfl⟩
end Go.Proofs.Ytkiakflmoplmeaa
