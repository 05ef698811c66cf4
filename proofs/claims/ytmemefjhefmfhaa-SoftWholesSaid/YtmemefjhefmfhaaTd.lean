/- The walks through the document's Near: how many bits a number has. -/
import Derived.Test.YtmemefjhefmfhaaTc
namespace Go.Proofs.Ytmemefjhefmfhaa
open Go.RowKit Fp
set_option linter.unusedVariables false
set_option linter.unusedSimpArgs false
def nb (n : Nat) : Nat := if n = 0 then 0 else n.log2 + 1
theorem nb_pos {n : Nat} (h : n ≠ 0) : nb n = n.log2 + 1 := if_neg h
theorem nb_half {n : Nat} (h : 0 < n) : nb (n / 2) + 1 = nb n := by
  rw [nb_pos (n := n) (by omega)]
  by_cases h1 : n / 2 = 0
  · have : n = 1 := by omega
    subst this; decide
  · rw [nb_pos h1]
    have e := Nat.log2_def n
    rw [if_pos (by omega)] at e
    omega
theorem nb_le {n : Nat} (h : n < 18446744073709551616) : nb n ≤ 64 := by
  unfold nb; split
  · omega
  · rename_i hn
    have : n.log2 < 64 := (Nat.log2_lt hn).2 (by omega)
    omega
theorem bits97_calls (n : Int) (hn : U64 n) (w : World) : Calls Try.prog 51 #[.int .u64 n] w fun e w' => e = .returned (.int .i64 (nb n.toNat)) ∧ w' = w := by
  have h0 := hn.lo
  have h1 := hn.hi
  obtain ⟨m, rfl⟩ := Int.eq_ofNat_of_zero_le h0
  rw [Int.toNat_natCast]
  have hm : m < 18446744073709551616 := by omega
  have hb := nb_le hm
  obtain ⟨B, hB⟩ : ∃ b, nb m = b := ⟨_, rfl⟩
  rw [hB] at hb ⊢
  have HB := Lib.hid hB
  clear hB hn
  go_enter Try.func51, Try.ntmps51
  go_wp2
  go_loop [0, 3] (fun c d => ∃ a k : Nat, nb a + k = B ∧ a < 18446744073709551616 ∧ c = .int .u64 a ∧ d = .int .i64 k) (fun c _ => (intOf c).toNat)
  case atStart => exact ⟨m, 0, by rw [HB.out]; rfl, hm, rfl, rfl⟩
  case round =>
    obtain ⟨a, k, hk, ha, rfl, rfl⟩ := hrel
    by_cases hz : a = 0
    · subst hz
      have : k = B := by rw [← hk]; unfold nb; simp
      subst this
      clear hk
      go_wp2
      go_ret
      exact ⟨rfl, rfl⟩
    · have hh := nb_half (n := a) (by omega)
      have hpos : (0 : Int) < a := by omega
      have m2 : IntKind.u64.wrap ((a : Int) / 2) = ((a / 2 : Nat) : Int) := by rw [u64_wrap]; omega
      have m3 : IntKind.i64.wrap ((k : Int) + 1) = ((k + 1 : Nat) : Int) := by rw [IntKind.wrap_i64]; omega
      have KK := Lib.hid (show nb (a / 2) + (k + 1) = B by omega)
      have HA := Lib.hid ha
      have HH := Lib.hid hpos
      have hz' : ((a : Int) == 0) = false := by rw [beq_eq_false_iff_ne]; omega
      clear hh hk ha hm hb h0 h1 hz HB
      go_wp2
      go_round
      case rel => exact ⟨a / 2, k + 1, KK.out, by have := HA.out; omega, rfl, rfl⟩
      case measure => have := HH.out; simp [intOf]; omega
end Go.Proofs.Ytmemefjhefmfhaa
