/- Plain facts: a word that is its own floor, within 32 bits, is a whole number's. -/
import Derived.Test.YtkiakflmoplmeaaFm
namespace Fp
open Go Go.RowKit Ieee
set_option linter.unusedVariables false
set_option linter.unusedSimpArgs false

def floorN (x : Nat) : Nat := double.write ((double.read x).integral .down)

theorem cmp_one {x y : Int} (h : compare x y = .eq) : x = y := by
  rcases cmp_cases x y with ⟨_, g⟩ | ⟨g, _⟩ | ⟨_, g⟩
  · rw [g] at h; cases h
  · exact g
  · rw [g] at h; cases h

theorem cut_le (way : Toward) (s : Bool) (n d : Nat) : way.cut s n d ≤ n / 2 ^ min d (n.log2 + 2) + 1 := by
  unfold Toward.cut
  rw [Nat.shiftLeft_eq, Nat.one_mul]
  cases way <;> simp only <;> (generalize h : Bool.toNat _ = t; have : t ≤ 1 := by rw [← h]; exact Bool.toNat_le _) <;> omega

theorem FromInt_ngb {k : Int} (h0 : -9007199254740992 < k) (h1 : k < 9007199254740992) (hz : k ≠ 0) : ngb (FromIntG k) = decide (k < 0) := by
  rw [FromInt_eq k (by omega) (by omega) hz]
  have hm : k.natAbs ≠ 0 := by omega
  have hl : k.natAbs.log2 < 53 := (Nat.log2_lt hm).2 (by omega)
  exact (small_read (decide (k < 0)) k.natAbs 0 hm (by omega) (by omega) (by omega)).2.1

/-- a floor that is a number: below 2^53 in size, if the word's own size is. -/
theorem floor_small {a : Int} (hu : U64 a) (hf : sz a < 9218868437227405312) (hV : V a < 9007199254740991 * U) :
    ∃ K : Nat, K < 9007199254740992 ∧ (double.read a.toNat).integral .down = .number (ngb a) K 0 := by
  rw [read_eq hu, if_pos hf]
  simp only [Datum.integral]
  have hp := pl_bd hu
  have hm := mant_u64 hu
  have hm2 : (mant a).toNat < 9007199254740992 := by
    have := mant_eq hu; rw [this]; split <;> omega
  have hP := hP
  refine ⟨_, ?_, rfl⟩
  rw [Nat.shiftLeft_eq]
  by_cases hc : 0 ≤ pl a
  · have e1 : (-pl a).toNat = 0 := by omega
    rw [e1, cut_zero .down (by decide)]
    unfold V U at hV
    have e2 : (pl a + 1074).toNat = (pl a).toNat + P1074 := by omega
    rw [e2, Nat.pow_add, ← Nat.mul_assoc] at hV
    have := Nat.lt_of_mul_lt_mul_right hV
    omega
  · have e1 : (pl a).toNat = 0 := by omega
    rw [e1, Nat.pow_zero, Nat.mul_one]
    have h := cut_le .down (ngb a) (mant a).toNat (-pl a).toNat
    have h2 : 2 ^ 1 ≤ 2 ^ min (-pl a).toNat ((mant a).toNat.log2 + 2) := Nat.pow_le_pow_right (by omega) (by omega)
    have h3 := Nat.div_le_div_left h2 (by decide) (a := (mant a).toNat)
    omega

/-- the word of ±K. -/
theorem floor_word (s : Bool) (K : Nat) (hK : K < 9007199254740992) : ∃ f : Int, U64 f ∧ (double.write (.number s K 0) : Nat) = f.toNat ∧ sz f < 9218868437227405312 ∧ SV f = (if s then -(K : Int) else (K : Int)) * (U : Int) ∧ (K ≠ 0 → f = FromIntG (if s then -(K : Int) else (K : Int))) := by
  by_cases hz : K = 0
  · subst hz
    refine ⟨((double.word s 0 : Nat) : Int), (word_int s 0 (by decide)).1, ?_, ?_, ?_, fun h => absurd rfl h⟩
    · show double.nearest s 0 0 = _
      unfold Format.nearest; rw [if_pos rfl, Int.toNat_natCast]
    · rw [(word_int s 0 (by decide)).2.1]; decide
    · have h1 := (word_int s 0 (by decide)).2.1
      have hu := (word_int s 0 (by decide)).1
      have hv := (V_zero_iff hu).2 (by rw [h1]; rfl)
      unfold SV; rw [hv]; split <;> simp <;> (cases s <;> simp)
  · obtain ⟨k, hk⟩ : ∃ k : Int, (if s then -(K : Int) else (K : Int)) = k := ⟨_, rfl⟩
    rw [hk]
    have hk1 : k.natAbs = K ∧ decide (k < 0) = s ∧ k ≠ 0 ∧ -9007199254740992 < k ∧ k < 9007199254740992 := by
      cases s
      · rw [if_neg (by decide)] at hk; refine ⟨by omega, decide_eq_false (by omega), by omega, by omega, by omega⟩
      · rw [if_pos rfl] at hk; refine ⟨by omega, decide_eq_true (by omega), by omega, by omega, by omega⟩
    obtain ⟨h1, h2, h3, h4, h5⟩ := hk1
    refine ⟨FromIntG k, FromInt_u64 h4 h5, ?_, FromInt_fin h4 h5, SV_FromInt h4 h5, fun _ => rfl⟩
    show double.nearest s K 0 = _
    rw [← h1, ← h2]; exact nearest_FromInt h4 h5 h3

theorem LO_eq : FromIntG (-2147483648) = 13970166044103278592 := by decide +kernel
theorem HI_eq : FromIntG 2147483647 = 4746794007244308480 := by decide +kernel

theorem order_whole {a : Int} (hu : U64 a) (hf : sz a < 9218868437227405312) {k : Int} (h0 : -9007199254740992 < k) (h1 : k < 9007199254740992) :
    double.order a.toNat (FromIntG k).toNat = some (compare (SV a) (k * (U : Int))) := by
  rw [order_fin hu (FromInt_u64 h0 h1) hf (FromInt_fin h0 h1), SV_FromInt h0 h1]

/-- the document's test: a word that passes it is a whole number's. -/
theorem whole_of_floor {a : Int} (hu : U64 a) (nn : isNaN a = false)
    (hlo : double.order a.toNat 13970166044103278592 ≠ some .lt) (hhi : double.order a.toNat 4746794007244308480 ≠ some .gt)
    (hfl : double.order a.toNat (floorN a.toNat) = some .eq) (hz : ¬ (double.order a.toNat 0 = some .eq ∧ ngb a = true)) :
    ∃ k : Int, -2147483648 ≤ k ∧ k < 2147483648 ∧ a = FromIntG k := by
  have eLO : (13970166044103278592 : Nat) = (FromIntG (-2147483648)).toNat := by rw [LO_eq]; rfl
  have eHI : (4746794007244308480 : Nat) = (FromIntG 2147483647).toNat := by rw [HI_eq]; rfl
  rw [eLO] at hlo
  rw [eHI] at hhi
  have hUp : (0 : Int) < (U : Int) := by have := U_pos; omega
  have hf : sz a < 9218868437227405312 := by
    have hn : ¬ 9218868437227405312 < sz a := by rw [← nan_iff']; simp [nn]
    rcases Int.lt_or_le (sz a) 9218868437227405312 with h | h
    · exact h
    · exfalso
      have hi : sz a = 9218868437227405312 := by omega
      have oL := order_SR hu (FromInt_u64 (n := -2147483648) (by decide) (by decide)) nn (not_nan_of_fin (FromInt_fin (by decide) (by decide)))
      have oH := order_SR hu (FromInt_u64 (n := 2147483647) (by decide) (by decide)) nn (not_nan_of_fin (FromInt_fin (by decide) (by decide)))
      have f1 := FromInt_fin (k := -2147483648) (by decide) (by decide)
      have f2 := FromInt_fin (k := 2147483647) (by decide) (by decide)
      have n1 := sz_nonneg (FromInt_u64 (n := -2147483648) (by decide) (by decide))
      have n2 := sz_nonneg (FromInt_u64 (n := 2147483647) (by decide) (by decide))
      cases hs : ngb a
      · apply hhi; rw [oH, cmp_gt]
        unfold SR; rw [hs, hi]; simp only [Bool.false_eq_true, if_false]; split <;> omega
      · apply hlo; rw [oL, cmp_lt]
        unfold SR; rw [hs, hi]; simp only [if_true]; split <;> omega
  rw [order_whole hu hf (by decide) (by decide)] at hlo hhi
  have b1 : -2147483648 * (U : Int) ≤ SV a := by
    rcases Int.lt_or_le (SV a) (-2147483648 * (U : Int)) with h | h
    · exact absurd (by rw [cmp_lt h]) hlo
    · exact h
  have b2 : SV a ≤ 2147483647 * (U : Int) := by
    rcases Int.lt_or_le (2147483647 * (U : Int)) (SV a) with h | h
    · exact absurd (by rw [cmp_gt h]) hhi
    · exact h
  have hV : V a < 9007199254740991 * U := by
    unfold SV at b1 b2
    cases hs : ngb a <;> rw [hs] at b1 b2 <;> simp only [Bool.false_eq_true, if_false, if_true] at b1 b2 <;> omega
  obtain ⟨K, hK, hI⟩ := floor_small hu hf hV
  obtain ⟨f, hfu, hfw, hff, hfv, hfk⟩ := floor_word (ngb a) K hK
  have efl : floorN a.toNat = f.toNat := by unfold floorN; rw [hI]; exact hfw
  rw [efl, order_fin hu hfu hf hff] at hfl
  have hSV := cmp_one (Option.some.inj hfl)
  by_cases hK0 : K = 0
  · subst hK0
    have s0 : SV a = 0 := by rw [hSV, hfv]; split <;> simp
    have v0 : V a = 0 := by unfold SV at s0; split at s0 <;> omega
    have z := (V_zero_iff hu).1 v0
    have e0 : double.order a.toNat 0 = some .eq := by
      have u0 : U64 0 := ⟨by decide, by decide⟩
      have f0 : sz 0 < 9218868437227405312 := by rw [sz_eq u0]; decide
      have := order_fin hu u0 hf f0
      have sv0 : SV 0 = 0 := by decide
      rw [sv0, s0, cmp_eq rfl] at this
      exact this
    refine ⟨0, by decide, by decide, ?_⟩
    rw [FromInt_zero]
    have hs : ngb a = false := by
      cases h : ngb a
      · rfl
      · exact absurd ⟨e0, h⟩ hz
    have := sz_eq hu
    have := hu.lo; have := hu.hi
    unfold ngb at hs
    have := of_decide_eq_false hs
    omega
  · have efk := hfk hK0
    have hSR : SR a = SR f := by
      have m1 := SV_SR hu hfu
      have m2 := SV_SR hfu hu
      rw [hSV] at m1 m2
      omega
    have hnz : SR a ≠ 0 := by
      intro h
      have z : sz a = 0 := by unfold SR at h; split at h <;> omega
      have v := (V_zero_iff hu).2 z
      have s0 : SV a = 0 := by unfold SV; rw [v]; split <;> simp
      rw [s0] at hSV
      rw [hfv] at hSV
      rcases Int.mul_eq_zero.1 hSV.symm with h | h
      · split at h <;> omega
      · omega
    have e := SR_inj hu hfu hSR hnz
    refine ⟨_, ?_, ?_, e.trans efk⟩
    · rw [hSV, hfv] at b1
      have := Int.le_of_mul_le_mul_right b1 hUp
      omega
    · rw [hSV, hfv] at b2
      have := Int.le_of_mul_le_mul_right b2 hUp
      omega

/-- ... and a whole number of 32 bits passes it. -/
theorem floor_of_whole {k : Int} (h0 : -2147483648 ≤ k) (h1 : k < 2147483648) :
    (double.order (FromIntG k).toNat 13970166044103278592 = some .gt ∨ double.order (FromIntG k).toNat 13970166044103278592 = some .eq) ∧
    (double.order (FromIntG k).toNat 4746794007244308480 = some .lt ∨ double.order (FromIntG k).toNat 4746794007244308480 = some .eq) ∧
    double.order (FromIntG k).toNat (floorN (FromIntG k).toNat) = some .eq ∧
    ((double.order (FromIntG k).toNat 0 != some .eq) = true ∨ ((double.order (FromIntG k).toNat 0 != some .eq) = false ∧ ngb (FromIntG k) = false)) := by
  have hu := FromInt_u64 (n := k) (by omega) (by omega)
  have hf := FromInt_fin (k := k) (by omega) (by omega)
  have hv := SV_FromInt (k := k) (by omega) (by omega)
  have hUp : (0 : Int) < (U : Int) := by have := U_pos; omega
  have eLO : (13970166044103278592 : Nat) = (FromIntG (-2147483648)).toNat := by rw [LO_eq]; rfl
  have eHI : (4746794007244308480 : Nat) = (FromIntG 2147483647).toNat := by rw [HI_eq]; rfl
  rw [eLO, eHI, order_whole hu hf (by decide) (by decide), order_whole hu hf (by decide) (by decide), hv, cmp_mul hUp, cmp_mul hUp]
  refine ⟨?_, ?_, ?_, ?_⟩
  · rcases Int.lt_or_le (-2147483648) k with h | h
    · rw [cmp_gt h]; exact .inl rfl
    · rw [cmp_eq (by omega)]; exact .inr rfl
  · rcases Int.lt_or_le k 2147483647 with h | h
    · rw [cmp_lt h]; exact .inl rfl
    · rw [cmp_eq (by omega)]; exact .inr rfl
  · have e : floorN (FromIntG k).toNat = (FromIntG k).toNat := by
      unfold floorN
      by_cases hz : k = 0
      · subst hz; rw [FromInt_zero]; decide
      · rw [integral_whole .down (by decide) (by omega) (by omega) hz]
        exact nearest_FromInt (by omega) (by omega) hz
    rw [e, order_fin hu hu hf hf, cmp_eq rfl]
  · by_cases hz : k = 0
    · subst hz; rw [FromInt_zero]; exact .inr ⟨by decide, by decide⟩
    · left
      have u0 : U64 0 := ⟨by decide, by decide⟩
      have f0 : sz 0 < 9218868437227405312 := by rw [sz_eq u0]; decide
      have o := order_fin hu u0 hf f0
      have sv0 : SV 0 = 0 * (U : Int) := by rw [Int.zero_mul]; decide
      rw [sv0, hv, cmp_mul hUp] at o
      have o2 : double.order (FromIntG k).toNat 0 = some (compare k 0) := o
      rw [o2]
      rcases Int.lt_trichotomy k 0 with h | h | h
      · rw [cmp_lt h]; rfl
      · exact absurd h hz
      · rw [cmp_gt h]; rfl
end Fp
