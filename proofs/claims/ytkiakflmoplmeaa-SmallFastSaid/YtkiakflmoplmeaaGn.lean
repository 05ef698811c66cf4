/- Plain facts: sums, differences and products of small whole numbers; a number is its whole part and what is left. -/
import Derived.Test.YtkiakflmoplmeaaGi
namespace Fp
open Go Go.RowKit Ieee
set_option linter.unusedVariables false
set_option linter.unusedSimpArgs false
def zeroW (s : Bool) : Int := if s then 9223372036854775808 else 0
theorem zero_word (s : Bool) (p : Int) : ((double.nearest s 0 p : Nat) : Int) = zeroW s := by
  unfold Format.nearest
  rw [if_pos rfl]
  cases s <;> decide +kernel
theorem mul_pos_iff {k : Int} {u : Nat} (hu : 0 < u) : (k * (u : Int) = 0 ↔ k = 0) ∧ (k * (u : Int) < 0 ↔ k < 0) := by
  constructor
  · constructor
    · intro h; rcases Int.mul_eq_zero.1 h with g | g
      · exact g
      · omega
    · intro h; rw [h, Int.zero_mul]
  · constructor
    · intro h
      rcases Int.lt_or_le k 0 with g | g
      · exact g
      · have := Int.mul_nonneg g (show (0 : Int) ≤ (u : Int) by omega); omega
    · intro h; exact Int.mul_neg_of_neg_of_pos h (by omega)
theorem FromInt_cast {k : Int} (h0 : -9007199254740992 < k) (h1 : k < 9007199254740992) (hz : k ≠ 0) : ((double.nearest (decide (k < 0)) k.natAbs 0 : Nat) : Int) = FromIntG k := by
  rw [nearest_FromInt h0 h1 hz]
  have := (FromInt_u64 h0 h1).lo
  omega
theorem NT_whole (s : Bool) {k : Int} (h0 : -9007199254740992 < k) (h1 : k < 9007199254740992) : NT s (k * (U : Int)) (-1074) = if k = 0 then zeroW s else FromIntG k := by
  obtain ⟨m1, m2⟩ := mul_pos_iff (k := k) U_pos
  unfold NT
  by_cases z : k = 0
  · rw [if_pos (m1.2 z), if_pos z, z, Int.zero_mul]
    exact zero_word s (-1074)
  · rw [if_neg (fun h => z (m1.1 h)), if_neg z, decide_eq_decide.2 m2, Int.natAbs_mul, Int.natAbs_natCast, ← nearest_U]
    exact FromInt_cast h0 h1 z
theorem nearest_UU (s : Bool) (K : Nat) : double.nearest s K 0 = double.nearest s (K * (U * U)) (-2148) := by
  unfold U
  rw [← Nat.pow_add, nearest_scale]
  congr 1
theorem NT_product (s : Bool) {k : Int} (h0 : -9007199254740992 < k) (h1 : k < 9007199254740992) : NT s (k * ((U * U : Nat) : Int)) (-2148) = if k = 0 then zeroW s else FromIntG k := by
  obtain ⟨m1, m2⟩ := mul_pos_iff (k := k) (Nat.mul_pos U_pos U_pos)
  unfold NT
  by_cases z : k = 0
  · rw [if_pos (m1.2 z), if_pos z, z, Int.zero_mul]
    exact zero_word s (-2148)
  · rw [if_neg (fun h => z (m1.1 h)), if_neg z, decide_eq_decide.2 m2, Int.natAbs_mul, Int.natAbs_natCast, ← nearest_UU]
    exact FromInt_cast h0 h1 z
theorem FromInt_ng {k : Int} (h0 : -9007199254740992 < k) (h1 : k < 9007199254740992) : ngb (FromIntG k) = decide (k < 0) := by
  by_cases z : k = 0
  · subst z; rw [FromInt_zero]; decide +kernel
  · exact FromInt_ngb h0 h1 z
theorem add_whole {m n : Int} (h0 : -4294967296 ≤ m) (h1 : m ≤ 4294967296) (h2 : -4294967296 ≤ n) (h3 : n ≤ 4294967296) : AddG (FromIntG m) (FromIntG n) = FromIntG (m + n) := by
  rw [add_total (FromInt_u64 (by omega) (by omega)) (FromInt_u64 (by omega) (by omega)) (FromInt_fin (by omega) (by omega)) (FromInt_fin (by omega) (by omega)), SV_FromInt (by omega) (by omega), SV_FromInt (by omega) (by omega), ← Int.add_mul, NT_whole _ (by omega) (by omega), FromInt_ng (by omega) (by omega), FromInt_ng (by omega) (by omega)]
  by_cases z : m + n = 0
  · rw [if_pos z, z, FromInt_zero]
    have : (decide (m < 0) && decide (n < 0)) = false := by
      by_cases g : m < 0
      · rw [decide_eq_false (show ¬ n < 0 by omega), Bool.and_false]
      · rw [decide_eq_false g, Bool.false_and]
    rw [this]; rfl
  · rw [if_neg z]
theorem sub_whole {m n : Int} (h0 : -4294967296 ≤ m) (h1 : m ≤ 4294967296) (h2 : -4294967296 ≤ n) (h3 : n ≤ 4294967296) : SubG (FromIntG m) (FromIntG n) = FromIntG (m - n) := by
  rw [sub_total (FromInt_u64 (by omega) (by omega)) (FromInt_u64 (by omega) (by omega)) (FromInt_fin (by omega) (by omega)) (FromInt_fin (by omega) (by omega)), SV_FromInt (by omega) (by omega), SV_FromInt (by omega) (by omega), ← Int.sub_mul, NT_whole _ (by omega) (by omega), FromInt_ng (by omega) (by omega), FromInt_ng (by omega) (by omega)]
  by_cases z : m - n = 0
  · rw [if_pos z, z, FromInt_zero]
    have : (decide (m < 0) && !decide (n < 0)) = false := by
      by_cases g : m < 0
      · rw [decide_eq_true (show n < 0 by omega), Bool.not_true, Bool.and_false]
      · rw [decide_eq_false g, Bool.false_and]
    rw [this]; rfl
  · rw [if_neg z]
theorem mul_whole {m n : Int} (h0 : -32768 ≤ m) (h1 : m ≤ 32768) (h2 : -4294967296 ≤ n) (h3 : n ≤ 4294967296) : MulG (FromIntG m) (FromIntG n) = if m * n = 0 then zeroW (decide (m < 0) ^^ decide (n < 0)) else FromIntG (m * n) := by
  have hb : -140737488355328 ≤ m * n ∧ m * n ≤ 140737488355328 := by
    have a1 : (m * n).natAbs ≤ 32768 * 4294967296 := by
      rw [Int.natAbs_mul]; exact Nat.mul_le_mul (by omega) (by omega)
    omega
  obtain ⟨b0, b1⟩ := hb
  rw [mul_total (FromInt_u64 (by omega) (by omega)) (FromInt_u64 (by omega) (by omega)) (FromInt_fin (by omega) (by omega)) (FromInt_fin (by omega) (by omega)), SV_FromInt (by omega) (by omega), SV_FromInt (by omega) (by omega), FromInt_ng (by omega) (by omega), FromInt_ng (by omega) (by omega)]
  have e : m * (U : Int) * (n * (U : Int)) = m * n * ((U * U : Nat) : Int) := by
    rw [Int.natCast_mul, Int.mul_assoc m, Int.mul_left_comm (U : Int) n, ← Int.mul_assoc, ← Int.mul_assoc, Int.mul_assoc (m * n)]
  rw [e, NT_product _ (by omega) (by omega)]
theorem less_whole {m n : Int} (h0 : -9007199254740992 < m) (h1 : m < 9007199254740992) (h2 : -9007199254740992 < n) (h3 : n < 9007199254740992) : LessG (FromIntG m) (FromIntG n) = decide (m < n) := by
  have fm := FromInt_fin h0 h1
  have fn := FromInt_fin h2 h3
  rw [LessG_SR (FromInt_u64 h0 h1) (FromInt_u64 h2 h3) (fin_num fm).1 (fin_num fn).1]
  refine decide_eq_decide.2 ?_
  rw [← SV_SR (FromInt_u64 h0 h1) (FromInt_u64 h2 h3), SV_FromInt h0 h1, SV_FromInt h2 h3]
  exact Int.mul_lt_mul_right (by have := U_pos; omega)
/-- exact where there is a word for it. -/
theorem NT_exact (s : Bool) (T : Int) (m k : Nat) (h : T.natAbs = m * 2 ^ k) (hm : m < 9007199254740992) (hn : T.natAbs < vr 9218868437227405312) :
    U64 (NT s T (-1074)) ∧ sz (NT s T (-1074)) < 9218868437227405312 ∧ SV (NT s T (-1074)) = T := by
  obtain ⟨u, u1, u2, u3⟩ := rep T.natAbs m k h hm hn
  obtain ⟨p1, p2⟩ := Pos.of u2 u3
  obtain ⟨f1, f2, f3⟩ := NT_facts s T (-1074)
  have e : NT s T (-1074) = sgnG (if T = 0 then s else decide (T < 0)) (u : Int) := by
    unfold NT; rw [nearest_rung, u1, ← sgn_word _ _ (by omega)]
  have l0 := p1.lo
  have l1 := p1.hi
  generalize hs : (if T = 0 then s else decide (T < 0)) = b at e
  have hz : sz (NT s T (-1074)) = u := by
    rw [sz_eq f1, e, sgn_eq l0 (by omega)]
    split <;> omega
  have hg : ngb (NT s T (-1074)) = b := by
    rw [e, sgn_eq l0 (by omega)]
    cases b
    · rw [if_neg (by decide)]; exact decide_eq_false (by omega)
    · rw [if_pos rfl]; exact decide_eq_true (by omega)
  refine ⟨f1, by rw [hz]; exact l1, ?_⟩
  unfold SV
  rw [hg, V_sz f1 p1.u (by rw [hz, p1.sz]), p2, ← hs]
  by_cases z : T = 0
  · rw [z]; cases s <;> rfl
  · rw [if_neg z]
    by_cases g : T < 0
    · rw [decide_eq_true g, if_pos rfl]; omega
    · rw [decide_eq_false g, if_neg (by decide)]; omega
theorem SR_of_SV {a b : Int} (ha : U64 a) (hb : U64 b) (h : SV a = SV b) : SR a = SR b := by
  have m1 := SV_SR ha hb
  have m2 := SV_SR hb ha
  omega
theorem equal_SR {a b : Int} (ha : U64 a) (hb : U64 b) (na : isNaN a = false) (nb : isNaN b = false) (h : SR a = SR b) : EqualG a b = true := by
  rw [← Equal_ok ha hb, order_SR ha hb na nb, cmp_eq h]; rfl
theorem part_rep {a : Int} (hu : U64 a) (hf : sz a < 9218868437227405312) : (∃ m k, V a % U = m * 2 ^ k ∧ m < 9007199254740992) ∧ V a % U < vr 9218868437227405312 := by
  have pa : Pos (sz a) := ⟨sz_nonneg hu, hf⟩
  refine ⟨?_, Nat.lt_of_le_of_lt (Nat.mod_le _ _) (by rw [← V_sz pa.u hu pa.sz]; exact pa.below)⟩
  have hm := mant_lt hu
  obtain ⟨A, hA⟩ : ∃ A, (pl a + 1074).toNat = A := ⟨_, rfl⟩
  have e : V a = (mant a).toNat * 2 ^ A := by unfold V; rw [hA]
  rw [e]
  unfold U
  by_cases c : P1074 ≤ A
  · refine ⟨0, 0, ?_, by omega⟩
    rw [show A = (A - P1074) + P1074 by omega, Nat.pow_add, ← Nat.mul_assoc, Nat.mul_mod_left]
  · refine ⟨(mant a).toNat % 2 ^ (P1074 - A), A, ?_, Nat.lt_of_le_of_lt (Nat.mod_le _ _) hm⟩
    have : 2 ^ P1074 = 2 ^ (P1074 - A) * 2 ^ A := by rw [← Nat.pow_add]; congr 1; omega
    rw [this, Nat.mul_mod_mul_right]
theorem SV_split {a : Int} (hu : U64 a) (hf : sz a < 9218868437227405312) : SV a - SV (TruncG a) = if ngb a then -((V a % U : Nat) : Int) else ((V a % U : Nat) : Int) := by
  have T := trunc_of hu hf
  have h := Nat.div_add_mod (V a) U
  have hv := T.val
  unfold WP at hv
  rw [Nat.mul_comm] at h
  rw [← hv] at h
  unfold SV
  rw [T.ng]
  generalize V a % U = f at *
  generalize V (TruncG a) = t at *
  generalize V a = v at *
  cases ngb a
  · simp only [Bool.false_eq_true, if_false]; omega
  · simp only [if_true]; omega
/-- what is left above the whole part. -/
theorem left_of {a : Int} (hu : U64 a) (hf : sz a < 9218868437227405312) : U64 (SubG a (TruncG a)) ∧ sz (SubG a (TruncG a)) < 9218868437227405312 ∧ SV (SubG a (TruncG a)) = SV a - SV (TruncG a) := by
  have T := trunc_of hu hf
  obtain ⟨⟨m, k, e1, e2⟩, e3⟩ := part_rep hu hf
  rw [sub_total hu T.u hf T.fin]
  have e : (SV a - SV (TruncG a)).natAbs = V a % U := by
    rw [SV_split hu hf]
    generalize V a % U = f
    split <;> omega
  exact NT_exact _ _ m k (by rw [e, e1]) e2 (by rw [e]; exact e3)
theorem NT_self {a : Int} (s : Bool) (hu : U64 a) (hf : sz a < 9218868437227405312) : U64 (NT s (SV a) (-1074)) ∧ isNaN (NT s (SV a) (-1074)) = false ∧ SR (NT s (SV a) (-1074)) = SR a := by
  have pa : Pos (sz a) := ⟨sz_nonneg hu, hf⟩
  have h := NT_exact s (SV a) (mant a).toNat (pl a + 1074).toNat (by rw [SV_abs]; rfl) (mant_lt hu) (by rw [SV_abs, ← V_sz pa.u hu pa.sz]; exact pa.below)
  exact ⟨h.1, (fin_num h.2.1).1, SR_of_SV h.1 hu h.2.2⟩
theorem whole_and_left {a : Int} (hu : U64 a) (hf : sz a < 9218868437227405312) : EqualG (AddG (TruncG a) (SubG a (TruncG a))) a = true := by
  have T := trunc_of hu hf
  obtain ⟨l1, l2, l3⟩ := left_of hu hf
  rw [add_total T.u l1 T.fin l2, l3, show SV (TruncG a) + (SV a - SV (TruncG a)) = SV a by omega]
  obtain ⟨n1, n2, n3⟩ := NT_self (ngb (TruncG a) && ngb (SubG a (TruncG a))) hu hf
  exact equal_SR n1 hu n2 (fin_num hf).1 n3
theorem rem_one {a : Int} (hu : U64 a) (hf : sz a < 9218868437227405312) : EqualG (SubG a (TruncG a)) (RemG a 4607182418800017408) = true := by
  have T := trunc_of hu hf
  obtain ⟨l1, l2, l3⟩ := left_of hu hf
  have nz : ¬ sz 4607182418800017408 = 0 := by rw [one_pos.sz]; decide
  have pa : Pos (sz a) := ⟨sz_nonneg hu, hf⟩
  have vs : V (sz a) = V a := V_sz pa.u hu pa.sz
  have hlt := pa.lt one_pos
  rw [vs, V_one] at hlt
  by_cases c : sz a < sz 4607182418800017408
  · have e : RemG a 4607182418800017408 = a := by
      have zo : isZ 4607182418800017408 = false := by decide +kernel
      unfold RemG
      rw [(fin_num hf).1, (fin_num one_pos.fin).1, (fin_num hf).2, zo, if_neg (by decide), if_pos c]
    rw [e]
    rw [one_pos.sz] at c
    have hv := hlt.2 c
    have t0 : SV (TruncG a) = 0 := by
      have : V (TruncG a) = 0 := by rw [T.val]; unfold WP; rw [Nat.div_eq_of_lt hv, Nat.zero_mul]
      unfold SV; rw [this]; split <;> rfl
    rw [t0] at l3
    exact equal_SR l1 hu (fin_num l2).1 (fin_num hf).1 (SR_of_SV l1 hu (by omega))
  · rw [rem_word hu one_pos.u hf one_pos.fin nz (by omega), V_one]
    obtain ⟨⟨m, k, e1, e2⟩, e3⟩ := part_rep hu hf
    obtain ⟨u, u1, u2, u3⟩ := rep (V a % U) m k e1 e2 e3
    obtain ⟨p1, p2⟩ := Pos.of u2 u3
    rw [u1]
    have l0 := p1.lo
    have lh := p1.hi
    have su : U64 (sgnG (ngb a) (u : Int)) := by rw [sgn_eq l0 (by omega)]; split <;> exact ⟨by omega, by omega⟩
    have sg : ngb (sgnG (ngb a) (u : Int)) = ngb a := by
      rw [sgn_eq l0 (by omega)]
      cases ngb a
      · rw [if_neg (by decide)]; exact decide_eq_false (by omega)
      · rw [if_pos rfl]; exact decide_eq_true (by omega)
    have ss : sz (sgnG (ngb a) (u : Int)) = u := by
      rw [sz_eq su, sgn_eq l0 (by omega)]; split <;> omega
    have sv : SV (sgnG (ngb a) (u : Int)) = SV a - SV (TruncG a) := by
      rw [SV_split hu hf]
      unfold SV
      rw [sg, V_sz su p1.u (by rw [ss, p1.sz]), p2]
    exact equal_SR l1 su (fin_num l2).1 (fin_num (by unfold Fin'; rw [ss]; exact lh)).1 (SR_of_SV l1 su (by rw [l3, sv]))
theorem not_below_floor {a : Int} (hu : U64 a) (hf : sz a < 9218868437227405312) : LessG a (FloorG a) = false := by
  have T := trunc_of hu hf
  have hU := U_pos
  have hle : V (TruncG a) ≤ V a := by rw [T.val]; unfold WP; exact Nat.div_mul_le_self _ _
  have key : ∀ b, U64 b → SR b ≤ SR a → LessG a b = false := fun b hb h => less_not hu hb (fun _ _ => h)
  have hgt : V a < V (TruncG a) + U := by
    rw [T.val]; unfold WP
    have h := Nat.div_add_mod (V a) U
    have h2 := Nat.mod_lt (V a) hU
    rw [Nat.mul_comm] at h
    generalize V a % U = f at *
    generalize V a / U * U = t at *
    omega
  unfold FloorG
  by_cases c : TruncG a = a ∨ TruncG a = 9221120237041090560 ∨ a < 9223372036854775808
  · rw [if_pos c]
    apply key _ T.u
    rcases c with c | c | c
    · rw [c]; exact Int.le_refl _
    · have := T.fin
      rw [c] at this
      exact absurd this (by decide +kernel)
    · have g : ngb a = false := decide_eq_false (by omega)
      have h : ¬ SV a < SV (TruncG a) := by
        unfold SV
        rw [T.ng, g]
        simp only [Bool.false_eq_true, if_false]
        omega
      rw [SV_SR hu T.u] at h
      omega
  · rw [if_neg c, sub_total T.u one_pos.u T.fin one_pos.fin, one_pos.SV, V_one]
    obtain ⟨f1, f2, f3⟩ := NT_facts (ngb (TruncG a) && !ngb 4607182418800017408) (SV (TruncG a) - (U : Int)) (-1074)
    apply key _ f1
    obtain ⟨n1, n2, n3⟩ := NT_self false hu hf
    rw [← n3]
    apply NT_mono
    unfold SV
    rw [T.ng]
    generalize V (TruncG a) = t at *
    generalize V a = v at *
    generalize U = u at *
    cases ngb a
    · simp only [Bool.false_eq_true, if_false]; omega
    · simp only [if_true]; omega
end Fp
