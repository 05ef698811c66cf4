/- Plain facts: what math's mod takes off, and what soft's Rem reckons, is the exact rest. -/
import Derived.Test.YtmemefjhefmfhaaGg
namespace Fp
open Go Go.RowKit Ieee
set_option linter.unusedVariables false
set_option linter.unusedSimpArgs false
/-- the divisor, made as great as it may be. -/
def modE (r y : Int) : Int := (if oman r < oman y then oexp r - 1 else oexp r) - oexp y
theorem near2_rung (n : Nat) (h0 : n ≠ 0) : near2 false n false (-1074) = rungN n (-1074) := by
  rw [← nearest_eq _ _ _ h0, nearest_rung, word_false]
theorem near2_V {y : Int} (hu : U64 y) (hz : ¬ sz y = 0) (d : Nat) : near2 false (oman y).toNat false (oexp y + d) = rungN (V y * 2 ^ d) (-1074) := by
  have ho := opened hu hz
  have he := oexp_bd hu
  have hm : (oman y).toNat ≠ 0 := by have := ho.lo; omega
  have hv := V_open hu hz
  have v0 : V y ≠ 0 := fun c => hz ((V_zero_iff hu).1 c)
  have h1 : oexp y + (d : Int) = ((d : Int) - 1138) + ((oexp y + 1138).toNat : Nat) := by omega
  have h2 : (d : Int) - 1138 + ((64 : Nat) : Int) = -1074 + (d : Nat) := by omega
  have h3 : V y * 2 ^ d ≠ 0 := Nat.mul_ne_zero v0 (Nat.ne_of_gt (Nat.two_pow_pos _))
  rw [h1, ← near2_scale false _ _ _ hm, ← hv, near2_scale false _ _ _ v0, h2, ← near2_scale false _ _ _ v0, near2_rung _ h3]
theorem mod_step {r y : Int} (hr : Pos r) (hy : Pos y) (y0 : y ≠ 0) (h : y ≤ r) : 0 ≤ modE r y ∧ modE r y ≤ 2200 ∧ ∃ T u : Int,
    ((near2 false (oman y).toNat false (oexp y + modE r y) : Nat) : Int) = T ∧ Pos T ∧ SubG r T = u ∧ Pos u ∧ u < r ∧ V u % V y = V r % V y := by
  have zy : ¬ sz y = 0 := by rw [hy.sz]; exact y0
  have zr : ¬ sz r = 0 := by rw [hr.sz]; have := hy.lo; omega
  have oy := opened hy.u zy
  have or := opened hr.u zr
  have ey := oexp_bd hy.u
  have er := oexp_bd hr.u
  have mono : oexp y ≤ oexp r := oexp_mono hy.u hr.u zy (by rw [hy.sz, hr.sz]; exact h)
  have vy := V_open hy.u zy
  have vr' := V_open hr.u zr
  have hle : V y ≤ V r := by have := mt (hr.lt hy).1 (by omega); omega
  have v0 : V y ≠ 0 := fun c => zy ((V_zero_iff hy.u).1 c)
  have y63 := oy.lo
  have y64 := oy.hi
  have r63 := or.lo
  have r64 := or.hi
  obtain ⟨Y, hY⟩ : ∃ Y, (oman y).toNat = Y := ⟨_, rfl⟩
  obtain ⟨R, hR⟩ : ∃ Y, (oman r).toNat = Y := ⟨_, rfl⟩
  obtain ⟨A, hA⟩ : ∃ Y, (oexp y + 1138).toNat = Y := ⟨_, rfl⟩
  obtain ⟨B, hB⟩ : ∃ Y, (oexp r + 1138).toNat = Y := ⟨_, rfl⟩
  rw [hY, hA] at vy
  rw [hR, hB] at vr'
  -- how far
  have key : ∃ d : Nat, modE r y = d ∧ V y * 2 ^ d ≤ V r ∧ V r < 2 * (V y * 2 ^ d) := by
    unfold modE
    by_cases c : oman r < oman y
    · have hlt : oexp y < oexp r := by
        rcases Int.lt_or_eq_of_le mono with g | g
        · exact g
        · exfalso
          have hAB : A = B := by omega
          subst hAB
          have h1 : Y * 2 ^ A ≤ R * 2 ^ A := by rw [← vy, ← vr']; exact Nat.mul_le_mul_right _ hle
          have := Nat.le_of_mul_le_mul_right h1 (Nat.two_pow_pos A)
          omega
      rw [if_pos c]
      refine ⟨(oexp r - 1 - oexp y).toNat, by omega, ?_⟩
      obtain ⟨d, hd⟩ : ∃ d, (oexp r - 1 - oexp y).toNat = d := ⟨_, rfl⟩
      rw [hd]
      have hB2 : B = A + d + 1 := by omega
      have p := Nat.two_pow_pos 64
      have e1 : V y * 2 ^ d * 2 ^ 64 = Y * 2 ^ (A + d) := by
        rw [Nat.mul_right_comm, vy, Nat.mul_assoc, ← Nat.pow_add]
      have e2 : V r * 2 ^ 64 = (2 * R) * 2 ^ (A + d) := by
        rw [vr', hB2, Nat.pow_succ, Nat.mul_comm (2 ^ (A + d)) 2, ← Nat.mul_assoc, Nat.mul_comm R 2]
      constructor
      · apply Nat.le_of_mul_le_mul_right _ p
        rw [e1, e2]; exact Nat.mul_le_mul_right _ (by omega)
      · apply Nat.lt_of_mul_lt_mul_right (a := 2 ^ 64)
        rw [Nat.mul_assoc, e1, e2, Nat.mul_assoc]
        apply Nat.mul_lt_mul_of_pos_left _ (by omega)
        exact Nat.mul_lt_mul_of_pos_right (by omega) (Nat.two_pow_pos _)
    · rw [if_neg c]
      refine ⟨(oexp r - oexp y).toNat, by omega, ?_⟩
      obtain ⟨d, hd⟩ : ∃ d, (oexp r - oexp y).toNat = d := ⟨_, rfl⟩
      rw [hd]
      have hB2 : B = A + d := by omega
      have p := Nat.two_pow_pos 64
      have e1 : V y * 2 ^ d * 2 ^ 64 = Y * 2 ^ (A + d) := by
        rw [Nat.mul_right_comm, vy, Nat.mul_assoc, ← Nat.pow_add]
      have e2 : V r * 2 ^ 64 = R * 2 ^ (A + d) := by rw [vr', hB2]
      constructor
      · apply Nat.le_of_mul_le_mul_right _ p
        rw [e1, e2]; exact Nat.mul_le_mul_right _ (by omega)
      · apply Nat.lt_of_mul_lt_mul_right (a := 2 ^ 64)
        rw [Nat.mul_assoc, e1, e2, ← Nat.mul_assoc]
        exact Nat.mul_lt_mul_of_pos_right (by omega) (Nat.two_pow_pos _)
  have hup : modE r y ≤ 2200 := by unfold modE; split <;> omega
  obtain ⟨d, hd, k1, k2⟩ := key
  have hm := mant_lt hy.u
  obtain ⟨u, u1, u2, u3⟩ := rep (V y * 2 ^ d) (mant y).toNat ((pl y + 1074).toNat + d) (by unfold V; rw [Nat.mul_assoc, ← Nat.pow_add]) hm (Nat.lt_of_le_of_lt k1 hr.below)
  obtain ⟨p1, p2⟩ := Pos.of u2 u3
  rw [← p2] at k1 k2
  have hur : (u : Int) ≤ r := by
    have := mt (hr.lt p1).2 (by omega); omega
  obtain ⟨v, w1, w2, w3⟩ := sub_exact hr p1 hur k2
  have u0 : 0 < V (u : Int) := by rw [p2]; exact Nat.mul_pos (by omega) (Nat.two_pow_pos _)
  refine ⟨by omega, hup, u, v, ?_, p1, w1, w2, ?_, ?_⟩
  · rw [hd, near2_V hy.u zy, u1]
  · exact (w2.lt hr).1 (by omega)
  · rw [w3, p2]
    have : V y * 2 ^ d ≤ V r := by rw [← p2]; exact k1
    exact (Nat.sub_mul_mod this)
/-- soft's rest, as a word. -/
theorem rem_word {a b : Int} (ha : U64 a) (hb : U64 b) (fa : sz a < 9218868437227405312) (fb : sz b < 9218868437227405312) (zb : ¬ sz b = 0) (h : sz b ≤ sz a) :
    RemG a b = sgnG (ngb a) ((rungN (V a % V b) (-1074) : Nat) : Int) := by
  have zs := sz_nonneg hb
  have za : ¬ sz a = 0 := by omega
  have oa := opened ha za
  have ob := opened hb zb
  have ea := oexp_bd ha
  have eb := oexp_bd hb
  have mono : oexp b ≤ oexp a := oexp_mono hb ha zb h
  have va := V_open ha za
  have vb := V_open hb zb
  have e11n : (2 : Nat) ^ 11 = 2048 := by decide
  have a63 := oa.lo
  have a64 := oa.hi
  have b63 := ob.lo
  have b64 := ob.hi
  have e : RemG a b = sgnG (ngb a) (NearG (oman a / 2048 * 2 ^ (oexp a - oexp b).toNat % (oman b / 2048)) (oexp b + 11) false) := by
    unfold RemG
    rw [if_neg ?_, if_neg (by omega)]
    rw [(fin_num fa).1, (fin_num fb).1, (fin_num fa).2]
    have : isZ b = false := by rw [Bool.eq_false_iff]; intro c; rw [isZ_iff] at c; exact zb c
    rw [this]; decide
  rw [e]
  congr 1
  have sa := oa.lower
  have sb := ob.lower
  obtain ⟨X, hX⟩ : ∃ X, (oman a / 2048).toNat = X := ⟨_, rfl⟩
  obtain ⟨Y, hY⟩ : ∃ X, (oman b / 2048).toNat = X := ⟨_, rfl⟩
  have eX : (oman a).toNat = X * 2 ^ 11 := by omega
  have eY : (oman b).toNat = Y * 2 ^ 11 := by omega
  obtain ⟨A, hA⟩ : ∃ Y, (oexp b + 1138).toNat = Y := ⟨_, rfl⟩
  obtain ⟨f, hf⟩ : ∃ f, (oexp a - oexp b).toNat = f := ⟨_, rfl⟩
  have hB : (oexp a + 1138).toNat = f + A := by omega
  rw [eX, hB] at va
  rw [eY, hA] at vb
  have cp (k : Nat) : (2 : Int) ^ k = ((2 ^ k : Nat) : Int) := by rw [Int.natCast_pow]; rfl
  have iX : oman a / 2048 = (X : Int) := by omega
  have iY : oman b / 2048 = (Y : Int) := by omega
  rw [hf, iX, iY, cp, ← Int.natCast_mul, ← Int.natCast_emod]
  obtain ⟨q, hq⟩ : ∃ q, X * 2 ^ f % Y = q := ⟨_, rfl⟩
  rw [hq]
  have main : V a % V b * 2 ^ 64 = q * 2 ^ (11 + A) := by
    rw [← Nat.mul_mod_mul_right, va, vb, Nat.mul_assoc X, ← Nat.pow_add, Nat.mul_assoc Y, ← Nat.pow_add, show 11 + (f + A) = f + (11 + A) by omega, Nat.pow_add, ← Nat.mul_assoc, Nat.mul_mod_mul_right, hq]
  have yb : 0 < Y := by omega
  have qb : q < Y := by rw [← hq]; exact Nat.mod_lt _ yb
  by_cases c : q = 0
  · have : V a % V b = 0 := by
      rw [c, Nat.zero_mul] at main
      rcases Nat.mul_eq_zero.1 main with g | g
      · exact g
      · exact absurd g (Nat.ne_of_gt (Nat.two_pow_pos _))
    rw [this, c, rungN, if_pos rfl]
    unfold NearG
    rw [if_pos (show ((0 : Nat) : Int) = 0 from rfl), if_neg (by decide)]; rfl
  · have n0 : V a % V b ≠ 0 := fun g => by
      rw [g, Nat.zero_mul] at main
      rcases Nat.mul_eq_zero.1 main.symm with k | k
      · exact c k
      · exact absurd k (Nat.ne_of_gt (Nat.two_pow_pos _))
    rw [near_doc0 _ _ ⟨by omega, by omega⟩]
    unfold nearD
    have ecl : cl (oexp b + 11) = oexp b + 11 := by unfold cl; omega
    rw [if_neg (by omega), ecl, Int.toNat_natCast, ← near2_rung _ n0]
    have h1 : oexp b + 11 = (-1074 - ((64 : Nat) : Int)) + ((11 + A : Nat) : Int) := by omega
    rw [h1, ← near2_scale false _ _ _ c, ← main, near2_scale false _ _ _ n0]
    congr 2
end Fp
