/- Plain facts: quotients and rests of whole numbers, at once and in full. -/
import Derived.Test.YtkiakflmoplmeaaHf
namespace Fp
open Go Go.RowKit Ieee
set_option linter.unusedVariables false
set_option linter.unusedSimpArgs false
/-- rounding at 11 bits stays within half a unit. -/
theorem rne_near (q Y P r : Nat) (hP : P = Y * q + r) (hr : r < Y) : (rne q (decide (r ≠ 0)) 11) * (2048 * Y) ≤ P + 1024 * Y ∧ P ≤ (rne q (decide (r ≠ 0)) 11) * (2048 * Y) + 1024 * Y := by
  have e11 : (2 : Nat) ^ 11 = 2048 := by decide
  rw [rne_if, e11]
  have dm := Nat.div_add_mod q 2048
  have hm := Nat.mod_lt q (show 2048 > 0 by decide)
  have eq : Y * q = Y * (2048 * (q / 2048)) + Y * (q % 2048) := by rw [← Nat.mul_add, dm]
  have e1 : (q / 2048) * (2048 * Y) = Y * (2048 * (q / 2048)) := by
    rw [Nat.mul_comm Y, Nat.mul_comm 2048 (q / 2048), Nat.mul_assoc]
  have e2 : (q / 2048 + 1) * (2048 * Y) = Y * (2048 * (q / 2048)) + 2048 * Y := by rw [Nat.add_mul, Nat.one_mul, e1]
  by_cases c : 2048 < 2 * (q % 2048) ∨ 2048 = 2 * (q % 2048) ∧ (decide (r ≠ 0) = true ∨ q / 2048 % 2 = 1)
  · rw [if_pos c, e2, hP, eq]
    have h1 : 1024 ≤ q % 2048 := by omega
    have h2 : Y * 1024 ≤ Y * (q % 2048) := Nat.mul_le_mul_left _ h1
    have h3 : Y * (q % 2048) ≤ Y * 2047 := Nat.mul_le_mul_left _ (by omega)
    generalize Y * (2048 * (q / 2048)) = A at *
    generalize Y * (q % 2048) = B at *
    constructor <;> omega
  · rw [if_neg c, e1, hP, eq]
    by_cases t : q % 2048 < 1024
    · have h3 : Y * (q % 2048) ≤ Y * 1023 := Nat.mul_le_mul_left _ (by omega)
      generalize Y * (2048 * (q / 2048)) = A at *
      generalize Y * (q % 2048) = B at *
      constructor <;> omega
    · have h5 : q % 2048 = 1024 := by omega
      have h6 : ¬ (decide (r ≠ 0) = true ∨ q / 2048 % 2 = 1) := fun k => c (.inr ⟨by omega, k⟩)
      have h7 : r = 0 := by
        by_cases k : r = 0
        · exact k
        · exact absurd (.inl (decide_eq_true k)) h6
      rw [h5, h7]
      generalize Y * (2048 * (q / 2048)) = A at *
      constructor <;> omega
/-- a rounded quotient that is whole is the quotient. -/
theorem whole_quotient {N M a b k z j D : Nat} (hM : 0 < M) (hz : z = j * 2 ^ D) (hD : D + 11 + b = a + k) (hak : 74 < a + k) (hY : M * 2 ^ b < 18446744073709551616)
    (h1 : z * (2048 * (M * 2 ^ b)) ≤ N * 2 ^ (a + k) + 1024 * (M * 2 ^ b)) (h2 : N * 2 ^ (a + k) ≤ z * (2048 * (M * 2 ^ b)) + 1024 * (M * 2 ^ b)) : N = M * j := by
  have e11 : (2 : Nat) ^ 11 = 2048 := by decide
  have e74 : (2 : Nat) ^ 74 = 1024 * 18446744073709551616 := by decide
  have e : z * (2048 * (M * 2 ^ b)) = M * j * 2 ^ (a + k) := by
    rw [hz, ← hD, ← e11, Nat.pow_add, Nat.pow_add]
    rw [Nat.mul_comm M (2 ^ b), ← Nat.mul_assoc (2 ^ 11), ← Nat.mul_assoc (j * 2 ^ D), Nat.mul_assoc j, Nat.mul_comm (j * (2 ^ D * (2 ^ 11 * 2 ^ b))), ← Nat.mul_assoc M j, Nat.mul_assoc (2 ^ D)]
  rw [e] at h1 h2
  have hp : 2 ^ 74 < 2 ^ (a + k) := Nat.pow_lt_pow_right (by decide) hak
  rw [e74] at hp
  generalize hE : 2 ^ (a + k) = E at *
  rcases Nat.lt_trichotomy N (M * j) with g | g | g
  · exfalso
    have : (N + 1) * E ≤ M * j * E := Nat.mul_le_mul_right _ g
    rw [Nat.add_mul, Nat.one_mul] at this
    omega
  · exact g
  · exfalso
    have : (M * j + 1) * E ≤ N * E := Nat.mul_le_mul_right _ g
    rw [Nat.add_mul, Nat.one_mul] at this
    omega
theorem FromInt_parts {n : Int} (h0 : -2147483648 ≤ n) (h1 : n < 2147483648) (hz : n ≠ 0) : oman (FromIntG n) = ((n.natAbs * 2 ^ (63 - n.natAbs.log2) : Nat) : Int) ∧ oexp (FromIntG n) = -((63 - n.natAbs.log2 : Nat) : Int) ∧ n.natAbs.log2 ≤ 31 ∧ kindS (FromIntG n) = 1 := by
  have hm : n.natAbs ≠ 0 := by omega
  have e32n : (2 : Nat) ^ 32 = 4294967296 := by decide
  have hl : n.natAbs.log2 < 32 := (Nat.log2_lt hm).2 (by omega)
  obtain ⟨hu, hn, hs, hf, ho, he⟩ := small_read (decide (n < 0)) n.natAbs 0 hm (by omega) (by omega) (by omega)
  rw [← FromInt_eq n (by omega) (by omega) hz] at hu hn hs hf ho he
  exact ⟨ho, by rw [he]; omega, by omega, kind_some hs hf⟩
theorem divF_eq' (ng : Bool) (X Y : Nat) (x y : Int) (X0 : 9223372036854775808 ≤ X) (X1 : X < 18446744073709551616) (Y0 : 9223372036854775808 ≤ Y) (Y1 : Y < 18446744073709551616) (h0 : -2000 ≤ x) (h1 : x ≤ 2000) (h2 : -2000 ≤ y) (h3 : y ≤ 2000) :
    ∃ k : Nat, (k = 63 ∨ k = 64) ∧ 9223372036854775808 ≤ X * 2 ^ k / Y ∧ X * 2 ^ k / Y < 18446744073709551616 ∧ divF ng X x Y y = ((near2 ng (X * 2 ^ k / Y) (decide (X * 2 ^ k % Y ≠ 0)) (x - y - k) : Nat) : Int) := by
  have e63n : (2 : Nat) ^ 63 = 9223372036854775808 := by decide
  have e64n : (2 : Nat) ^ 64 = 18446744073709551616 := by decide
  unfold divF
  by_cases c : (Y : Int) ≤ X
  · rw [if_pos c]
    have q0 : 9223372036854775808 ≤ X * 9223372036854775808 / Y := by
      rw [Nat.le_div_iff_mul_le (by omega)]; omega
    have q1 : X * 9223372036854775808 / Y < 18446744073709551616 := by
      apply Nat.div_lt_of_lt_mul; omega
    refine ⟨63, .inl rfl, by rw [e63n]; exact q0, by rw [e63n]; exact q1, ?_⟩
    rw [e63n]
    have w1 : (X : Int) * 9223372036854775808 / Y = ((X * 9223372036854775808 / Y : Nat) : Int) := by
      rw [Int.natCast_ediv, Int.natCast_mul]; rfl
    have w2 : ((X : Int) * 9223372036854775808 % Y != 0) = decide (X * 9223372036854775808 % Y ≠ 0) := by
      have : (X : Int) * 9223372036854775808 % Y = ((X * 9223372036854775808 % Y : Nat) : Int) := by rw [Int.natCast_emod, Int.natCast_mul]; rfl
      rw [this, Bool.eq_iff_iff, bne_iff_ne, decide_eq_true_iff]; omega
    rw [w1, w2, nearG_eq ng _ _ _ q0 q1 (by omega) (by omega)]
    congr 2; omega
  · rw [if_neg c]
    have q0 : 9223372036854775808 ≤ X * 18446744073709551616 / Y := by
      rw [Nat.le_div_iff_mul_le (by omega)]; omega
    have q1 : X * 18446744073709551616 / Y < 18446744073709551616 := by
      apply Nat.div_lt_of_lt_mul; omega
    refine ⟨64, .inr rfl, by rw [e64n]; exact q0, by rw [e64n]; exact q1, ?_⟩
    rw [e64n]
    have w1 : (X : Int) * 18446744073709551616 / Y = ((X * 18446744073709551616 / Y : Nat) : Int) := by
      rw [Int.natCast_ediv, Int.natCast_mul]; rfl
    have w2 : ((X : Int) * 18446744073709551616 % Y != 0) = decide (X * 18446744073709551616 % Y ≠ 0) := by
      have : (X : Int) * 18446744073709551616 % Y = ((X * 18446744073709551616 % Y : Nat) : Int) := by rw [Int.natCast_emod, Int.natCast_mul]; rfl
      rw [this, Bool.eq_iff_iff, bne_iff_ne, decide_eq_true_iff]; omega
    rw [w1, w2, nearG_eq ng _ _ _ q0 q1 (by omega) (by omega)]
    congr 2
/-- the quotient of two whole numbers, as it is rounded. -/
theorem div_near {x y : Int} (x0 : -2147483648 ≤ x) (x1 : x < 2147483648) (y0 : -2147483648 ≤ y) (y1 : y < 2147483648) (hx : x ≠ 0) (hy : y ≠ 0) :
    ∃ k : Nat, (k = 63 ∨ k = 64) ∧ 9223372036854775808 ≤ x.natAbs * 2 ^ (63 - x.natAbs.log2) * 2 ^ k / (y.natAbs * 2 ^ (63 - y.natAbs.log2)) ∧ x.natAbs * 2 ^ (63 - x.natAbs.log2) * 2 ^ k / (y.natAbs * 2 ^ (63 - y.natAbs.log2)) < 18446744073709551616 ∧ y.natAbs * 2 ^ (63 - y.natAbs.log2) < 18446744073709551616 ∧ x.natAbs.log2 ≤ 31 ∧ y.natAbs.log2 ≤ 31 ∧
      DivG (FromIntG x) (FromIntG y) = ((near2 (decide (x < 0) ^^ decide (y < 0)) (x.natAbs * 2 ^ (63 - x.natAbs.log2) * 2 ^ k / (y.natAbs * 2 ^ (63 - y.natAbs.log2))) (decide (x.natAbs * 2 ^ (63 - x.natAbs.log2) * 2 ^ k % (y.natAbs * 2 ^ (63 - y.natAbs.log2)) ≠ 0)) (-((63 - x.natAbs.log2 : Nat) : Int) - -((63 - y.natAbs.log2 : Nat) : Int) - k) : Nat) : Int) := by
  have ux := FromInt_u64 (n := x) (by omega) (by omega)
  have uy := FromInt_u64 (n := y) (by omega) (by omega)
  obtain ⟨a1, a2, a3, a4⟩ := FromInt_parts x0 x1 hx
  obtain ⟨b1, b2, b3, b4⟩ := FromInt_parts y0 y1 hy
  have E : DivG (FromIntG x) (FromIntG y) = divF (ngX (FromIntG x) (FromIntG y)) (oman (FromIntG x)) (oexp (FromIntG x)) (oman (FromIntG y)) (oexp (FromIntG y)) := by simp [DivG, isNaN, isInf, isZ, a4, b4]
  rw [E, ngX_eq ux uy, FromInt_ng (by omega) (by omega), FromInt_ng (by omega) (by omega)]
  have zx : ¬ sz (FromIntG x) = 0 := fun c => by unfold kindS at a4; rw [if_pos c] at a4; exact absurd a4 (by decide)
  have zy : ¬ sz (FromIntG y) = 0 := fun c => by unfold kindS at b4; rw [if_pos c] at b4; exact absurd b4 (by decide)
  have ox := opened ux zx
  have oy := opened uy zy
  have p1 := ox.lo
  have p2 := ox.hi
  have p3 := oy.lo
  have p4 := oy.hi
  rw [a1] at p1 p2 ⊢
  rw [b1] at p3 p4 ⊢
  rw [a2, b2]
  obtain ⟨k, h1, h2, h2', h3⟩ := divF_eq' (decide (x < 0) ^^ decide (y < 0)) (x.natAbs * 2 ^ (63 - x.natAbs.log2)) (y.natAbs * 2 ^ (63 - y.natAbs.log2)) (-((63 - x.natAbs.log2 : Nat) : Int)) (-((63 - y.natAbs.log2 : Nat) : Int)) (by omega) (by omega) (by omega) (by omega) (by omega) (by omega) (by omega) (by omega)
  exact ⟨k, h1, h2, h2', by omega, a3, b3, h3⟩
theorem V_near {s : Bool} {q : Nat} {h : Bool} {p : Int} (hq : 9223372036854775808 ≤ q) (hq2 : q < 18446744073709551616) (p0 : -1074 ≤ p + 11) (p1 : p ≤ 900) : 
    V ((near2 s q h p : Nat) : Int) = rne q h 11 * 2 ^ (p + 11 + 1074).toNat ∧ rne q h 11 ≤ 9007199254740992 := by
  have hl : q.log2 = 63 := log2_63 hq hq2
  have e11 : (2 : Nat) ^ 11 = 2048 := by decide
  have eL : max (p + (q.log2 : Int) - 52) (-1074) = p + 11 := by rw [hl]; omega
  have z1 : rne q h 11 ≤ 9007199254740992 := by
    have := rne_le q h 11
    rw [e11] at this
    omega
  have z0 : 4503599627370496 ≤ rne q h 11 := by
    have := le_rne q h 11
    rw [e11] at this
    omega
  refine ⟨?_, z1⟩
  have e52n : (2 : Nat) ^ 52 = 4503599627370496 := by decide
  rw [near2_word]
  unfold rung
  rw [eL, show (p - (p + 11)).toNat = 0 by omega, show (p + 11 - p).toNat = 11 by omega, Nat.pow_zero, Nat.mul_one, e52n, infRung_d]
  generalize rne q h 11 = z at *
  obtain ⟨c, hc⟩ : ∃ c, (p + 11 + 1074).toNat = c := ⟨_, rfl⟩
  rw [hc]
  have hc2 : c ≤ 1985 := by omega
  clear hc eL hl
  have hm : min (c * 4503599627370496 + z) 9218868437227405312 = c * 4503599627370496 + z := Nat.min_eq_left (by omega)
  rw [hm]
  have hlt : c * 4503599627370496 + z < 9218868437227405312 := by omega
  have w := word_int s (c * 4503599627370496 + z) (by omega)
  rw [V_vr w.1, w.2.1, Int.toNat_natCast]
  by_cases t : z < 9007199254740992
  · obtain ⟨_, b2, b3, b4⟩ := rung_parts c z (by omega) z0 t
    unfold vr
    rw [if_neg b2, b3, b4]
  · have e : z = 9007199254740992 := by omega
    subst e
    unfold vr
    have h1 : (c * 4503599627370496 + 9007199254740992) / 4503599627370496 = c + 2 := by omega
    have h2 : (c * 4503599627370496 + 9007199254740992) % 4503599627370496 = 0 := by omega
    rw [if_neg (by omega), h1, h2, Nat.add_zero, show c + 2 - 1 = c + 1 by omega, Nat.pow_succ, Nat.mul_comm (2 ^ c), ← Nat.mul_assoc]
theorem half_mul (M j a k b : Nat) (hk : b ≤ a + k) (hM : 0 < M) : M * j * 2 ^ a * 2 ^ k / (M * 2 ^ b) = j * 2 ^ (a + k - b) ∧ M * j * 2 ^ a * 2 ^ k % (M * 2 ^ b) = 0 := by
  have e : M * j * 2 ^ a * 2 ^ k = j * 2 ^ (a + k - b) * (M * 2 ^ b) := by
    rw [Nat.mul_assoc, ← Nat.pow_add, Nat.mul_comm M (2 ^ b), ← Nat.mul_assoc, Nat.mul_assoc j, ← Nat.pow_add, show a + k - b + b = a + k by omega, Nat.mul_comm M j, Nat.mul_assoc j, Nat.mul_comm M, ← Nat.mul_assoc]
  rw [e]
  exact ⟨Nat.mul_div_cancel _ (Nat.mul_pos hM (Nat.two_pow_pos _)), Nat.mul_mod_left _ _⟩
theorem quick_div {x y : Int} (x0 : -2147483648 ≤ x) (x1 : x < 2147483648) (y0 : -2147483648 ≤ y) (y1 : y < 2147483648) :
    quick (NumberG (DivG (FromIntG x) (FromIntG y))) = if y = 0 ∨ x.tmod y ≠ 0 then (0, false) else some32 (x.tdiv y) (decide (y < 0)) := by
  have ux := FromInt_u64 (n := x) (by omega) (by omega)
  have uy := FromInt_u64 (n := y) (by omega) (by omega)
  by_cases hy : y = 0
  · subst hy
    rw [if_pos (.inl rfl), FromInt_zero]
    by_cases hx : x = 0
    · subst hx; rw [FromInt_zero]; decide +kernel
    · obtain ⟨_, _, _, k⟩ := FromInt_parts x0 x1 hx
      have E : DivG (FromIntG x) 0 = sgnG (ngX (FromIntG x) 0) 9218868437227405312 := by
        have k0 : kindS 0 = 0 := by decide +kernel
        simp [DivG, isNaN, isInf, isZ, k, k0]
      rw [E]
      cases ngX (FromIntG x) 0 <;> decide +kernel
  · by_cases hx : x = 0
    · subst hx
      obtain ⟨_, _, _, k⟩ := FromInt_parts y0 y1 hy
      have E : DivG (FromIntG 0) (FromIntG y) = sgnG (ngX (FromIntG 0) (FromIntG y)) 0 := by
        have k0 : kindS (FromIntG 0) = 0 := by decide +kernel
        simp [DivG, isNaN, isInf, isZ, k, k0]
      rw [E, ngX_eq ux uy, FromInt_ng (by omega) (by omega), FromInt_ng (by omega) (by omega), if_neg (by rw [Int.zero_tmod]; simp [hy]), Int.zero_tdiv]
      rw [decide_eq_false (show ¬ (0 : Int) < 0 by omega), Bool.false_xor]
      cases decide (y < 0) <;> decide +kernel
    · obtain ⟨k, hk, q0, q1, Y1, l1, l2, E⟩ := div_near x0 x1 y0 y1 hx hy
      have hN : x.natAbs ≠ 0 := by omega
      have hM : y.natAbs ≠ 0 := by omega
      rw [E]
      by_cases hd : x.tmod y = 0
      · rw [if_neg (by simp [hy, hd])]
        have hq : x = y * x.tdiv y := by
          have := Int.mul_tdiv_add_tmod x y
          rw [hd] at this; omega
        obtain ⟨t0, t1⟩ : -2147483648 ≤ x.tdiv y ∧ x.tdiv y ≤ 2147483648 := by
          have h : (x.tdiv y).natAbs ≤ x.natAbs := by rw [Int.natAbs_tdiv]; exact Nat.div_le_self _ _
          omega
        obtain ⟨j, hj⟩ : ∃ j, x.tdiv y = j := ⟨_, rfl⟩
        rw [hj] at hq t0 t1 ⊢
        have jz : j ≠ 0 := fun c => hx (by rw [hq, c, Int.mul_zero])
        have hNM : x.natAbs = y.natAbs * j.natAbs := by rw [hq, Int.natAbs_mul]
        have hs : (decide (x < 0) ^^ decide (y < 0)) = decide (j < 0) := by
          by_cases gy : y < 0
          · by_cases gj : j < 0
            · have : 0 < x := by rw [hq]; exact Int.mul_pos_of_neg_of_neg gy gj
              rw [decide_eq_true gy, decide_eq_true gj, decide_eq_false (by omega)]; rfl
            · have : x < 0 := by rw [hq]; exact Int.mul_neg_of_neg_of_pos gy (by omega)
              rw [decide_eq_true gy, decide_eq_false gj, decide_eq_true this]; rfl
          · by_cases gj : j < 0
            · have : x < 0 := by rw [hq]; exact Int.mul_neg_of_pos_of_neg (by omega) gj
              rw [decide_eq_false gy, decide_eq_true gj, decide_eq_true this]; rfl
            · have : 0 < x := by rw [hq]; exact Int.mul_pos (by omega) (by omega)
              rw [decide_eq_false gy, decide_eq_false gj, decide_eq_false (by omega)]; rfl
        generalize 63 - x.natAbs.log2 = a at *
        obtain ⟨b, hb⟩ : ∃ b, 63 - y.natAbs.log2 = b := ⟨_, rfl⟩
        have hb2 : b ≤ 63 := by omega
        rw [hb] at q0 q1 Y1 ⊢
        obtain ⟨e1, e2⟩ := half_mul y.natAbs j.natAbs a k b (by omega) (by omega)
        rw [hNM, e1, e2, hs, show decide ((0 : Nat) ≠ 0) = false from rfl, near2_scale _ _ _ _ (by omega), show -((a : Nat) : Int) - -(b : Int) - k + ((a + k - b : Nat) : Int) = 0 by omega, ← FromInt_eq j (by omega) (by omega) jz]
        unfold some32
        rw [beq_eq_false_iff_ne.2 jz, Bool.false_and, if_neg (by decide)]
        exact quick_whole (by omega) (by omega)
      · rw [if_pos (.inr hd)]
        have hu : U64 ((near2 (decide (x < 0) ^^ decide (y < 0)) (x.natAbs * 2 ^ (63 - x.natAbs.log2) * 2 ^ k / (y.natAbs * 2 ^ (63 - y.natAbs.log2))) (decide (x.natAbs * 2 ^ (63 - x.natAbs.log2) * 2 ^ k % (y.natAbs * 2 ^ (63 - y.natAbs.log2)) ≠ 0)) (-((63 - x.natAbs.log2 : Nat) : Int) - -((63 - y.natAbs.log2 : Nat) : Int) - k) : Nat) : Int) := by
          rw [← E]; exact div_u64 ux uy
        refine quick_num hu (fun j j0 j1 hj => hd ?_)
        have e := (FromInt_Whole hu (by rw [hj])).1
        rw [hj] at e
        have v := WP_FromInt (k := j) (by omega) (by omega)
        have e' : FromIntG j = _ := e
        rw [e'] at v
        have a32 : 32 ≤ 63 - x.natAbs.log2 ∧ 63 - x.natAbs.log2 ≤ 63 := by omega
        generalize 63 - x.natAbs.log2 = a at *
        obtain ⟨b, hb⟩ : ∃ b, 63 - y.natAbs.log2 = b := ⟨_, rfl⟩
        have hb2 : b ≤ 63 := by omega
        rw [hb] at q0 q1 Y1 v
        clear E hu hj e e'
        obtain ⟨v1, v2⟩ := V_near (s := (decide (x < 0) ^^ decide (y < 0))) (h := (decide (x.natAbs * 2 ^ a * 2 ^ k % (y.natAbs * 2 ^ b) ≠ 0))) (p := -(a : Int) - -(b : Int) - k) q0 q1 (by omega) (by omega)
        rw [v1] at v
        obtain ⟨D, hD⟩ : ∃ D, D + 11 + b = a + k := ⟨a + k - b - 11, by omega⟩
        have hUD : U = 2 ^ D * 2 ^ (-(a : Int) - -(b : Int) - k + 11 + 1074).toNat := by
          unfold U; rw [← Nat.pow_add]; congr 1; have := hP; omega
        rw [hUD, ← Nat.mul_assoc] at v
        have hz := Nat.eq_of_mul_eq_mul_right (Nat.two_pow_pos _) v
        have hpos : 0 < y.natAbs * 2 ^ b := Nat.mul_pos (by omega) (Nat.two_pow_pos _)
        have dm := Nat.div_add_mod (x.natAbs * 2 ^ a * 2 ^ k) (y.natAbs * 2 ^ b)
        obtain ⟨r1, r2⟩ := rne_near _ _ (x.natAbs * 2 ^ a * 2 ^ k) _ dm.symm (Nat.mod_lt _ hpos)
        rw [Nat.mul_assoc x.natAbs, ← Nat.pow_add] at r1 r2
        rw [Nat.mul_assoc x.natAbs, ← Nat.pow_add] at hz
        have key := whole_quotient (N := x.natAbs) (M := y.natAbs) (a := a) (b := b) (k := k) (j := j.natAbs) (D := D) (by omega) hz hD (by omega) Y1 r1 r2
        have : (y.natAbs : Nat) ∣ x.natAbs := ⟨_, key⟩
        exact Int.tmod_eq_zero_of_dvd (Int.natAbs_dvd_natAbs.1 this)
end Fp
