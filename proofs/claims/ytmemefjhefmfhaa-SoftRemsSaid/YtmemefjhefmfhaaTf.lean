/- The walks through math: Frexp, Mod. -/
import Derived.Test.YtmemefjhefmfhaaTc
import Derived.Test.YtmemefjhefmfhaaGh
namespace Go.Proofs.Ytmemefjhefmfhaa
open Go.RowKit Fp
set_option linter.unusedVariables false
set_option linter.unusedSimpArgs false
def fW (r : Int) : Int := ldW (normY r) 1022
theorem fW_parts {r : Int} (hr : Pos r) (h0 : r ≠ 0) : U64 (fW r) ∧ ngb (fW r) = false ∧ ¬ sz (fW r) = 0 ∧ sz (fW r) < 9218868437227405312 ∧ oman (fW r) = oman r ∧ oexp (fW r) = -64 := by
  have N := norm_of hr.u (by rw [hr.sz]; exact h0) hr.fin
  obtain ⟨h1, h2, h3, h4, h5, h6⟩ := ldW_parts (E := 1022) N (by omega) (by omega)
  refine ⟨h1, by rw [fW, h2, hr.ng], h3, h4, h5, by rw [fW, h6]; rfl⟩
theorem fr_less {r y : Int} (hr : Pos r) (r0 : r ≠ 0) (hy : Pos y) (y0 : y ≠ 0) : (FloatKind.f64.format.order (fW r).toNat (fW y).toNat == some .lt) = decide (oman r < oman y) := by
  obtain ⟨a1, a2, a3, a4, a5, a6⟩ := fW_parts hr r0
  obtain ⟨b1, b2, b3, b4, b5, b6⟩ := fW_parts hy y0
  have h := Less_ok a1 b1
  have oa := (opened a1 a3).lo
  have ob := (opened b1 b3).lo
  have va := V_open a1 a3
  have vb := V_open b1 b3
  rw [a5, a6] at va
  rw [b5, b6] at vb
  rw [a5] at oa
  rw [b5] at ob
  rw [show (FloatKind.f64.format.order (fW r).toNat (fW y).toNat == some .lt) = _ from h, LessG_SR a1 b1 (fin_num a4).1 (fin_num b4).1]
  have e1 : (SR (fW r) < SR (fW y)) ↔ (oman r < oman y) := by
    rw [← SV_SR a1 b1]
    unfold SV
    rw [a2, b2, if_neg (by decide), if_neg (by decide)]
    have p := Nat.two_pow_pos 64
    have q := Nat.two_pow_pos ((-64 : Int) + 1138).toNat
    generalize ((-64 : Int) + 1138).toNat = k at *
    constructor
    · intro g
      have g2 : V (fW r) * 2 ^ 64 < V (fW y) * 2 ^ 64 := Nat.mul_lt_mul_of_pos_right (by omega) p
      rw [va, vb] at g2
      have := Nat.lt_of_mul_lt_mul_right g2
      omega
    · intro g
      have g2 : (oman r).toNat * 2 ^ k < (oman y).toNat * 2 ^ k := Nat.mul_lt_mul_of_pos_right (by omega) q
      rw [← va, ← vb] at g2
      have := Nat.lt_of_mul_lt_mul_right g2
      omega
  exact decide_eq_decide.2 e1
theorem frexp_calls (x : Int) (hr : Pos x) (h0 : x ≠ 0) (w : World) : Calls Try.prog 76 #[.float .f64 x.toNat] w fun e' w' => e' = .returned (.tuple #[.float .f64 (fW x).toNat, .int .i64 (oexp x + 64)]) ∧ w' = w := by
  have hx := hr.u
  have zx : ¬ sz x = 0 := by rw [hr.sz]; exact h0
  have fx := hr.fin
  obtain ⟨hn, hi⟩ := num_of_fin fx
  have N := norm_of hx zx fx
  have HN := fun w => normalize_calls x hx zx fx w
  have HI := fun w => IsInf0_calls x hx w
  have HM := fun w => mIsNaN_calls x hx w
  have HZ := zero_test hx zx
  rw [hn] at HM
  rw [hi] at HI
  have hw : fW x = ldW (normY x) 1022 := rfl
  obtain ⟨Y, hY⟩ : ∃ y, normY x = y := ⟨_, rfl⟩
  obtain ⟨K, hK⟩ : ∃ y, normE x = y := ⟨_, rfl⟩
  have hk : K = 0 ∨ K = -52 := by rw [← hK]; unfold normE; split <;> simp
  rw [hY] at hw
  rw [hY, hK] at N HN
  have eY : ((Y.toNat : Nat) : Int) = Y := by have := N.u.lo; omega
  have hb := bits_run Y.toNat
  rw [eY] at hb
  replace HN := Lib.hid HN
  replace HI := Lib.hid HI
  replace HM := Lib.hid HM
  have y0 := N.u.lo
  have y1 := N.u.hi
  have HNo := Lib.hid N
  obtain ⟨F, hF⟩ : ∃ f, fW x = f := ⟨_, rfl⟩
  rw [hF] at hw ⊢
  have hW : Go.bits .or .u64 (Go.bits .andNot .u64 Y 9218868437227405312) 4602678819172646912 = F := by rw [hw]; rfl
  have hg := frombits_run F
  obtain ⟨EX, hE⟩ : ∃ e, oexp x + 64 = e := ⟨_, rfl⟩
  rw [hE]
  have ex := N.ex
  have hFd : Go.bits .and .u64 (Y / 4503599627370496) 2047 = oexp Y + 1086 := by
    rw [← field_and N, i64_and2047]
    obtain ⟨n, rfl⟩ := Int.eq_ofNat_of_zero_le y0
    have h := and_mask (n / 4503599627370496) 11 (by omega) (by omega)
    rw [show ((2 ^ 11 - 1 : Nat) : Int) = 2047 from rfl] at h
    rw [show ((n : Int) / 4503599627370496) = ((n / 4503599627370496 : Nat) : Int) by omega, h, show (2 : Nat) ^ 11 = 2048 by decide]
    omega
  have f0 := N.f0
  have f1 := N.f1
  obtain ⟨fld, hfl⟩ : ∃ f, oexp Y + 1086 = f := ⟨_, rfl⟩
  rw [hfl] at hFd
  have hEX : K + (fld - 1023 + 1) = EX := by omega
  have fl0 : 1 ≤ fld := by omega
  have fl1 : fld ≤ 2046 := by omega
  clear N hx zx fx hn hi eY hY hK hF hw hE ex f0 f1 hfl h0 hr
  obtain ⟨v, hv⟩ : ∃ v, x.toNat = v := ⟨_, rfl⟩
  rw [hv] at HZ HN HI HM ⊢
  clear hv
  obtain ⟨u, hu⟩ : ∃ v, Y.toNat = v := ⟨_, rfl⟩
  rw [hu] at HN hb
  clear hu HNo
  generalize F.toNat = z at *
  go_enter Try.func76, Try.ntmps76
  go_wp2_with (first | (go_at_call 18; refine (HI.out _).mono ?_; rintro e w' ⟨rfl, rfl⟩) | (go_at_call 68; refine (HM.out _).mono ?_; rintro e w' ⟨rfl, rfl⟩) | (go_at_call 69; refine (HN.out _).mono ?_; rintro e w' ⟨rfl, rfl⟩))
  all_goals go_ret2
  all_goals exact ⟨rfl, rfl⟩
theorem Frexp_calls (x : Int) (hr : Pos x) (h0 : x ≠ 0) (w : World) : Calls Try.prog 73 #[.float .f64 x.toNat] w fun e' w' => e' = .returned (.tuple #[.float .f64 (fW x).toNat, .int .i64 (oexp x + 64)]) ∧ w' = w := by
  have HF := fun w => frexp_calls x hr h0 w
  generalize (fW x).toNat = z at *
  generalize oexp x + 64 = e at *
  generalize x.toNat = v at *
  replace HF := Lib.hid HF
  clear hr h0
  go_enter Try.func73, Try.ntmps73
  go_wp2_with (first | (go_at_call 76; refine (HF.out _).mono ?_; rintro e w' ⟨rfl, rfl⟩))
  go_ret2
  exact ⟨rfl, rfl⟩
theorem neg_word {a : Int} (ha : U64 a) (hn : isNaN a = false) : Op.negFloat .f64 a.toNat = (negG a).toNat := by
  have h := neg_bits ha
  have h2 := (neg_num ha hn).1
  unfold OfG at h
  split at h
  · rw [← h] at h2; exact absurd C_isNaN (by rw [h2]; decide)
  · omega
theorem less0 {a : Int} (ha : U64 a) (fa : sz a < 9218868437227405312) : (FloatKind.f64.format.order a.toNat 0 == some .lt) = (ngb a && decide (sz a ≠ 0)) := by
  by_cases z : sz a = 0
  · have h := Less_ok ha zero_u64
    rw [show (0 : Int).toNat = 0 from rfl] at h
    rw [show (FloatKind.f64.format.order a.toNat 0 == some .lt) = _ from h, LessG_SR ha zero_u64 (num_of_fin fa).1 (by decide +kernel), SR_zero]
    have : SR a = 0 := by unfold SR; rw [z]; cases ngb a <;> rfl
    rw [this, z]; simp
  · rw [neg_test ha z fa, decide_eq_true z, Bool.and_true]
/-- the order of two that are not less than 0. -/
theorem pos_order {r y : Int} (hr : Pos r) (hy : Pos y) : FloatKind.f64.format.order r.toNat y.toNat = some (compare r y) := by
  have h := order_SR hr.u hy.u (num_of_fin hr.fin).1 (num_of_fin hy.fin).1
  rw [hr.SR, hy.SR] at h
  exact h
theorem sz_pos {a : Int} (ha : U64 a) (fa : sz a < 9218868437227405312) : Pos (sz a) := ⟨sz_nonneg ha, fa⟩
set_option maxRecDepth 100000 in
theorem mod_small (a b : Int) (ha : U64 a) (hb : U64 b) (fa : sz a < 9218868437227405312) (fb : sz b < 9218868437227405312) (zb : ¬ sz b = 0) (hs : sz a < sz b) (w : World) :
    Calls Try.prog 63 #[.float .f64 a.toNat, .float .f64 b.toNat] w fun e' w' => e' = .returned (.float .f64 a.toNat) ∧ w' = w := by
  have pa := sz_pos ha fa
  have pb := sz_pos hb fb
  have HZ := zero_test hb zb
  have HI := fun w => IsInf0_calls a ha w
  have HM := fun w => mIsNaN_calls a ha w
  have HN := fun w => mIsNaN_calls b hb w
  have HA := fun w => Abs_calls b hb w
  have HF := fun w => Frexp_calls (sz b) pb zb w
  have HL := less0 ha fa
  obtain ⟨n1, i1⟩ := num_of_fin fa
  obtain ⟨n2, i2⟩ := num_of_fin fb
  rw [n1] at HM
  rw [n2] at HN
  rw [i1] at HI
  have HO := pos_order pa pb
  rw [cmp_lt hs] at HO
  have hn := neg_word ha n1
  have hn2 := neg_word pa.u (num_of_fin pa.fin).1
  cases hg : (ngb a && decide (sz a ≠ 0))
  · rw [hg] at HL
    have HO2 : FloatKind.f64.format.order a.toNat (sz b).toNat = some .lt := by
      have h := order_SR ha pb.u n1 (num_of_fin pb.fin).1
      have : SR a < SR (sz b) := by
        rw [pb.SR]
        have := sz_nonneg ha
        unfold SR; split <;> omega
      rw [cmp_lt this] at h
      exact h
    clear hg hn hn2 HO pa pb fa fb zb hs n1 n2 i1 i2 ha hb
    generalize a.toNat = x at *
    generalize b.toNat = y at *
    generalize (sz b).toNat = z at *
    generalize (fW (sz b)).toNat = f at *
    generalize oexp (sz b) + 64 = e at *
    replace HI := Lib.hid HI
    replace HM := Lib.hid HM
    replace HN := Lib.hid HN
    replace HA := Lib.hid HA
    replace HF := Lib.hid HF
    go_enter Try.func63, Try.ntmps63
    go_wp2_with (first | (go_at_call 18; refine (HI.out _).mono ?_; rintro e w' ⟨rfl, rfl⟩) | (go_at_call 68; with_reducible first | (refine (HM.out _).mono ?_; rintro e w' ⟨rfl, rfl⟩) | (refine (HN.out _).mono ?_; rintro e w' ⟨rfl, rfl⟩)) | (go_at_call 42; refine (HA.out _).mono ?_; rintro e w' ⟨rfl, rfl⟩) | (go_at_call 73; refine (HF.out _).mono ?_; rintro e w' ⟨rfl, rfl⟩))
    go_loop [7] (fun c => c = .float .f64 x) (fun _ => 0)
    case atStart => rfl
    case round =>
      subst hrel
      go_wp2
      go_ret
      exact ⟨rfl, rfl⟩
  · rw [hg] at HL
    rw [Bool.and_eq_true] at hg
    have hn3 : negG a = sz a := by
      obtain ⟨f1, f2, f3, f4⟩ := neg_num ha n1
      have := sz_eq f4
      have l0 := f4.lo
      have l1 := f4.hi
      rw [hg.1] at f3
      have f5 : ¬ 9223372036854775808 ≤ negG a := of_decide_eq_false f3
      omega
    rw [hn3] at hn
    have hn4 : negG (sz a) = a := by rw [← hn3, neg_neg' ha n1]
    rw [hn4] at hn2
    have NX : ∀ w, (Op.unary UnOp.neg (.float .f64 a.toNat)).run Try.prog w = .ok (.float .f64 (Op.negFloat .f64 a.toNat)) w := fun _ => rfl
    have NY : ∀ w, (Op.unary UnOp.neg (.float .f64 (sz a).toNat)).run Try.prog w = .ok (.float .f64 (Op.negFloat .f64 (sz a).toNat)) w := fun _ => rfl
    rw [hn] at NX
    rw [hn2] at NY
    clear hg hn hn2 hn3 hn4 pa pb fa fb zb hs n1 n2 i1 i2 ha hb
    generalize a.toNat = x at *
    generalize (sz a).toNat = r at *
    generalize (sz b).toNat = z at *
    generalize b.toNat = y at *
    generalize (fW (sz b)).toNat = f at *
    generalize oexp (sz b) + 64 = e at *
    replace HI := Lib.hid HI
    replace HM := Lib.hid HM
    replace HN := Lib.hid HN
    replace HA := Lib.hid HA
    replace HF := Lib.hid HF
    go_enter Try.func63, Try.ntmps63
    go_wp2_with (first | (go_at_call 18; refine (HI.out _).mono ?_; rintro e w' ⟨rfl, rfl⟩) | (go_at_call 68; with_reducible first | (refine (HM.out _).mono ?_; rintro e w' ⟨rfl, rfl⟩) | (refine (HN.out _).mono ?_; rintro e w' ⟨rfl, rfl⟩)) | (go_at_call 42; refine (HA.out _).mono ?_; rintro e w' ⟨rfl, rfl⟩) | (go_at_call 73; refine (HF.out _).mono ?_; rintro e w' ⟨rfl, rfl⟩))
    go_loop [7] (fun c => c = .float .f64 r) (fun _ => 0)
    case atStart => rfl
    case round =>
      subst hrel
      go_wp2
      go_ret
      exact ⟨rfl, rfl⟩
end Go.Proofs.Ytmemefjhefmfhaa
