/- The walks through math: Frexp, Mod. -/
import Derived.Test.YtkiakflmoplmeaaTc
import Derived.Test.YtkiakflmoplmeaaGf
namespace Go.Proofs.Ytkiakflmoplmeaa
open Go.RowKit Fp
set_option linter.unusedVariables false
set_option linter.unusedSimpArgs false
def fW (r : Int) : Int := ldW (normY r) 1022
theorem fW_parts {r : Int} (hr : Pos r) (h0 : r ≠ 0) : U64 (fW r) ∧ ngb (fW r) = false ∧ ¬ sz (fW r) = 0 ∧ sz (fW r) < 9218868437227405312 ∧ oman (fW r) = oman r ∧ oexp (fW r) = -64 := by
  have N := norm_of hr.u (by rw [hr.sz]; exact h0) hr.fin
  obtain ⟨h1, h2, h3, h4, h5, h6⟩ := ldW_parts (E := 1022) N (by omega) (by omega)
  refine ⟨h1, by rw [fW, h2, hr.ng], h3, h4, h5, by rw [fW, h6]; rfl⟩
theorem fr_less {r y : Int} (hr : Pos r) (r0 : r ≠ 0) (hy : Pos y) (y0 : y ≠ 0) : (FloatKind.f64.format.order (fW r).toNat (fW y).toNat == some .lt) = decide (oman r < oman y) := by
  obtain ⟨a1, a2, a3, a4, a5, a6⟩ := fW_parts hr r0
  obtain ⟨b1, b2, b3, b4, b5, b6⟩ := fW_parts hy y0
  have h := Less_ok a1 b1
  have oa := (opened a1 a3).lo
  have ob := (opened b1 b3).lo
  have va := V_open a1 a3
  have vb := V_open b1 b3
  rw [a5, a6] at va
  rw [b5, b6] at vb
  rw [a5] at oa
  rw [b5] at ob
  rw [show (FloatKind.f64.format.order (fW r).toNat (fW y).toNat == some .lt) = _ from h, LessG_SR a1 b1 (fin_num a4).1 (fin_num b4).1]
  have e1 : (SR (fW r) < SR (fW y)) ↔ (oman r < oman y) := by
    rw [← SV_SR a1 b1]
    unfold SV
    rw [a2, b2, if_neg (by decide), if_neg (by decide)]
    have p := Nat.two_pow_pos 64
    have q := Nat.two_pow_pos ((-64 : Int) + 1138).toNat
    generalize ((-64 : Int) + 1138).toNat = k at *
    constructor
    · intro g
      have g2 : V (fW r) * 2 ^ 64 < V (fW y) * 2 ^ 64 := Nat.mul_lt_mul_of_pos_right (by omega) p
      rw [va, vb] at g2
      have := Nat.lt_of_mul_lt_mul_right g2
      omega
    · intro g
      have g2 : (oman r).toNat * 2 ^ k < (oman y).toNat * 2 ^ k := Nat.mul_lt_mul_of_pos_right (by omega) q
      rw [← va, ← vb] at g2
      have := Nat.lt_of_mul_lt_mul_right g2
      omega
  exact decide_eq_decide.2 e1
theorem frexp_calls (x : Int) (hr : Pos x) (h0 : x ≠ 0) (w : World) : Calls Try.prog 88 #[.float .f64 x.toNat] w fun e' w' => e' = .returned (.tuple #[.float .f64 (fW x).toNat, .int .i64 (oexp x + 64)]) ∧ w' = w := by
  have hx := hr.u
  have zx : ¬ sz x = 0 := by rw [hr.sz]; exact h0
  have fx := hr.fin
  obtain ⟨hn, hi⟩ := num_of_fin fx
  have N := norm_of hx zx fx
  have HN := fun w => normalize_calls x hx zx fx w
  have HI := fun w => IsInf0_calls x hx w
  have HM := fun w => mIsNaN_calls x hx w
  have HZ := zero_test hx zx
  rw [hn] at HM
  rw [hi] at HI
  have hw : fW x = ldW (normY x) 1022 := rfl
  obtain ⟨Y, hY⟩ : ∃ y, normY x = y := ⟨_, rfl⟩
  obtain ⟨K, hK⟩ : ∃ y, normE x = y := ⟨_, rfl⟩
  have hk : K = 0 ∨ K = -52 := by rw [← hK]; unfold normE; split <;> simp
  rw [hY] at hw
  rw [hY, hK] at N HN
  have eY : ((Y.toNat : Nat) : Int) = Y := by have := N.u.lo; omega
  have hb := bits_run Y.toNat
  rw [eY] at hb
  replace HN := Lib.hid HN
  replace HI := Lib.hid HI
  replace HM := Lib.hid HM
  have y0 := N.u.lo
  have y1 := N.u.hi
  have HNo := Lib.hid N
  obtain ⟨F, hF⟩ : ∃ f, fW x = f := ⟨_, rfl⟩
  rw [hF] at hw ⊢
  have hW : Go.bits .or .u64 (Go.bits .andNot .u64 Y 9218868437227405312) 4602678819172646912 = F := by rw [hw]; rfl
  have hg := frombits_run F
  obtain ⟨EX, hE⟩ : ∃ e, oexp x + 64 = e := ⟨_, rfl⟩
  rw [hE]
  have ex := N.ex
  have hFd : Go.bits .and .u64 (Y / 4503599627370496) 2047 = oexp Y + 1086 := by
    rw [← field_and N, i64_and2047]
    obtain ⟨n, rfl⟩ := Int.eq_ofNat_of_zero_le y0
    have h := and_mask (n / 4503599627370496) 11 (by omega) (by omega)
    rw [show ((2 ^ 11 - 1 : Nat) : Int) = 2047 from rfl] at h
    rw [show ((n : Int) / 4503599627370496) = ((n / 4503599627370496 : Nat) : Int) by omega, h, show (2 : Nat) ^ 11 = 2048 by decide]
    omega
  have f0 := N.f0
  have f1 := N.f1
  obtain ⟨fld, hfl⟩ : ∃ f, oexp Y + 1086 = f := ⟨_, rfl⟩
  rw [hfl] at hFd
  have hEX : K + (fld - 1023 + 1) = EX := by omega
  have fl0 : 1 ≤ fld := by omega
  have fl1 : fld ≤ 2046 := by omega
  clear N hx zx fx hn hi eY hY hK hF hw hE ex f0 f1 hfl h0 hr
  obtain ⟨v, hv⟩ : ∃ v, x.toNat = v := ⟨_, rfl⟩
  rw [hv] at HZ HN HI HM ⊢
  clear hv
  obtain ⟨u, hu⟩ : ∃ v, Y.toNat = v := ⟨_, rfl⟩
  rw [hu] at HN hb
  clear hu HNo
  generalize F.toNat = z at *
  go_enter Try.func88, Try.ntmps88
  go_wp2_with (first | (go_at_call 73; refine (HI.out _).mono ?_; rintro e w' ⟨rfl, rfl⟩) | (go_at_call 78; refine (HM.out _).mono ?_; rintro e w' ⟨rfl, rfl⟩) | (go_at_call 91; refine (HN.out _).mono ?_; rintro e w' ⟨rfl, rfl⟩))
  all_goals go_ret2
  all_goals exact ⟨rfl, rfl⟩
theorem Frexp_calls (x : Int) (hr : Pos x) (h0 : x ≠ 0) (w : World) : Calls Try.prog 84 #[.float .f64 x.toNat] w fun e' w' => e' = .returned (.tuple #[.float .f64 (fW x).toNat, .int .i64 (oexp x + 64)]) ∧ w' = w := by
  have HF := fun w => frexp_calls x hr h0 w
  generalize (fW x).toNat = z at *
  generalize oexp x + 64 = e at *
  generalize x.toNat = v at *
  replace HF := Lib.hid HF
  clear hr h0
  go_enter Try.func84, Try.ntmps84
  go_wp2_with (first | (go_at_call 88; refine (HF.out _).mono ?_; rintro e w' ⟨rfl, rfl⟩))
  go_ret2
  exact ⟨rfl, rfl⟩
theorem neg_word {a : Int} (ha : U64 a) (hn : isNaN a = false) : Op.negFloat .f64 a.toNat = (negG a).toNat := by
  have h := neg_bits ha
  have h2 := (neg_num ha hn).1
  unfold OfG at h
  split at h
  · rw [← h] at h2; exact absurd C_isNaN (by rw [h2]; decide)
  · omega
theorem less0 {a : Int} (ha : U64 a) (fa : sz a < 9218868437227405312) : (FloatKind.f64.format.order a.toNat 0 == some .lt) = (ngb a && decide (sz a ≠ 0)) := by
  by_cases z : sz a = 0
  · have h := Less_ok ha zero_u64
    rw [show (0 : Int).toNat = 0 from rfl] at h
    rw [show (FloatKind.f64.format.order a.toNat 0 == some .lt) = _ from h, LessG_SR ha zero_u64 (num_of_fin fa).1 (by decide +kernel), SR_zero]
    have : SR a = 0 := by unfold SR; rw [z]; cases ngb a <;> rfl
    rw [this, z]; simp
  · rw [neg_test ha z fa, decide_eq_true z, Bool.and_true]
/-- the order of two that are not less than 0. -/
theorem pos_order {r y : Int} (hr : Pos r) (hy : Pos y) : FloatKind.f64.format.order r.toNat y.toNat = some (compare r y) := by
  have h := order_SR hr.u hy.u (num_of_fin hr.fin).1 (num_of_fin hy.fin).1
  rw [hr.SR, hy.SR] at h
  exact h
theorem sz_pos {a : Int} (ha : U64 a) (fa : sz a < 9218868437227405312) : Pos (sz a) := ⟨sz_nonneg ha, fa⟩
set_option maxRecDepth 100000 in
theorem mod_small (a b : Int) (ha : U64 a) (hb : U64 b) (fa : sz a < 9218868437227405312) (fb : sz b < 9218868437227405312) (zb : ¬ sz b = 0) (hs : sz a < sz b) (w : World) :
    Calls Try.prog 76 #[.float .f64 a.toNat, .float .f64 b.toNat] w fun e' w' => e' = .returned (.float .f64 a.toNat) ∧ w' = w := by
  have pa := sz_pos ha fa
  have pb := sz_pos hb fb
  have HZ := zero_test hb zb
  have HI := fun w => IsInf0_calls a ha w
  have HM := fun w => mIsNaN_calls a ha w
  have HN := fun w => mIsNaN_calls b hb w
  have HA := fun w => Abs_calls b hb w
  have HF := fun w => Frexp_calls (sz b) pb zb w
  have HL := less0 ha fa
  obtain ⟨n1, i1⟩ := num_of_fin fa
  obtain ⟨n2, i2⟩ := num_of_fin fb
  rw [n1] at HM
  rw [n2] at HN
  rw [i1] at HI
  have HO := pos_order pa pb
  rw [cmp_lt hs] at HO
  have hn := neg_word ha n1
  have hn2 := neg_word pa.u (num_of_fin pa.fin).1
  cases hg : (ngb a && decide (sz a ≠ 0))
  · rw [hg] at HL
    have HO2 : FloatKind.f64.format.order a.toNat (sz b).toNat = some .lt := by
      have h := order_SR ha pb.u n1 (num_of_fin pb.fin).1
      have : SR a < SR (sz b) := by
        rw [pb.SR]
        have := sz_nonneg ha
        unfold SR; split <;> omega
      rw [cmp_lt this] at h
      exact h
    clear hg hn hn2 HO pa pb fa fb zb hs n1 n2 i1 i2 ha hb
    generalize a.toNat = x at *
    generalize b.toNat = y at *
    generalize (sz b).toNat = z at *
    generalize (fW (sz b)).toNat = f at *
    generalize oexp (sz b) + 64 = e at *
    replace HI := Lib.hid HI
    replace HM := Lib.hid HM
    replace HN := Lib.hid HN
    replace HA := Lib.hid HA
    replace HF := Lib.hid HF
    go_enter Try.func76, Try.ntmps76
    go_wp2_with (first | (go_at_call 73; refine (HI.out _).mono ?_; rintro e w' ⟨rfl, rfl⟩) | (go_at_call 78; with_reducible first | (refine (HM.out _).mono ?_; rintro e w' ⟨rfl, rfl⟩) | (refine (HN.out _).mono ?_; rintro e w' ⟨rfl, rfl⟩)) | (go_at_call 80; refine (HA.out _).mono ?_; rintro e w' ⟨rfl, rfl⟩) | (go_at_call 84; refine (HF.out _).mono ?_; rintro e w' ⟨rfl, rfl⟩))
    go_loop [7] (fun c => c = .float .f64 x) (fun _ => 0)
    case atStart => rfl
    case round =>
      subst hrel
      go_wp2
      go_ret
      exact ⟨rfl, rfl⟩
  · rw [hg] at HL
    rw [Bool.and_eq_true] at hg
    have hn3 : negG a = sz a := by
      obtain ⟨f1, f2, f3, f4⟩ := neg_num ha n1
      have := sz_eq f4
      have l0 := f4.lo
      have l1 := f4.hi
      rw [hg.1] at f3
      have f5 : ¬ 9223372036854775808 ≤ negG a := of_decide_eq_false f3
      omega
    rw [hn3] at hn
    have hn4 : negG (sz a) = a := by rw [← hn3, neg_neg' ha n1]
    rw [hn4] at hn2
    have NX : ∀ w, (Op.unary UnOp.neg (.float .f64 a.toNat)).run Try.prog w = .ok (.float .f64 (Op.negFloat .f64 a.toNat)) w := fun _ => rfl
    have NY : ∀ w, (Op.unary UnOp.neg (.float .f64 (sz a).toNat)).run Try.prog w = .ok (.float .f64 (Op.negFloat .f64 (sz a).toNat)) w := fun _ => rfl
    rw [hn] at NX
    rw [hn2] at NY
    clear hg hn hn2 hn3 hn4 pa pb fa fb zb hs n1 n2 i1 i2 ha hb
    generalize a.toNat = x at *
    generalize (sz a).toNat = r at *
    generalize (sz b).toNat = z at *
    generalize b.toNat = y at *
    generalize (fW (sz b)).toNat = f at *
    generalize oexp (sz b) + 64 = e at *
    replace HI := Lib.hid HI
    replace HM := Lib.hid HM
    replace HN := Lib.hid HN
    replace HA := Lib.hid HA
    replace HF := Lib.hid HF
    go_enter Try.func76, Try.ntmps76
    go_wp2_with (first | (go_at_call 73; refine (HI.out _).mono ?_; rintro e w' ⟨rfl, rfl⟩) | (go_at_call 78; with_reducible first | (refine (HM.out _).mono ?_; rintro e w' ⟨rfl, rfl⟩) | (refine (HN.out _).mono ?_; rintro e w' ⟨rfl, rfl⟩)) | (go_at_call 80; refine (HA.out _).mono ?_; rintro e w' ⟨rfl, rfl⟩) | (go_at_call 84; refine (HF.out _).mono ?_; rintro e w' ⟨rfl, rfl⟩))
    go_loop [7] (fun c => c = .float .f64 r) (fun _ => 0)
    case atStart => rfl
    case round =>
      subst hrel
      go_wp2
      go_ret
      exact ⟨rfl, rfl⟩
end Go.Proofs.Ytkiakflmoplmeaa
namespace Go.Proofs.Ytkiakflmoplmeaa
open Go.RowKit Fp
set_option linter.unusedVariables false
set_option linter.unusedSimpArgs false
def fbits : Value → Nat
  | .float _ b => b
  | _ => 0
/-- what math's mod makes of a by b. -/
def modW (a b : Int) : Int := sgnG (ngb a) ((rungN (V a % V b) (-1074) : Nat) : Int)
structure MInv (y : Int) (N : Nat) (r : Int) : Prop where
  pos : Pos r
  eq : V r % V y = N
theorem MInv.last {y : Int} {N : Nat} {r : Int} (k : MInv y N r) (hy : Pos y) (h : r < y) : ((rungN N (-1074) : Nat) : Int) = r := by
  have hl := (k.pos.lt hy).2 h
  have e := k.eq
  rw [Nat.mod_eq_of_lt hl] at e
  obtain ⟨u, u1, u2, u3⟩ := rep (V r) (mant r).toNat (pl r + 1074).toNat rfl (mant_lt k.pos.u) k.pos.below
  obtain ⟨p1, p2⟩ := Pos.of u2 u3
  rw [← e, u1]
  have h1 := p1.lt k.pos
  have h2 := k.pos.lt p1
  omega
theorem neg_sgn {r : Int} (h : Pos r) : negG r = sgnG true r := by
  obtain ⟨f1, f2, f3, f4⟩ := neg_num h.u (num_of_fin h.fin).1
  have l0 := h.lo
  have l1 := h.hi
  rw [sgn_eq h.lo (by omega), if_pos rfl]
  have := sz_eq f4
  rw [f2, h.sz] at this
  rw [h.ng] at f3
  have f5 : 9223372036854775808 ≤ negG r := of_decide_eq_true f3
  have := f4.hi
  omega
theorem sub_some' {a b : Int} (ha : U64 a) (hb : U64 b) (h : isNaN (SubG a b) = false) : floatBits .sub .f64 a.toNat b.toNat = some (SubG a b).toNat := by
  show Ieee.double.sub a.toNat b.toNat = _
  have e := sub_ok ha hb
  cases hm : Ieee.double.sub a.toNat b.toNat with
  | none => rw [hm] at e; rw [e] at h; exact absurd C_isNaN (by rw [show (9221120237041090560 : Int) = ofO none from rfl, h]; decide)
  | some r => rw [hm] at e; rw [e]; show some r = some ((r : Int).toNat); rw [Int.toNat_natCast]
--MOD--
set_option maxRecDepth 100000 in
theorem mod_loop0 (a b : Int) (ha : U64 a) (hb : U64 b) (fa : sz a < 9218868437227405312) (fb : sz b < 9218868437227405312) (zb : ¬ sz b = 0) (hs : sz b ≤ sz a) (ng : ngb a = false) (w : World) :
    Calls Try.prog 76 #[.float .f64 a.toNat, .float .f64 b.toNat] w fun e' w' => e' = .returned (.float .f64 (modW a b).toNat) ∧ w' = w := by
  have pa := sz_pos ha fa
  have pb := sz_pos hb fb
  have za : ¬ sz a = 0 := by have := pb.lo; omega
  have HZ := zero_test hb zb
  have HI := fun w => IsInf0_calls a ha w
  have HM := fun w => mIsNaN_calls a ha w
  have HN := fun w => mIsNaN_calls b hb w
  have HA := fun w => Abs_calls b hb w
  have HF := fun w => Frexp_calls (sz b) pb zb w
  have HL := neg_test ha za fa
  rw [ng] at HL
  obtain ⟨n1, i1⟩ := num_of_fin fa
  obtain ⟨n2, i2⟩ := num_of_fin fb
  rw [n1] at HM
  rw [n2] at HN
  rw [i1] at HI
  have hn := neg_word ha n1
  have st : MInv (sz b) (V a % V b) (sz a) := ⟨pa, by rw [V_sz pa.u ha pa.sz, V_sz pb.u hb pb.sz]⟩
  have HE : ∀ r, MInv (sz b) (V a % V b) r → r < sz b → modW a b = sgnG false r := fun r k hl => by
    unfold modW; rw [ng, k.last pb hl]
  have HX := Lib.hid HE
  have PB := Lib.hid (And.intro pb zb)
  have ST := Lib.hid st
  obtain ⟨N, hN⟩ : ∃ n, V a % V b = n := ⟨_, rfl⟩
  rw [hN] at ST HX
  obtain ⟨M, hM⟩ : ∃ n, modW a b = n := ⟨_, rfl⟩
  rw [hM] at HX ⊢
  have hsa : sz a = a := by
    have h1 := sz_eq ha
    have h2 : ¬ 9223372036854775808 ≤ a := of_decide_eq_false ng
    have := ha.lo
    omega
  rw [← hsa] at HL HI HM ⊢
  clear hN hM HE st hn ng n1 n2 i1 i2 ha fa fb zb hs pa pb za hsa
  obtain ⟨r0, hr0⟩ : ∃ r, sz a = r := ⟨_, rfl⟩
  obtain ⟨yw, hy⟩ : ∃ r, sz b = r := ⟨_, rfl⟩
  rw [hr0] at ST HL HI HM ⊢
  rw [hy] at HA HF HX PB ST
  have eyb := oexp_bd PB.out.1.u
  have ny := PB.out.1.ng
  obtain ⟨ey, hey⟩ : ∃ e, oexp yw + 64 = e := ⟨_, rfl⟩
  obtain ⟨fy, hfy⟩ : ∃ e, (fW yw).toNat = e := ⟨_, rfl⟩
  rw [hey, hfy] at HF
  obtain ⟨y, hyw⟩ : ∃ e, yw.toNat = e := ⟨_, rfl⟩
  rw [hyw] at HA HF
  replace HI := Lib.hid HI
  replace HM := Lib.hid HM
  replace HN := Lib.hid HN
  replace HA := Lib.hid HA
  replace HF := Lib.hid HF
  have HEY := Lib.hid hey
  have HFY := Lib.hid hfy
  have HYW := Lib.hid hyw
  have EB := Lib.hid eyb
  have ny := Lib.hid ny
  clear hr0 hy hfy hey hyw eyb hb
  generalize b.toNat = bb at *
  go_enter Try.func76, Try.ntmps76
  go_wp2_with (first | (go_at_call 73; refine (HI.out _).mono ?_; rintro e w' ⟨rfl, rfl⟩) | (go_at_call 78; with_reducible first | (refine (HM.out _).mono ?_; rintro e w' ⟨rfl, rfl⟩) | (refine (HN.out _).mono ?_; rintro e w' ⟨rfl, rfl⟩)) | (go_at_call 80; refine (HA.out _).mono ?_; rintro e w' ⟨rfl, rfl⟩) | (go_at_call 84; refine (HF.out _).mono ?_; rintro e w' ⟨rfl, rfl⟩))
  go_loop [7] (fun c => ∃ r, MInv yw N r ∧ c = .float .f64 r.toNat) (fun c => fbits c)
  case atStart => exact ⟨r0, ST.out, rfl⟩
  case round =>
    obtain ⟨r, k, rfl⟩ := hrel
    have K := Lib.hid k
    have HO := pos_order k.pos PB.out.1
    rw [HYW.out] at HO
    by_cases c : r < yw
    · rw [cmp_lt c] at HO
      have hM := HX.out r k c
      clear k c
      obtain rfl : M = r := hM
      go_wp2
      go_ret
      exact ⟨rfl, rfl⟩
    · have hge : yw ≤ r := by omega
      obtain ⟨d0, d1, T, u, t1, pT, e1, pu, ul, ue⟩ := mod_step k.pos PB.out.1 PB.out.2 hge
      have hr0 : r ≠ 0 := by have := PB.out.1.lo; have := PB.out.2; have : sz yw = yw := PB.out.1.sz; omega
      obtain ⟨o, ho, hoo⟩ : ∃ o, compare r yw = o ∧ (o = .gt ∨ o = .eq) := by
        rcases Int.lt_or_eq_of_le hge with g | g
        · exact ⟨.gt, cmp_gt g, .inl rfl⟩
        · exact ⟨.eq, cmp_eq g.symm, .inr rfl⟩
      rw [ho] at HO
      clear ho
      have HR := fun w => Frexp_calls r k.pos hr0 w
      have hlt := fr_less k.pos hr0 PB.out.1 PB.out.2
      have HT := fun w => Ldexp_calls yw (modE r yw) PB.out.1.u (by rw [PB.out.1.sz]; exact PB.out.2) PB.out.1.fin (by omega) (by omega) w
      rw [ny.out] at HT
      have t2 : near2 false (oman yw).toNat false (oexp yw + modE r yw) = T.toNat := by omega
      rw [t2, HYW.out] at HT
      rw [HFY.out] at hlt
      have hsub := sub_some' k.pos.u pT.u (by rw [e1]; exact (num_of_fin pu.fin).1)
      rw [e1] at hsub
      have HS := fun t w => run_float_arith (P := Try.prog) w .sub t .f64 _ _ _ hsub
      have erb := oexp_bd k.pos.u
      have eyb := EB.out
      have hey := HEY.out
      have KU := Lib.hid (MInv.mk pu (by rw [ue, k.eq]) : MInv yw N u)
      have KM := Lib.hid (show fbits (.float .f64 u.toNat) < fbits (.float .f64 r.toNat) by have := pu.lo; show u.toNat < r.toNat; omega)
      obtain ⟨D, hD⟩ : ∃ d, modE r yw = d := ⟨_, rfl⟩
      rw [hD] at HT d0 d1
      unfold modE at hD
      obtain ⟨er, her⟩ : ∃ e, oexp r + 64 = e := ⟨_, rfl⟩
      rw [her] at HR
      have ea0 : er - ey = (if oman r < oman yw then 1 else 0) + D := by split at hD <;> (rename_i g; first | rw [if_pos g] | rw [if_neg g]) <;> omega
      have ea1 : -1100 ≤ er ∧ er ≤ 1100 := by omega
      have ea2 : -1100 ≤ ey ∧ ey ≤ 1100 := by omega
      obtain ⟨ea3, ea4⟩ := ea1
      obtain ⟨ea5, ea6⟩ := ea2
      clear hD her erb eyb hey hsub e1 t1 t2 ul ue pu pT hge c k d0 d1
      replace HR := Lib.hid HR
      replace HT := Lib.hid HT
      obtain ⟨fr, hfr⟩ : ∃ e, (fW r).toNat = e := ⟨_, rfl⟩
      rw [hfr] at HR hlt
      clear hfr hr0
      obtain ⟨T', hT'⟩ : ∃ e, T.toNat = e := ⟨_, rfl⟩
      rw [hT'] at HT HS
      clear hT'
      obtain ⟨r', hr'⟩ : ∃ e, r.toNat = e := ⟨_, rfl⟩
      rw [hr'] at HR HS HO KM ⊢
      obtain ⟨u', hu'⟩ : ∃ e, u.toNat = e := ⟨_, rfl⟩
      rw [hu'] at HS KM
      have HU' := Lib.hid hu'
      clear hr' hu'
      by_cases g : oman r < oman yw
      · rw [if_pos g] at ea0
        rw [decide_eq_true g] at hlt
        have hb2 : er - 1 - ey = D := by omega
        clear g K ea0
        rcases hoo with rfl | rfl
        · go_wp2_with (first | (go_at_call 84; refine (HR.out _).mono ?_; rintro e w' ⟨rfl, rfl⟩) | (go_at_call 85; refine (HT.out _).mono ?_; rintro e w' ⟨rfl, rfl⟩))
          go_round
          case rel => exact ⟨u, KU.out, by rw [HU'.out]⟩
          case measure => exact KM.out
        · go_wp2_with (first | (go_at_call 84; refine (HR.out _).mono ?_; rintro e w' ⟨rfl, rfl⟩) | (go_at_call 85; refine (HT.out _).mono ?_; rintro e w' ⟨rfl, rfl⟩))
          go_round
          case rel => exact ⟨u, KU.out, by rw [HU'.out]⟩
          case measure => exact KM.out
      · rw [if_neg g] at ea0
        rw [decide_eq_false g] at hlt
        have hb2 : er - ey = D := by omega
        clear g K ea0
        rcases hoo with rfl | rfl
        · go_wp2_with (first | (go_at_call 84; refine (HR.out _).mono ?_; rintro e w' ⟨rfl, rfl⟩) | (go_at_call 85; refine (HT.out _).mono ?_; rintro e w' ⟨rfl, rfl⟩))
          go_round
          case rel => exact ⟨u, KU.out, by rw [HU'.out]⟩
          case measure => exact KM.out
        · go_wp2_with (first | (go_at_call 84; refine (HR.out _).mono ?_; rintro e w' ⟨rfl, rfl⟩) | (go_at_call 85; refine (HT.out _).mono ?_; rintro e w' ⟨rfl, rfl⟩))
          go_round
          case rel => exact ⟨u, KU.out, by rw [HU'.out]⟩
          case measure => exact KM.out
set_option maxRecDepth 100000 in
theorem mod_loop1 (a b : Int) (ha : U64 a) (hb : U64 b) (fa : sz a < 9218868437227405312) (fb : sz b < 9218868437227405312) (zb : ¬ sz b = 0) (hs : sz b ≤ sz a) (ng : ngb a = true) (w : World) :
    Calls Try.prog 76 #[.float .f64 a.toNat, .float .f64 b.toNat] w fun e' w' => e' = .returned (.float .f64 (modW a b).toNat) ∧ w' = w := by
  have pa := sz_pos ha fa
  have pb := sz_pos hb fb
  have za : ¬ sz a = 0 := by have := pb.lo; omega
  have HZ := zero_test hb zb
  have HI := fun w => IsInf0_calls a ha w
  have HM := fun w => mIsNaN_calls a ha w
  have HN := fun w => mIsNaN_calls b hb w
  have HA := fun w => Abs_calls b hb w
  have HF := fun w => Frexp_calls (sz b) pb zb w
  have HL := neg_test ha za fa
  rw [ng] at HL
  obtain ⟨n1, i1⟩ := num_of_fin fa
  obtain ⟨n2, i2⟩ := num_of_fin fb
  rw [n1] at HM
  rw [n2] at HN
  rw [i1] at HI
  have hn := neg_word ha n1
  have st : MInv (sz b) (V a % V b) (sz a) := ⟨pa, by rw [V_sz pa.u ha pa.sz, V_sz pb.u hb pb.sz]⟩
  have HE : ∀ r, MInv (sz b) (V a % V b) r → r < sz b → modW a b = sgnG true r := fun r k hl => by
    unfold modW; rw [ng, k.last pb hl]
  have HX := Lib.hid HE
  have PB := Lib.hid (And.intro pb zb)
  have ST := Lib.hid st
  obtain ⟨N, hN⟩ : ∃ n, V a % V b = n := ⟨_, rfl⟩
  rw [hN] at ST HX
  obtain ⟨M, hM⟩ : ∃ n, modW a b = n := ⟨_, rfl⟩
  rw [hM] at HX ⊢
  have hn3 : negG a = sz a := by
    obtain ⟨f1, f2, f3, f4⟩ := neg_num ha n1
    have := sz_eq f4
    have l0 := f4.lo
    have l1 := f4.hi
    rw [ng] at f3
    have f5 : ¬ 9223372036854775808 ≤ negG a := of_decide_eq_false f3
    omega
  have NX : ∀ w, (Op.unary UnOp.neg (.float .f64 a.toNat)).run Try.prog w = .ok (.float .f64 (Op.negFloat .f64 a.toNat)) w := fun _ => rfl
  rw [hn, hn3] at NX
  clear hn3
  clear hN hM HE st hn ng n1 n2 i1 i2 ha fa fb zb hs pa pb za
  obtain ⟨r0, hr0⟩ : ∃ r, sz a = r := ⟨_, rfl⟩
  obtain ⟨yw, hy⟩ : ∃ r, sz b = r := ⟨_, rfl⟩
  rw [hr0] at ST NX
  rw [hy] at HA HF HX PB ST
  have eyb := oexp_bd PB.out.1.u
  have ny := PB.out.1.ng
  obtain ⟨ey, hey⟩ : ∃ e, oexp yw + 64 = e := ⟨_, rfl⟩
  obtain ⟨fy, hfy⟩ : ∃ e, (fW yw).toNat = e := ⟨_, rfl⟩
  rw [hey, hfy] at HF
  obtain ⟨y, hyw⟩ : ∃ e, yw.toNat = e := ⟨_, rfl⟩
  rw [hyw] at HA HF
  replace HI := Lib.hid HI
  replace HM := Lib.hid HM
  replace HN := Lib.hid HN
  replace HA := Lib.hid HA
  replace HF := Lib.hid HF
  have HEY := Lib.hid hey
  have HFY := Lib.hid hfy
  have HYW := Lib.hid hyw
  have EB := Lib.hid eyb
  have ny := Lib.hid ny
  clear hr0 hy hfy hey hyw eyb hb
  generalize b.toNat = bb at *
  generalize a.toNat = x at *
  go_enter Try.func76, Try.ntmps76
  go_wp2_with (first | (go_at_call 73; refine (HI.out _).mono ?_; rintro e w' ⟨rfl, rfl⟩) | (go_at_call 78; with_reducible first | (refine (HM.out _).mono ?_; rintro e w' ⟨rfl, rfl⟩) | (refine (HN.out _).mono ?_; rintro e w' ⟨rfl, rfl⟩)) | (go_at_call 80; refine (HA.out _).mono ?_; rintro e w' ⟨rfl, rfl⟩) | (go_at_call 84; refine (HF.out _).mono ?_; rintro e w' ⟨rfl, rfl⟩))
  go_loop [7] (fun c => ∃ r, MInv yw N r ∧ c = .float .f64 r.toNat) (fun c => fbits c)
  case atStart => exact ⟨r0, ST.out, rfl⟩
  case round =>
    obtain ⟨r, k, rfl⟩ := hrel
    have K := Lib.hid k
    have HO := pos_order k.pos PB.out.1
    rw [HYW.out] at HO
    by_cases c : r < yw
    · rw [cmp_lt c] at HO
      have hM := HX.out r k c
      clear k c
      have hn2 : Op.negFloat .f64 r.toNat = M.toNat := by
        rw [neg_word K.out.pos.u (num_of_fin K.out.pos.fin).1, hM, neg_sgn K.out.pos]
      have NY : ∀ w, (Op.unary UnOp.neg (.float .f64 r.toNat)).run Try.prog w = .ok (.float .f64 (Op.negFloat .f64 r.toNat)) w := fun _ => rfl
      rw [hn2] at NY
      clear hn2 hM
      go_wp2
      go_ret
      exact ⟨rfl, rfl⟩
    · have hge : yw ≤ r := by omega
      obtain ⟨d0, d1, T, u, t1, pT, e1, pu, ul, ue⟩ := mod_step k.pos PB.out.1 PB.out.2 hge
      have hr0 : r ≠ 0 := by have := PB.out.1.lo; have := PB.out.2; have : sz yw = yw := PB.out.1.sz; omega
      obtain ⟨o, ho, hoo⟩ : ∃ o, compare r yw = o ∧ (o = .gt ∨ o = .eq) := by
        rcases Int.lt_or_eq_of_le hge with g | g
        · exact ⟨.gt, cmp_gt g, .inl rfl⟩
        · exact ⟨.eq, cmp_eq g.symm, .inr rfl⟩
      rw [ho] at HO
      clear ho
      have HR := fun w => Frexp_calls r k.pos hr0 w
      have hlt := fr_less k.pos hr0 PB.out.1 PB.out.2
      have HT := fun w => Ldexp_calls yw (modE r yw) PB.out.1.u (by rw [PB.out.1.sz]; exact PB.out.2) PB.out.1.fin (by omega) (by omega) w
      rw [ny.out] at HT
      have t2 : near2 false (oman yw).toNat false (oexp yw + modE r yw) = T.toNat := by omega
      rw [t2, HYW.out] at HT
      rw [HFY.out] at hlt
      have hsub := sub_some' k.pos.u pT.u (by rw [e1]; exact (num_of_fin pu.fin).1)
      rw [e1] at hsub
      have HS := fun t w => run_float_arith (P := Try.prog) w .sub t .f64 _ _ _ hsub
      have erb := oexp_bd k.pos.u
      have eyb := EB.out
      have hey := HEY.out
      have KU := Lib.hid (MInv.mk pu (by rw [ue, k.eq]) : MInv yw N u)
      have KM := Lib.hid (show fbits (.float .f64 u.toNat) < fbits (.float .f64 r.toNat) by have := pu.lo; show u.toNat < r.toNat; omega)
      obtain ⟨D, hD⟩ : ∃ d, modE r yw = d := ⟨_, rfl⟩
      rw [hD] at HT d0 d1
      unfold modE at hD
      obtain ⟨er, her⟩ : ∃ e, oexp r + 64 = e := ⟨_, rfl⟩
      rw [her] at HR
      have ea0 : er - ey = (if oman r < oman yw then 1 else 0) + D := by split at hD <;> (rename_i g; first | rw [if_pos g] | rw [if_neg g]) <;> omega
      have ea1 : -1100 ≤ er ∧ er ≤ 1100 := by omega
      have ea2 : -1100 ≤ ey ∧ ey ≤ 1100 := by omega
      obtain ⟨ea3, ea4⟩ := ea1
      obtain ⟨ea5, ea6⟩ := ea2
      clear hD her erb eyb hey hsub e1 t1 t2 ul ue pu pT hge c k d0 d1
      replace HR := Lib.hid HR
      replace HT := Lib.hid HT
      obtain ⟨fr, hfr⟩ : ∃ e, (fW r).toNat = e := ⟨_, rfl⟩
      rw [hfr] at HR hlt
      clear hfr hr0
      obtain ⟨T', hT'⟩ : ∃ e, T.toNat = e := ⟨_, rfl⟩
      rw [hT'] at HT HS
      clear hT'
      obtain ⟨r', hr'⟩ : ∃ e, r.toNat = e := ⟨_, rfl⟩
      rw [hr'] at HR HS HO KM ⊢
      obtain ⟨u', hu'⟩ : ∃ e, u.toNat = e := ⟨_, rfl⟩
      rw [hu'] at HS KM
      have HU' := Lib.hid hu'
      clear hr' hu'
      by_cases g : oman r < oman yw
      · rw [if_pos g] at ea0
        rw [decide_eq_true g] at hlt
        have hb2 : er - 1 - ey = D := by omega
        clear g K ea0
        rcases hoo with rfl | rfl
        · go_wp2_with (first | (go_at_call 84; refine (HR.out _).mono ?_; rintro e w' ⟨rfl, rfl⟩) | (go_at_call 85; refine (HT.out _).mono ?_; rintro e w' ⟨rfl, rfl⟩))
          go_round
          case rel => exact ⟨u, KU.out, by rw [HU'.out]⟩
          case measure => exact KM.out
        · go_wp2_with (first | (go_at_call 84; refine (HR.out _).mono ?_; rintro e w' ⟨rfl, rfl⟩) | (go_at_call 85; refine (HT.out _).mono ?_; rintro e w' ⟨rfl, rfl⟩))
          go_round
          case rel => exact ⟨u, KU.out, by rw [HU'.out]⟩
          case measure => exact KM.out
      · rw [if_neg g] at ea0
        rw [decide_eq_false g] at hlt
        have hb2 : er - ey = D := by omega
        clear g K ea0
        rcases hoo with rfl | rfl
        · go_wp2_with (first | (go_at_call 84; refine (HR.out _).mono ?_; rintro e w' ⟨rfl, rfl⟩) | (go_at_call 85; refine (HT.out _).mono ?_; rintro e w' ⟨rfl, rfl⟩))
          go_round
          case rel => exact ⟨u, KU.out, by rw [HU'.out]⟩
          case measure => exact KM.out
        · go_wp2_with (first | (go_at_call 84; refine (HR.out _).mono ?_; rintro e w' ⟨rfl, rfl⟩) | (go_at_call 85; refine (HT.out _).mono ?_; rintro e w' ⟨rfl, rfl⟩))
          go_round
          case rel => exact ⟨u, KU.out, by rw [HU'.out]⟩
          case measure => exact KM.out
--END--
end Go.Proofs.Ytkiakflmoplmeaa
namespace Go.Proofs.Ytkiakflmoplmeaa
open Go.RowKit Fp
set_option linter.unusedVariables false
set_option linter.unusedSimpArgs false
/-- what math.Mod makes of two finite numbers. -/
def modR (a b : Int) : Int := if sz a < sz b then a else modW a b
theorem mod_calls (a b : Int) (ha : U64 a) (hb : U64 b) (fa : sz a < 9218868437227405312) (fb : sz b < 9218868437227405312) (zb : ¬ sz b = 0) (w : World) :
    Calls Try.prog 76 #[.float .f64 a.toNat, .float .f64 b.toNat] w fun e' w' => e' = .returned (.float .f64 (modR a b).toNat) ∧ w' = w := by
  unfold modR
  by_cases h : sz a < sz b
  · rw [if_pos h]; exact mod_small a b ha hb fa fb zb h w
  · rw [if_neg h]
    cases hg : ngb a
    · exact mod_loop0 a b ha hb fa fb zb (by omega) hg w
    · exact mod_loop1 a b ha hb fa fb zb (by omega) hg w
theorem Mod_calls (a b : Int) (ha : U64 a) (hb : U64 b) (fa : sz a < 9218868437227405312) (fb : sz b < 9218868437227405312) (zb : ¬ sz b = 0) (w : World) :
    Calls Try.prog 65 #[.float .f64 a.toNat, .float .f64 b.toNat] w fun e' w' => e' = .returned (.float .f64 (modR a b).toNat) ∧ w' = w := by
  have HM := fun w => mod_calls a b ha hb fa fb zb w
  generalize a.toNat = x at *
  generalize b.toNat = y at *
  generalize (modR a b).toNat = z at *
  replace HM := Lib.hid HM
  clear ha hb fa fb zb
  go_enter Try.func65, Try.ntmps65
  go_wp2_with (first | (go_at_call 76; refine (HM.out _).mono ?_; rintro e w' ⟨rfl, rfl⟩))
  go_ret
  exact ⟨rfl, rfl⟩
theorem eq0 {b : Int} (hb : U64 b) (hn : isNaN b = false) : (FloatKind.f64.format.order b.toNat 0 == some .eq) = isZ b := by
  by_cases z : sz b = 0
  · rw [isZ_iff.2 z]
    have h := Equal_ok hb zero_u64
    rw [show (0 : Int).toNat = 0 from rfl] at h
    rw [show (FloatKind.f64.format.order b.toNat 0 == some .eq) = _ from h]
    unfold EqualG
    rw [isZ_iff.2 z, hn]
    have : isNaN 0 = false := by decide +kernel
    have h2 : isZ 0 = true := by decide +kernel
    rw [this, h2]; simp
  · rw [zero_test hb z]
    cases hz : isZ b
    · rfl
    · exact absurd (isZ_iff.1 hz) z
theorem modR_word {a b : Int} (ha : U64 a) (hb : U64 b) (fa : sz a < 9218868437227405312) (fb : sz b < 9218868437227405312) (zb : ¬ sz b = 0) : RemG a b = modR a b ∧ U64 (modR a b) ∧ sz (modR a b) < 9218868437227405312 := by
  unfold modR
  by_cases h : sz a < sz b
  · rw [if_pos h]
    refine ⟨?_, ha, fa⟩
    unfold RemG
    have hz : isZ b = false := by rw [Bool.eq_false_iff]; intro c; rw [isZ_iff] at c; exact zb c
    rw [(fin_num fa).1, (fin_num fb).1, (fin_num fa).2, hz, if_neg (by decide), if_pos h]
  · rw [if_neg h]
    refine ⟨rem_word ha hb fa fb zb (by omega), ?_⟩
    have pa := sz_pos ha fa
    obtain ⟨u, u1, u2, u3⟩ := rep (V a) (mant a).toNat (pl a + 1074).toNat rfl (mant_lt ha) (by rw [← V_sz pa.u ha pa.sz]; exact pa.below)
    have hm := rung_mono (n := V a % V b) (m := V a) (-1074) (Nat.mod_le _ _)
    rw [u1] at hm
    unfold modW
    obtain ⟨r, hr⟩ : ∃ r, rungN (V a % V b) (-1074) = r := ⟨_, rfl⟩
    rw [hr] at hm ⊢
    clear u1 u3 hr
    rw [sgn_eq (by omega) (by omega)]
    have h64 : U64 (if ngb a then (r : Int) + 9223372036854775808 else r) := by split <;> exact ⟨by omega, by omega⟩
    refine ⟨h64, ?_⟩
    rw [sz_eq h64]
    split <;> omega
theorem rem_nan1 {a b : Int} (h : isNaN a = true) : RemG a b = 9221120237041090560 := by unfold RemG; rw [h]; exact if_pos rfl
theorem rem_nan3 {a b : Int} (h : isInf a = true) : RemG a b = 9221120237041090560 := by unfold RemG; rw [h]; exact if_pos (by simp)
theorem rem_nan4 {a b : Int} (h : isZ b = true) : RemG a b = 9221120237041090560 := by unfold RemG; rw [h]; exact if_pos (by simp)
theorem rem_same {a b : Int} (h1 : isNaN a = false) (h2 : isNaN b = false) (h3 : isInf a = false) (h4 : isZ b = false) (h : sz a < sz b) : RemG a b = a := by
  unfold RemG; rw [h1, h2, h3, h4, if_neg (by decide), if_pos h]
end Go.Proofs.Ytkiakflmoplmeaa
