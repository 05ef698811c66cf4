/- The walk through math.mod's loop. -/
import Derived.Test.YtmemefjhefmfhaaTf
namespace Go.Proofs.Ytmemefjhefmfhaa
open Go.RowKit Fp
set_option linter.unusedVariables false
set_option linter.unusedSimpArgs false
def fbits : Value → Nat
  | .float _ b => b
  | _ => 0
/-- what math's mod makes of a by b. -/
def modW (a b : Int) : Int := sgnG (ngb a) ((rungN (V a % V b) (-1074) : Nat) : Int)
structure MInv (y : Int) (N : Nat) (r : Int) : Prop where
  pos : Pos r
  eq : V r % V y = N
theorem MInv.last {y : Int} {N : Nat} {r : Int} (k : MInv y N r) (hy : Pos y) (h : r < y) : ((rungN N (-1074) : Nat) : Int) = r := by
  have hl := (k.pos.lt hy).2 h
  have e := k.eq
  rw [Nat.mod_eq_of_lt hl] at e
  obtain ⟨u, u1, u2, u3⟩ := rep (V r) (mant r).toNat (pl r + 1074).toNat rfl (mant_lt k.pos.u) k.pos.below
  obtain ⟨p1, p2⟩ := Pos.of u2 u3
  rw [← e, u1]
  have h1 := p1.lt k.pos
  have h2 := k.pos.lt p1
  omega
theorem neg_sgn {r : Int} (h : Pos r) : negG r = sgnG true r := by
  obtain ⟨f1, f2, f3, f4⟩ := neg_num h.u (num_of_fin h.fin).1
  have l0 := h.lo
  have l1 := h.hi
  rw [sgn_eq h.lo (by omega), if_pos rfl]
  have := sz_eq f4
  rw [f2, h.sz] at this
  rw [h.ng] at f3
  have f5 : 9223372036854775808 ≤ negG r := of_decide_eq_true f3
  have := f4.hi
  omega
theorem sub_some' {a b : Int} (ha : U64 a) (hb : U64 b) (h : isNaN (SubG a b) = false) : floatBits .sub .f64 a.toNat b.toNat = some (SubG a b).toNat := by
  show Ieee.double.sub a.toNat b.toNat = _
  have e := sub_ok ha hb
  cases hm : Ieee.double.sub a.toNat b.toNat with
  | none => rw [hm] at e; rw [e] at h; exact absurd C_isNaN (by rw [show (9221120237041090560 : Int) = ofO none from rfl, h]; decide)
  | some r => rw [hm] at e; rw [e]; show some r = some ((r : Int).toNat); rw [Int.toNat_natCast]
--MOD--
set_option maxRecDepth 100000 in
theorem mod_loop0 (a b : Int) (ha : U64 a) (hb : U64 b) (fa : sz a < 9218868437227405312) (fb : sz b < 9218868437227405312) (zb : ¬ sz b = 0) (hs : sz b ≤ sz a) (ng : ngb a = false) (w : World) :
    Calls Try.prog 63 #[.float .f64 a.toNat, .float .f64 b.toNat] w fun e' w' => e' = .returned (.float .f64 (modW a b).toNat) ∧ w' = w := by
  have pa := sz_pos ha fa
  have pb := sz_pos hb fb
  have za : ¬ sz a = 0 := by have := pb.lo; omega
  have HZ := zero_test hb zb
  have HI := fun w => IsInf0_calls a ha w
  have HM := fun w => mIsNaN_calls a ha w
  have HN := fun w => mIsNaN_calls b hb w
  have HA := fun w => Abs_calls b hb w
  have HF := fun w => Frexp_calls (sz b) pb zb w
  have HL := neg_test ha za fa
  rw [ng] at HL
  obtain ⟨n1, i1⟩ := num_of_fin fa
  obtain ⟨n2, i2⟩ := num_of_fin fb
  rw [n1] at HM
  rw [n2] at HN
  rw [i1] at HI
  have hn := neg_word ha n1
  have st : MInv (sz b) (V a % V b) (sz a) := ⟨pa, by rw [V_sz pa.u ha pa.sz, V_sz pb.u hb pb.sz]⟩
  have HE : ∀ r, MInv (sz b) (V a % V b) r → r < sz b → modW a b = sgnG false r := fun r k hl => by
    unfold modW; rw [ng, k.last pb hl]
  have HX := Lib.hid HE
  have PB := Lib.hid (And.intro pb zb)
  have ST := Lib.hid st
  obtain ⟨N, hN⟩ : ∃ n, V a % V b = n := ⟨_, rfl⟩
  rw [hN] at ST HX
  obtain ⟨M, hM⟩ : ∃ n, modW a b = n := ⟨_, rfl⟩
  rw [hM] at HX ⊢
  have hsa : sz a = a := by
    have h1 := sz_eq ha
    have h2 : ¬ 9223372036854775808 ≤ a := of_decide_eq_false ng
    have := ha.lo
    omega
  rw [← hsa] at HL HI HM ⊢
  clear hN hM HE st hn ng n1 n2 i1 i2 ha fa fb zb hs pa pb za hsa
  obtain ⟨r0, hr0⟩ : ∃ r, sz a = r := ⟨_, rfl⟩
  obtain ⟨yw, hy⟩ : ∃ r, sz b = r := ⟨_, rfl⟩
  rw [hr0] at ST HL HI HM ⊢
  rw [hy] at HA HF HX PB ST
  have eyb := oexp_bd PB.out.1.u
  have ny := PB.out.1.ng
  obtain ⟨ey, hey⟩ : ∃ e, oexp yw + 64 = e := ⟨_, rfl⟩
  obtain ⟨fy, hfy⟩ : ∃ e, (fW yw).toNat = e := ⟨_, rfl⟩
  rw [hey, hfy] at HF
  obtain ⟨y, hyw⟩ : ∃ e, yw.toNat = e := ⟨_, rfl⟩
  rw [hyw] at HA HF
  replace HI := Lib.hid HI
  replace HM := Lib.hid HM
  replace HN := Lib.hid HN
  replace HA := Lib.hid HA
  replace HF := Lib.hid HF
  have HEY := Lib.hid hey
  have HFY := Lib.hid hfy
  have HYW := Lib.hid hyw
  have EB := Lib.hid eyb
  have ny := Lib.hid ny
  clear hr0 hy hfy hey hyw eyb hb
  generalize b.toNat = bb at *
  go_enter Try.func63, Try.ntmps63
  go_wp2_with (first | (go_at_call 18; refine (HI.out _).mono ?_; rintro e w' ⟨rfl, rfl⟩) | (go_at_call 68; with_reducible first | (refine (HM.out _).mono ?_; rintro e w' ⟨rfl, rfl⟩) | (refine (HN.out _).mono ?_; rintro e w' ⟨rfl, rfl⟩)) | (go_at_call 42; refine (HA.out _).mono ?_; rintro e w' ⟨rfl, rfl⟩) | (go_at_call 73; refine (HF.out _).mono ?_; rintro e w' ⟨rfl, rfl⟩))
  go_loop [7] (fun c => ∃ r, MInv yw N r ∧ c = .float .f64 r.toNat) (fun c => fbits c)
  case atStart => exact ⟨r0, ST.out, rfl⟩
  case round =>
    obtain ⟨r, k, rfl⟩ := hrel
    have K := Lib.hid k
    have HO := pos_order k.pos PB.out.1
    rw [HYW.out] at HO
    by_cases c : r < yw
    · rw [cmp_lt c] at HO
      have hM := HX.out r k c
      clear k c
      obtain rfl : M = r := hM
      go_wp2
      go_ret
      exact ⟨rfl, rfl⟩
    · have hge : yw ≤ r := by omega
      obtain ⟨d0, d1, T, u, t1, pT, e1, pu, ul, ue⟩ := mod_step k.pos PB.out.1 PB.out.2 hge
      have hr0 : r ≠ 0 := by have := PB.out.1.lo; have := PB.out.2; have : sz yw = yw := PB.out.1.sz; omega
      obtain ⟨o, ho, hoo⟩ : ∃ o, compare r yw = o ∧ (o = .gt ∨ o = .eq) := by
        rcases Int.lt_or_eq_of_le hge with g | g
        · exact ⟨.gt, cmp_gt g, .inl rfl⟩
        · exact ⟨.eq, cmp_eq g.symm, .inr rfl⟩
      rw [ho] at HO
      clear ho
      have HR := fun w => Frexp_calls r k.pos hr0 w
      have hlt := fr_less k.pos hr0 PB.out.1 PB.out.2
      have HT := fun w => Ldexp_calls yw (modE r yw) PB.out.1.u (by rw [PB.out.1.sz]; exact PB.out.2) PB.out.1.fin (by omega) (by omega) w
      rw [ny.out] at HT
      have t2 : near2 false (oman yw).toNat false (oexp yw + modE r yw) = T.toNat := by omega
      rw [t2, HYW.out] at HT
      rw [HFY.out] at hlt
      have hsub := sub_some' k.pos.u pT.u (by rw [e1]; exact (num_of_fin pu.fin).1)
      rw [e1] at hsub
      have HS := fun t w => run_float_arith (P := Try.prog) w .sub t .f64 _ _ _ hsub
      have erb := oexp_bd k.pos.u
      have eyb := EB.out
      have hey := HEY.out
      have KU := Lib.hid (MInv.mk pu (by rw [ue, k.eq]) : MInv yw N u)
      have KM := Lib.hid (show fbits (.float .f64 u.toNat) < fbits (.float .f64 r.toNat) by have := pu.lo; show u.toNat < r.toNat; omega)
      obtain ⟨D, hD⟩ : ∃ d, modE r yw = d := ⟨_, rfl⟩
      rw [hD] at HT d0 d1
      unfold modE at hD
      obtain ⟨er, her⟩ : ∃ e, oexp r + 64 = e := ⟨_, rfl⟩
      rw [her] at HR
      have ea0 : er - ey = (if oman r < oman yw then 1 else 0) + D := by split at hD <;> (rename_i g; first | rw [if_pos g] | rw [if_neg g]) <;> omega
      have ea1 : -1100 ≤ er ∧ er ≤ 1100 := by omega
      have ea2 : -1100 ≤ ey ∧ ey ≤ 1100 := by omega
      obtain ⟨ea3, ea4⟩ := ea1
      obtain ⟨ea5, ea6⟩ := ea2
      clear hD her erb eyb hey hsub e1 t1 t2 ul ue pu pT hge c k d0 d1
      replace HR := Lib.hid HR
      replace HT := Lib.hid HT
      obtain ⟨fr, hfr⟩ : ∃ e, (fW r).toNat = e := ⟨_, rfl⟩
      rw [hfr] at HR hlt
      clear hfr hr0
      obtain ⟨T', hT'⟩ : ∃ e, T.toNat = e := ⟨_, rfl⟩
      rw [hT'] at HT HS
      clear hT'
      obtain ⟨r', hr'⟩ : ∃ e, r.toNat = e := ⟨_, rfl⟩
      rw [hr'] at HR HS HO KM ⊢
      obtain ⟨u', hu'⟩ : ∃ e, u.toNat = e := ⟨_, rfl⟩
      rw [hu'] at HS KM
      have HU' := Lib.hid hu'
      clear hr' hu'
      by_cases g : oman r < oman yw
      · rw [if_pos g] at ea0
        rw [decide_eq_true g] at hlt
        have hb2 : er - 1 - ey = D := by omega
        clear g K ea0
        rcases hoo with rfl | rfl
        · go_wp2_with (first | (go_at_call 73; refine (HR.out _).mono ?_; rintro e w' ⟨rfl, rfl⟩) | (go_at_call 52; refine (HT.out _).mono ?_; rintro e w' ⟨rfl, rfl⟩))
          go_round
          case rel => exact ⟨u, KU.out, by rw [HU'.out]⟩
          case measure => exact KM.out
        · go_wp2_with (first | (go_at_call 73; refine (HR.out _).mono ?_; rintro e w' ⟨rfl, rfl⟩) | (go_at_call 52; refine (HT.out _).mono ?_; rintro e w' ⟨rfl, rfl⟩))
          go_round
          case rel => exact ⟨u, KU.out, by rw [HU'.out]⟩
          case measure => exact KM.out
      · rw [if_neg g] at ea0
        rw [decide_eq_false g] at hlt
        have hb2 : er - ey = D := by omega
        clear g K ea0
        rcases hoo with rfl | rfl
        · go_wp2_with (first | (go_at_call 73; refine (HR.out _).mono ?_; rintro e w' ⟨rfl, rfl⟩) | (go_at_call 52; refine (HT.out _).mono ?_; rintro e w' ⟨rfl, rfl⟩))
          go_round
          case rel => exact ⟨u, KU.out, by rw [HU'.out]⟩
          case measure => exact KM.out
        · go_wp2_with (first | (go_at_call 73; refine (HR.out _).mono ?_; rintro e w' ⟨rfl, rfl⟩) | (go_at_call 52; refine (HT.out _).mono ?_; rintro e w' ⟨rfl, rfl⟩))
          go_round
          case rel => exact ⟨u, KU.out, by rw [HU'.out]⟩
          case measure => exact KM.out
set_option maxRecDepth 100000 in
theorem mod_loop1 (a b : Int) (ha : U64 a) (hb : U64 b) (fa : sz a < 9218868437227405312) (fb : sz b < 9218868437227405312) (zb : ¬ sz b = 0) (hs : sz b ≤ sz a) (ng : ngb a = true) (w : World) :
    Calls Try.prog 63 #[.float .f64 a.toNat, .float .f64 b.toNat] w fun e' w' => e' = .returned (.float .f64 (modW a b).toNat) ∧ w' = w := by
  have pa := sz_pos ha fa
  have pb := sz_pos hb fb
  have za : ¬ sz a = 0 := by have := pb.lo; omega
  have HZ := zero_test hb zb
  have HI := fun w => IsInf0_calls a ha w
  have HM := fun w => mIsNaN_calls a ha w
  have HN := fun w => mIsNaN_calls b hb w
  have HA := fun w => Abs_calls b hb w
  have HF := fun w => Frexp_calls (sz b) pb zb w
  have HL := neg_test ha za fa
  rw [ng] at HL
  obtain ⟨n1, i1⟩ := num_of_fin fa
  obtain ⟨n2, i2⟩ := num_of_fin fb
  rw [n1] at HM
  rw [n2] at HN
  rw [i1] at HI
  have hn := neg_word ha n1
  have st : MInv (sz b) (V a % V b) (sz a) := ⟨pa, by rw [V_sz pa.u ha pa.sz, V_sz pb.u hb pb.sz]⟩
  have HE : ∀ r, MInv (sz b) (V a % V b) r → r < sz b → modW a b = sgnG true r := fun r k hl => by
    unfold modW; rw [ng, k.last pb hl]
  have HX := Lib.hid HE
  have PB := Lib.hid (And.intro pb zb)
  have ST := Lib.hid st
  obtain ⟨N, hN⟩ : ∃ n, V a % V b = n := ⟨_, rfl⟩
  rw [hN] at ST HX
  obtain ⟨M, hM⟩ : ∃ n, modW a b = n := ⟨_, rfl⟩
  rw [hM] at HX ⊢
  have hn3 : negG a = sz a := by
    obtain ⟨f1, f2, f3, f4⟩ := neg_num ha n1
    have := sz_eq f4
    have l0 := f4.lo
    have l1 := f4.hi
    rw [ng] at f3
    have f5 : ¬ 9223372036854775808 ≤ negG a := of_decide_eq_false f3
    omega
  have NX : ∀ w, (Op.unary UnOp.neg (.float .f64 a.toNat)).run Try.prog w = .ok (.float .f64 (Op.negFloat .f64 a.toNat)) w := fun _ => rfl
  rw [hn, hn3] at NX
  clear hn3
  clear hN hM HE st hn ng n1 n2 i1 i2 ha fa fb zb hs pa pb za
  obtain ⟨r0, hr0⟩ : ∃ r, sz a = r := ⟨_, rfl⟩
  obtain ⟨yw, hy⟩ : ∃ r, sz b = r := ⟨_, rfl⟩
  rw [hr0] at ST NX
  rw [hy] at HA HF HX PB ST
  have eyb := oexp_bd PB.out.1.u
  have ny := PB.out.1.ng
  obtain ⟨ey, hey⟩ : ∃ e, oexp yw + 64 = e := ⟨_, rfl⟩
  obtain ⟨fy, hfy⟩ : ∃ e, (fW yw).toNat = e := ⟨_, rfl⟩
  rw [hey, hfy] at HF
  obtain ⟨y, hyw⟩ : ∃ e, yw.toNat = e := ⟨_, rfl⟩
  rw [hyw] at HA HF
  replace HI := Lib.hid HI
  replace HM := Lib.hid HM
  replace HN := Lib.hid HN
  replace HA := Lib.hid HA
  replace HF := Lib.hid HF
  have HEY := Lib.hid hey
  have HFY := Lib.hid hfy
  have HYW := Lib.hid hyw
  have EB := Lib.hid eyb
  have ny := Lib.hid ny
  clear hr0 hy hfy hey hyw eyb hb
  generalize b.toNat = bb at *
  generalize a.toNat = x at *
  go_enter Try.func63, Try.ntmps63
  go_wp2_with (first | (go_at_call 18; refine (HI.out _).mono ?_; rintro e w' ⟨rfl, rfl⟩) | (go_at_call 68; with_reducible first | (refine (HM.out _).mono ?_; rintro e w' ⟨rfl, rfl⟩) | (refine (HN.out _).mono ?_; rintro e w' ⟨rfl, rfl⟩)) | (go_at_call 42; refine (HA.out _).mono ?_; rintro e w' ⟨rfl, rfl⟩) | (go_at_call 73; refine (HF.out _).mono ?_; rintro e w' ⟨rfl, rfl⟩))
  go_loop [7] (fun c => ∃ r, MInv yw N r ∧ c = .float .f64 r.toNat) (fun c => fbits c)
  case atStart => exact ⟨r0, ST.out, rfl⟩
  case round =>
    obtain ⟨r, k, rfl⟩ := hrel
    have K := Lib.hid k
    have HO := pos_order k.pos PB.out.1
    rw [HYW.out] at HO
    by_cases c : r < yw
    · rw [cmp_lt c] at HO
      have hM := HX.out r k c
      clear k c
      have hn2 : Op.negFloat .f64 r.toNat = M.toNat := by
        rw [neg_word K.out.pos.u (num_of_fin K.out.pos.fin).1, hM, neg_sgn K.out.pos]
      have NY : ∀ w, (Op.unary UnOp.neg (.float .f64 r.toNat)).run Try.prog w = .ok (.float .f64 (Op.negFloat .f64 r.toNat)) w := fun _ => rfl
      rw [hn2] at NY
      clear hn2 hM
      go_wp2
      go_ret
      exact ⟨rfl, rfl⟩
    · have hge : yw ≤ r := by omega
      obtain ⟨d0, d1, T, u, t1, pT, e1, pu, ul, ue⟩ := mod_step k.pos PB.out.1 PB.out.2 hge
      have hr0 : r ≠ 0 := by have := PB.out.1.lo; have := PB.out.2; have : sz yw = yw := PB.out.1.sz; omega
      obtain ⟨o, ho, hoo⟩ : ∃ o, compare r yw = o ∧ (o = .gt ∨ o = .eq) := by
        rcases Int.lt_or_eq_of_le hge with g | g
        · exact ⟨.gt, cmp_gt g, .inl rfl⟩
        · exact ⟨.eq, cmp_eq g.symm, .inr rfl⟩
      rw [ho] at HO
      clear ho
      have HR := fun w => Frexp_calls r k.pos hr0 w
      have hlt := fr_less k.pos hr0 PB.out.1 PB.out.2
      have HT := fun w => Ldexp_calls yw (modE r yw) PB.out.1.u (by rw [PB.out.1.sz]; exact PB.out.2) PB.out.1.fin (by omega) (by omega) w
      rw [ny.out] at HT
      have t2 : near2 false (oman yw).toNat false (oexp yw + modE r yw) = T.toNat := by omega
      rw [t2, HYW.out] at HT
      rw [HFY.out] at hlt
      have hsub := sub_some' k.pos.u pT.u (by rw [e1]; exact (num_of_fin pu.fin).1)
      rw [e1] at hsub
      have HS := fun t w => run_float_arith (P := Try.prog) w .sub t .f64 _ _ _ hsub
      have erb := oexp_bd k.pos.u
      have eyb := EB.out
      have hey := HEY.out
      have KU := Lib.hid (MInv.mk pu (by rw [ue, k.eq]) : MInv yw N u)
      have KM := Lib.hid (show fbits (.float .f64 u.toNat) < fbits (.float .f64 r.toNat) by have := pu.lo; show u.toNat < r.toNat; omega)
      obtain ⟨D, hD⟩ : ∃ d, modE r yw = d := ⟨_, rfl⟩
      rw [hD] at HT d0 d1
      unfold modE at hD
      obtain ⟨er, her⟩ : ∃ e, oexp r + 64 = e := ⟨_, rfl⟩
      rw [her] at HR
      have ea0 : er - ey = (if oman r < oman yw then 1 else 0) + D := by split at hD <;> (rename_i g; first | rw [if_pos g] | rw [if_neg g]) <;> omega
      have ea1 : -1100 ≤ er ∧ er ≤ 1100 := by omega
      have ea2 : -1100 ≤ ey ∧ ey ≤ 1100 := by omega
      obtain ⟨ea3, ea4⟩ := ea1
      obtain ⟨ea5, ea6⟩ := ea2
      clear hD her erb eyb hey hsub e1 t1 t2 ul ue pu pT hge c k d0 d1
      replace HR := Lib.hid HR
      replace HT := Lib.hid HT
      obtain ⟨fr, hfr⟩ : ∃ e, (fW r).toNat = e := ⟨_, rfl⟩
      rw [hfr] at HR hlt
      clear hfr hr0
      obtain ⟨T', hT'⟩ : ∃ e, T.toNat = e := ⟨_, rfl⟩
      rw [hT'] at HT HS
      clear hT'
      obtain ⟨r', hr'⟩ : ∃ e, r.toNat = e := ⟨_, rfl⟩
      rw [hr'] at HR HS HO KM ⊢
      obtain ⟨u', hu'⟩ : ∃ e, u.toNat = e := ⟨_, rfl⟩
      rw [hu'] at HS KM
      have HU' := Lib.hid hu'
      clear hr' hu'
      by_cases g : oman r < oman yw
      · rw [if_pos g] at ea0
        rw [decide_eq_true g] at hlt
        have hb2 : er - 1 - ey = D := by omega
        clear g K ea0
        rcases hoo with rfl | rfl
        · go_wp2_with (first | (go_at_call 73; refine (HR.out _).mono ?_; rintro e w' ⟨rfl, rfl⟩) | (go_at_call 52; refine (HT.out _).mono ?_; rintro e w' ⟨rfl, rfl⟩))
          go_round
          case rel => exact ⟨u, KU.out, by rw [HU'.out]⟩
          case measure => exact KM.out
        · go_wp2_with (first | (go_at_call 73; refine (HR.out _).mono ?_; rintro e w' ⟨rfl, rfl⟩) | (go_at_call 52; refine (HT.out _).mono ?_; rintro e w' ⟨rfl, rfl⟩))
          go_round
          case rel => exact ⟨u, KU.out, by rw [HU'.out]⟩
          case measure => exact KM.out
      · rw [if_neg g] at ea0
        rw [decide_eq_false g] at hlt
        have hb2 : er - ey = D := by omega
        clear g K ea0
        rcases hoo with rfl | rfl
        · go_wp2_with (first | (go_at_call 73; refine (HR.out _).mono ?_; rintro e w' ⟨rfl, rfl⟩) | (go_at_call 52; refine (HT.out _).mono ?_; rintro e w' ⟨rfl, rfl⟩))
          go_round
          case rel => exact ⟨u, KU.out, by rw [HU'.out]⟩
          case measure => exact KM.out
        · go_wp2_with (first | (go_at_call 73; refine (HR.out _).mono ?_; rintro e w' ⟨rfl, rfl⟩) | (go_at_call 52; refine (HT.out _).mono ?_; rintro e w' ⟨rfl, rfl⟩))
          go_round
          case rel => exact ⟨u, KU.out, by rw [HU'.out]⟩
          case measure => exact KM.out
--END--
end Go.Proofs.Ytmemefjhefmfhaa
