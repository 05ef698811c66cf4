/- The walks through the document's Whole and ToUint32. -/
import Derived.Test.YtkiakflmoplmeaaTi
import Derived.Test.YtkiakflmoplmeaaTf
import Derived.Test.YtkiakflmoplmeaaGi
namespace Go.Proofs.Ytkiakflmoplmeaa
open Go.RowKit Fp
set_option linter.unusedVariables false
set_option linter.unusedSimpArgs false
theorem OfG_nan {x : Nat} (h : OfG x = 9221120237041090560) : isNaN (x : Int) = true := by
  cases hn : isNaN (x : Int)
  · rw [OfG_num hn] at h
    rw [h] at hn
    exact absurd hn (by decide +kernel)
  · rfl
theorem OfG_back {x : Nat} {v : Int} (h : OfG x = v) (hv : isNaN v = false) : x = v.toNat := by
  cases hn : isNaN (x : Int)
  · rw [OfG_num hn] at h; omega
  · unfold OfG at h
    rw [if_pos hn] at h
    rw [← h] at hv
    exact absurd hv (by decide +kernel)
/-- the test f != Trunc(f). -/
theorem notW_ok {a : Int} (ha : U64 a) {x : Nat} (hx : OfG x = TruncG a) (hl : x < 18446744073709551616) : (FloatKind.f64.format.order a.toNat x != some .eq) = notW a := by
  cases hn : isNaN a
  · have ht : isNaN (TruncG a) = false := by
      rcases Int.lt_or_le (sz a) 9218868437227405312 with c | c
      · exact (num_of_fin (trunc_of ha c).fin).1
      · have : ¬ 9218868437227405312 < sz a := by rw [← nan_iff', hn]; decide
        rw [trunc_inf (by omega)]; exact hn
    have e := OfG_back hx ht
    have h := order_SR ha (trunc_u64 ha) hn ht
    rw [← e] at h
    rw [show FloatKind.f64.format.order a.toNat x = _ from h]
    unfold notW
    rw [hn, Bool.false_or]
    rcases cmp_cases (SR a) (SR (TruncG a)) with ⟨g, k⟩ | ⟨g, k⟩ | ⟨g, k⟩
    · rw [k, decide_eq_true (by omega)]; decide
    · rw [k, decide_eq_false (by omega)]; decide
    · rw [k, decide_eq_true (by omega)]; decide
  · have h := order_nan (a := a) (b := (x : Int)) ha ⟨by omega, by omega⟩ (.inl hn)
    rw [Int.toNat_natCast] at h
    rw [show FloatKind.f64.format.order a.toNat x = _ from h]
    unfold notW
    rw [hn]; rfl
end Go.Proofs.Ytkiakflmoplmeaa
namespace Go.Proofs.Ytkiakflmoplmeaa
open Go.RowKit Fp
set_option linter.unusedVariables false
set_option linter.unusedSimpArgs false
theorem sgn_pos {u : Int} (h : Pos u) (s : Bool) : U64 (sgnG s u) ∧ ngb (sgnG s u) = s ∧ sz (sgnG s u) = u := by
  have l0 := h.lo
  have l1 := h.hi
  rw [sgn_eq l0 (by omega)]
  cases s
  · rw [if_neg (by decide)]; exact ⟨h.u, h.ng, h.sz⟩
  · rw [if_pos rfl]
    have hu : U64 (u + 9223372036854775808) := ⟨by omega, by omega⟩
    exact ⟨hu, decide_eq_true (by omega), by rw [sz_eq hu]; omega⟩
theorem mod32 {a : Int} (ha : U64 a) (hf : sz a < 9218868437227405312) : Mod32 a (modR (TruncG a) 4751297606875873280) := by
  have T := trunc_of ha hf
  have pt := sz_pos T.u T.fin
  have vt : V (sz (TruncG a)) = V (TruncG a) := V_sz pt.u T.u pt.sz
  unfold modR
  rw [c32_pos.sz]
  have hlt := pt.lt c32_pos
  rw [vt, V_c32, T.val] at hlt
  by_cases c : sz (TruncG a) < 4751297606875873280
  · rw [if_pos c]
    have h := hlt.2 c
    have h2 : WP a < 4294967296 := Nat.lt_of_mul_lt_mul_right h
    exact ⟨T.u, T.ng, T.fin, by rw [T.val, Nat.mod_eq_of_lt h2]⟩
  · rw [if_neg c]
    unfold modW
    rw [V_c32, T.val, Nat.mul_mod_mul_right]
    have hb : WP a % 4294967296 < 9007199254740992 := Nat.lt_trans (Nat.mod_lt _ (by decide)) (by decide)
    have hb2 : WP a % 4294967296 * U < vr 9218868437227405312 := by
      refine Nat.lt_of_le_of_lt (Nat.mul_le_mul_right U (Nat.mod_le (WP a) 4294967296)) ?_
      rw [← T.val, ← vt]; exact pt.below
    obtain ⟨u, u1, u2, u3⟩ := rep (WP a % 4294967296 * U) (WP a % 4294967296) P1074 rfl hb hb2
    obtain ⟨p1, p2⟩ := Pos.of u2 u3
    rw [u1, T.ng]
    obtain ⟨s1, s2, s3⟩ := sgn_pos p1 (ngb a)
    exact ⟨s1, s2, by rw [s3]; exact p1.hi, by rw [V_sz s1 p1.u (by rw [s3, p1.sz]), p2]⟩
theorem u32_of {a : Int} (ha : U64 a) (hf : sz a < 9218868437227405312) : ToUint32G a = if (ngb a && decide (WP a % 4294967296 ≠ 0)) = true then 4294967296 - ((WP a % 4294967296 : Nat) : Int) else ((WP a % 4294967296 : Nat) : Int) := by
  unfold ToUint32G
  by_cases z : sz a = 0
  · have k : (kindS a != 1) = true := by unfold kindS; rw [if_pos z]; decide
    have w : WP a = 0 := by unfold WP; rw [(V_zero_iff ha).2 z, Nat.zero_div]
    rw [if_pos k, w]
    simp
  · have k : (kindS a != 1) = false := by rw [kind_some z hf]; decide
    rw [if_neg (by rw [k]; decide), toU_WP ha z]
    have hr : WP a % 4294967296 < 4294967296 := Nat.mod_lt _ (by decide)
    generalize WP a % 4294967296 = r at *
    cases ngb a
    · simp
    · by_cases c : r = 0
      · subst c; simp
      · rw [if_pos rfl, decide_eq_true c, if_pos (show (true && true) = true from rfl)]; omega
/-- a word that is not negative and whole. -/
theorem whole_word {m : Int} (hu : U64 m) (hg : ngb m = false) (hf : sz m < 9218868437227405312) (r : Nat) (h : V m = r * U) (hr : r < 4294967296) : m = FromIntG r := by
  have f0 : -9007199254740992 < (r : Int) := by omega
  have f1 : (r : Int) < 9007199254740992 := by omega
  have fu := FromInt_u64 f0 f1
  have ff := FromInt_fin f0 f1
  have fv := WP_FromInt f0 f1
  have fg : ngb (FromIntG r) = false := by
    by_cases z : (r : Int) = 0
    · rw [z, FromInt_zero]; decide +kernel
    · rw [FromInt_ngb f0 f1 z]; exact decide_eq_false (by omega)
  have h1 := nearest_self hu hf
  have h2 := nearest_self fu ff
  rw [hg, h] at h1
  rw [fg, fv, Int.natAbs_natCast] at h2
  rw [← h1, h2]
theorem add32 {m : Int} (hu : U64 m) (hg : ngb m = true) (hf : sz m < 9218868437227405312) (r : Nat) (h : V m = r * U) (h0 : r ≠ 0) (hr : r < 4294967296) : AddG m 4751297606875873280 = FromIntG (4294967296 - r) := by
  have sv : SV m = -((r * U : Nat) : Int) := by unfold SV; rw [hg, if_pos rfl, h]
  rw [add_total hu c32_pos.u hf c32_pos.fin, hg, c32_pos.ng, c32_pos.SV, V_c32, sv]
  have e : -((r * U : Nat) : Int) + ((4294967296 * U : Nat) : Int) = (((4294967296 - r) * U : Nat) : Int) := by
    rw [Nat.sub_mul]
    have : r * U ≤ 4294967296 * U := Nat.mul_le_mul_right _ (by omega)
    generalize r * U = x at *
    generalize 4294967296 * U = y at *
    omega
  rw [e]
  have hp : 0 < (4294967296 - r) * U := Nat.mul_pos (by omega) U_pos
  have e2 : Ieee.double.nearest false ((4294967296 - r) * U) (-1074) = Ieee.double.nearest false (4294967296 - r) 0 := (nearest_U false _).symm
  unfold NT
  rw [Int.natAbs_natCast]
  have e3 : (if (((4294967296 - r) * U : Nat) : Int) = 0 then (true && false) else decide ((((4294967296 - r) * U : Nat) : Int) < 0)) = false := by
    generalize (4294967296 - r) * U = x at *
    rw [if_neg (by omega)]; exact decide_eq_false (by omega)
  rw [e3, e2]
  have h2 := nearest_FromInt (k := 4294967296 - (r : Int)) (by omega) (by omega) (by omega)
  rw [decide_eq_false (by omega), show (4294967296 - (r : Int)).natAbs = 4294967296 - r by omega] at h2
  rw [h2]
  have := (FromInt_u64 (n := 4294967296 - (r : Int)) (by omega) (by omega)).lo
  omega
theorem add_some' {a b : Int} (ha : U64 a) (hb : U64 b) (h : isNaN (AddG a b) = false) : floatBits .add .f64 a.toNat b.toNat = some (AddG a b).toNat := by
  show Ieee.double.add a.toNat b.toNat = _
  have e := add_ok ha hb
  cases hm : Ieee.double.add a.toNat b.toNat with
  | none => rw [hm] at e; rw [e] at h; exact absurd C_isNaN (by rw [show (9221120237041090560 : Int) = ofO none from rfl, h]; decide)
  | some r => rw [hm] at e; rw [e]; show some r = some ((r : Int).toNat); rw [Int.toNat_natCast]
theorem u32_zero {a : Int} (h : ¬ sz a < 9218868437227405312) : ToUint32G a = 0 := by
  have k : (kindS a != 1) = true := by unfold kindS; rw [if_neg (by omega), if_neg h]; split <;> decide
  unfold ToUint32G
  rw [if_pos k]
end Go.Proofs.Ytkiakflmoplmeaa
