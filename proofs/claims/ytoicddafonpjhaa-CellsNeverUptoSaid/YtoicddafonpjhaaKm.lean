/- The answer's cells: one broken, as a row. -/
import Derived.Test.YtoicddafonpjhaaKl
namespace Go.Proofs.Ytoicddafonpjhaa
open Go.RowKit Go
set_option linter.unusedVariables false
set_option linter.unusedSimpArgs false
def ron (R : List Rc) (i : Nat) : Int := (R[i]?.map Prod.snd).getD 0
def rhit (R : List Rc) (i : Nat) : Bool := ((R[i]?.map Prod.fst).getD false) && (decide (0 ≤ ron R i) && (decide (ron R i < (i : Int)) && !rvl R (ron R i)))
def rloop : Nat → List Rc → Nat → Nat → List Rc × Nat
  | 0, out, _, k => (out, k)
  | f + 1, out, i, k => if rhit out i = true then rloop f (out.set i (false, ron out i)) (i + 1) (k + 1) else rloop f out (i + 1) k
theorem rrow_at {w : World} {base g cap m : Nat} {R : List Rc} (r : w.ownsRow base 34 2 (.slice (some ⟨g, 0, none⟩) m cap) m (rflat R)) (hm : R.length = m) (i : Nat) (h : i < m) :
    w.cell? ⟨g, i * 2, none⟩ = some (.bool ((R[i]?.map Prod.fst).getD false)) ∧ w.cell? ⟨g, i * 2 + 1, none⟩ = some (.int .i64 (ron R i)) ∧ w.frozen? ⟨g, i * 2, none⟩ = false := by
  subst hm
  rcases rrow_slice r with ⟨e, _⟩ | ⟨g', cap', e, _, hall, _⟩
  · cases e
  · injection e with e1 e2 e3
    injection e1 with e1
    injection e1 with e1
    subst e1
    have := hall i h
    unfold ron
    rw [List.getElem?_eq_getElem h]
    exact this
theorem rrow_store {w : World} {base g cap m : Nat} {R : List Rc} (r : w.ownsRow base 34 2 (.slice (some ⟨g, 0, none⟩) m cap) m (rflat R)) (hm : R.length = m) (i : Nat) (h : i < m) :
    (w.setCell ⟨g, i * 2, none⟩ (.bool false)).ownsRow base 34 2 (.slice (some ⟨g, 0, none⟩) m cap) m (rflat (R.set i (false, ron R i))) := by
  have hi : i < R.length := by omega
  have e : ron R i = R[i].2 := by unfold ron; rw [List.getElem?_eq_getElem hi]; rfl
  rw [e, rflat_set R i false hi]
  exact (World.ownsRow.stored r (i * 2) (.bool false)).1
set_option maxRecDepth 100000 in
set_option maxHeartbeats 4000000 in
theorem rBreak_walk (w : World) (g cap m i0 : Nat) (R : List Rc) (hm : R.length = m) (hl : m < 1000000) (hi0 : i0 < m) (hcap : m ≤ cap) (c1 : w.cell? ⟨g, i0 * 2, none⟩ = some (.bool true))
    (hsrc : ∀ j x, (rflat R)[j]? = some x → (w.alloc (.cells #[] 34)).cell? ((⟨g, 0, none⟩ : Addr).add j) = some x) :
    Calls Try.prog 11 #[.slice (some ⟨g, 0, none⟩) m cap, .int .i64 i0] w fun e w' => ∃ v', e = .returned (.tuple #[v', .int .i64 (rloop (m - (i0 + 1)) (R.set i0 (false, ron R i0)) (i0 + 1) 1).2]) ∧
      w'.ownsRow w.heap.size 34 2 v' m (rflat (rloop (m - (i0 + 1)) (R.set i0 (false, ron R i0)) (i0 + 1) 1).1) ∧ Below w.heap.size w w' := by
  obtain ⟨i34, hi, hz0, hz1, hz2⟩ := info_parts Try.info34
  have O1 := Lib.hid (own_empty w)
  have B1 := Lib.hid ((Below.refl w.heap.size w).alloc (Nat.le_refl _) (.cells #[] 34))
  have SR := Lib.hid hsrc
  have HL := Lib.hid (show (rflat R).length = m * 2 by rw [rflat_length, hm])
  have HO := Lib.hid (rflat_one R)
  have HM := Lib.hid hm
  obtain ⟨RES, hres⟩ : ∃ RES, rloop (m - (i0 + 1)) (R.set i0 (false, ron R i0)) (i0 + 1) 1 = RES := ⟨_, rfl⟩
  rw [hres]
  have HRES := Lib.hid hres
  have hlt : (i0 : Int) < m := by omega
  clear hsrc hm hres
  go_enter Try.func11, Try.ntmps11
  go_wp2_with (first | (at_builtin; first | (refine wpList_append_freshN rfl (.tmp 27) (.tmp 28) 25 rfl w.heap.size 34 i34 _ 2 16 Try.underlying25 hi hz0 hz1 hz2 rfl (by decide) _ _ _ rfl O1.out ⟨g, 0, none⟩ m cap (rflat R) rfl HL.out SR.out HO.out (by unfold maxLen; omega) (by omega) B1.out.size ?_; intro v1 w1 hown hgrow _; replace hgrow := Lib.hid (B1.out.grown hgrow B1.out.size (fun q hq => (O1.out.lt q hq).1)); rw [Nat.zero_add, List.nil_append] at hown; obtain ⟨g1, cp, rfl⟩ := own_slice hown (by omega); obtain ⟨x1, _, x3⟩ := rrow_at hown HM.out i0 hi0; replace hown := Lib.hid hown)))
  rename 0 ≤ (i0 : Int) ∧ ¬ m ≤ i0 => hbr
  have HI := Lib.hid hi0
  have K0 := Lib.hid (show (w1.setCell ⟨g1, i0 * 2, none⟩ (.bool false)).ownsRow w.heap.size 34 2 (.slice (some ⟨g1, 0, none⟩) m cp) m (rflat (R.set i0 (false, ron R i0))) ∧ Below w.heap.size w (w1.setCell ⟨g1, i0 * 2, none⟩ (.bool false)) from
    ⟨rrow_store hown.out HM.out i0 hi0, hgrow.out.setCell ((hown.out.lt g1 rfl).1) _⟩)
  clear hbr hlt hi0 hown hgrow x1 x3 c1
  go_loopg [7, 8] (m - (i0 + 1)) (fun f k i wr => ∃ (out : List Rc) (kn n : Nat), k = .int .i64 kn ∧ i = .int .i64 n ∧ n + f = m ∧ kn ≤ n ∧ out.length = m ∧ rloop f out n kn = RES ∧ wr.ownsRow w.heap.size 34 2 (.slice (some ⟨g1, 0, none⟩) m cp) m (rflat out) ∧ Below w.heap.size w wr)
  case atStart => exact ⟨R.set i0 (false, ron R i0), 1, i0 + 1, rfl, by simp, by have := HI.out; omega, by omega, by simp [HM.out], HRES.out, K0.out.1, K0.out.2⟩
  case round =>
    obtain ⟨out, kn, n, rfl, rfl, hf, hkn, hol, hr, hown, hbel⟩ := hrel
    have HOW := Lib.hid hown
    have HB := Lib.hid hbel
    have HRr := Lib.hid hr
    have HOL := Lib.hid hol
    by_cases hn : n < m
    · have hn' : (n : Int) < m := by omega
      obtain ⟨y1, y2, y3⟩ := rrow_at hown hol n hn
      obtain ⟨f', hf'⟩ : ∃ f', gk = f' + 1 := ⟨gk - 1, by omega⟩
      obtain ⟨on, hon⟩ : ∃ on, ron out n = on := ⟨_, rfl⟩
      obtain ⟨u, hu⟩ : ∃ u, (out[n]?.map Prod.fst).getD false = u := ⟨_, rfl⟩
      have hh : rhit out n = (u && (decide (0 ≤ on) && (decide (on < (n : Int)) && !rvl out on))) := by unfold rhit; rw [hu, hon]
      rw [hon] at y2
      rw [hu] at y1
      have hstep : rloop gk out n kn = if rhit out n = true then rloop f' (out.set n (false, ron out n)) (n + 1) (kn + 1) else rloop f' out (n + 1) kn := by rw [hf']; rfl
      rw [hr] at hstep
      have HSt := Lib.hid hstep
      have HH := Lib.hid hh
      have HF' := Lib.hid hf'
      have HON := Lib.hid hon
      have miss : rhit out n = false → rloop f' out (n + 1) kn = RES := fun c => by have := HSt.out; rw [c] at this; exact this.symm
      have MISS := Lib.hid miss
      have hitt : rhit out n = true → rloop f' (out.set n (false, ron out n)) (n + 1) (kn + 1) = RES := fun c => by have := HSt.out; rw [c] at this; exact this.symm
      have HIT := Lib.hid hitt
      clear hown hbel hr hol hstep hh hf' hon hu miss hitt
      cases u
      · go_wp2
        go_roundg f'
        case measure => have := HF'.out; omega
        case rel => exact ⟨out, kn, n + 1, rfl, by simp, by have := HF'.out; omega, by omega, HOL.out, MISS.out (by rw [HH.out]; rfl), HOW.out, HB.out⟩
      · by_cases h0 : 0 ≤ on
        · by_cases h1 : on < n
          · obtain ⟨p, rfl⟩ := Int.eq_ofNat_of_zero_le h0
            have hp : p < m := by omega
            obtain ⟨z1, _, _⟩ := rrow_at HOW.out HOL.out p hp
            have e : rvl out (p : Int) = (out[p]?.map Prod.fst).getD false := by unfold rvl; rw [decide_eq_true h0, Int.toNat_natCast]; rfl
            rw [← e] at z1
            have hpi : (p : Int) < m := by omega
            cases hv : rvl out (p : Int)
            · rw [hv] at z1
              have HV := Lib.hid hv
              clear hv e
              go_wp2
              go_roundg f'
              case measure => have := HF'.out; omega
              case rel => exact ⟨out.set n (false, ron out n), kn + 1, n + 1, by simp, by simp, by have := HF'.out; omega, by omega, by simp [HOL.out], HIT.out (by rw [HH.out, HV.out, decide_eq_true h0, decide_eq_true h1]; rfl), rrow_store HOW.out HOL.out n hn, HB.out.setCell ((HOW.out.lt g1 rfl).1) _⟩
            · rw [hv] at z1
              have HV := Lib.hid hv
              clear hv e
              go_wp2
              go_roundg f'
              case measure => have := HF'.out; omega
              case rel => exact ⟨out, kn, n + 1, rfl, by simp, by have := HF'.out; omega, by omega, HOL.out, MISS.out (by rw [HH.out, HV.out]; simp), HOW.out, HB.out⟩
          · go_wp2
            go_roundg f'
            case measure => have := HF'.out; omega
            case rel => exact ⟨out, kn, n + 1, rfl, by simp, by have := HF'.out; omega, by omega, HOL.out, MISS.out (by rw [HH.out, decide_eq_false (show ¬ on < (n : Int) by omega)]; simp), HOW.out, HB.out⟩
        · go_wp2
          go_roundg f'
          case measure => have := HF'.out; omega
          case rel => exact ⟨out, kn, n + 1, rfl, by simp, by have := HF'.out; omega, by omega, HOL.out, MISS.out (by rw [HH.out, decide_eq_false (show ¬ 0 ≤ on by omega)]; simp), HOW.out, HB.out⟩
    · have e : n = m := by omega
      have e2 : gk = 0 := by omega
      subst e e2
      have hR : RES = (out, kn) := HRr.out.symm
      subst hR
      clear hown hbel hr hol
      go_wp2
      go_ret2
      exact ⟨_, rfl, HOW.out, HB.out⟩
/-- one broken. -/
def rbrk (R : List Rc) (n : Int) : List Rc × Nat := if rvl R n = true then rloop (R.length - (n.toNat + 1)) (R.set n.toNat (false, ron R n.toNat)) (n.toNat + 1) 1 else (R, 0)
theorem own_mono {w : World} {base base' : Nat} {e : TypeId} {s : Nat} {v : Value} {n : Nat} {xs : List Value} (hb : base ≤ base') (h : w.ownsRow base' e s v n xs) : w.ownsRow base e s v n xs := by
  obtain ⟨h1, h2⟩ := h
  refine ⟨h1, ?_⟩
  rcases h2 with h2 | ⟨g, cap, cur, e1, e2, e3⟩
  · exact .inl h2
  · exact .inr ⟨g, cap, cur, e1, by omega, e3⟩
theorem rloop_len (f : Nat) : ∀ out i k, (rloop f out i k).1.length = out.length := by
  induction f with
  | zero => intros; rfl
  | succ f ih => intro out i k; unfold rloop; split <;> simp [ih]
theorem rbrk_len (R : List Rc) (n : Int) : (rbrk R n).1.length = R.length := by unfold rbrk; split <;> simp [rloop_len]
set_option maxRecDepth 100000 in
set_option maxHeartbeats 4000000 in
theorem rBreak_off (w : World) (v : Value) (m : Nat) (n : Int) (hv : (v = .slice none 0 0 ∧ m = 0) ∨ ∃ g cap, v = .slice (some ⟨g, 0, none⟩) m cap ∧ m ≤ cap ∧ ∀ i : Nat, n = i → i < m → w.cell? ⟨g, i * 2, none⟩ = some (.bool false)) :
    Calls Try.prog 11 #[v, .int .i64 n] w fun e w' => e = .returned (.tuple #[v, .int .i64 0]) ∧ w' = w := by
  rcases hv with ⟨rfl, rfl⟩ | ⟨g, cap, rfl, hcap, hc⟩
  · by_cases h0 : n < 0
    · go_enter Try.func11, Try.ntmps11
      go_wp2
      all_goals go_ret2
      all_goals exact ⟨rfl, rfl⟩
    · have h1 : n ≥ 0 := by omega
      go_enter Try.func11, Try.ntmps11
      go_wp2
      all_goals go_ret2
      all_goals exact ⟨rfl, rfl⟩
  · by_cases h0 : n < 0
    · clear hc
      go_enter Try.func11, Try.ntmps11
      go_wp2
      all_goals go_ret2
      all_goals exact ⟨rfl, rfl⟩
    · by_cases h1 : n < m
      · obtain ⟨i, rfl⟩ := Int.eq_ofNat_of_zero_le (show 0 ≤ n by omega)
        have c := hc i rfl (by omega)
        clear hc
        go_enter Try.func11, Try.ntmps11
        go_wp2
        all_goals go_ret2
        all_goals exact ⟨rfl, rfl⟩
      · clear hc
        have h2 : n ≥ m := by omega
        go_enter Try.func11, Try.ntmps11
        go_wp2
        all_goals go_ret2
        all_goals exact ⟨rfl, rfl⟩
theorem rBreak_calls (w : World) (base : Nat) (v : Value) (R : List Rc) (n : Int) (r : w.ownsRow base 34 2 v R.length (rflat R)) (hb : base ≤ w.heap.size) (hl : R.length < 1000000) :
    Calls Try.prog 11 #[v, .int .i64 n] w fun e w' => ∃ v', e = .returned (.tuple #[v', .int .i64 (rbrk R n).2]) ∧ w'.ownsRow base 34 2 v' (rbrk R n).1.length (rflat (rbrk R n).1) ∧ Below w.heap.size w w' ∧ (v' = v ∨ ∀ q, v'.ownBlock = some q → w.heap.size ≤ q) := by
  have hlen := rbrk_len R n
  by_cases h : rvl R n = true
  · have h' := h
    unfold rvl at h'
    rw [Bool.and_eq_true] at h'
    obtain ⟨i, rfl⟩ := Int.eq_ofNat_of_zero_le (of_decide_eq_true h'.1)
    rw [Int.toNat_natCast] at h'
    have hi : i < R.length := Nat.lt_of_not_le fun c => by rw [List.getElem?_eq_none c] at h'; simp at h'
    rcases rrow_slice r with ⟨rfl, rfl⟩ | ⟨g, cap, rfl, hcap, hall, hsrc⟩
    · simp at hi
    · have := rBreak_walk w g cap R.length i R rfl hl hi hcap (by rw [rvl_in hi] at h; rw [← h]; exact (hall i hi).1) (fun j x hj => World.ownsRow.cells (r.alloc (.cells #[] 34)) (g := g) rfl j x hj)
      refine this.mono ?_
      rintro e w' ⟨v', h1, h2, h3⟩
      have e1 : rbrk R (i : Int) = rloop (R.length - (i + 1)) (R.set i (false, ron R i)) (i + 1) 1 := by unfold rbrk; rw [if_pos h, Int.toNat_natCast]
      rw [← e1] at h1 h2
      exact ⟨v', h1, by rw [hlen]; exact own_mono hb h2, h3, .inr fun q hq => (h2.lt q hq).1⟩
  · have e1 : rbrk R n = (R, 0) := by unfold rbrk; rw [if_neg h]
    rw [e1]
    refine (rBreak_off w v R.length n ?_).mono ?_
    · rcases rrow_slice r with ⟨rfl, rfl⟩ | ⟨g, cap, rfl, hcap, hall, hsrc⟩
      · exact .inl ⟨rfl, rfl⟩
      · refine .inr ⟨g, cap, rfl, hcap, fun i e hi => ?_⟩
        subst e
        rw [rvl_in hi] at h
        rw [(hall i hi).1]
        cases hx : R[i].1
        · rfl
        · exact absurd hx h
    · rintro e w' ⟨rfl, rfl⟩
      exact ⟨v, rfl, r, Below.refl _ _, .inl rfl⟩
end Go.Proofs.Ytoicddafonpjhaa
