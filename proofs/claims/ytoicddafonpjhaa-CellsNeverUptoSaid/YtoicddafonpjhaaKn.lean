/- Cells, plain: the answer's cells are the program's. -/
import Derived.Test.YtoicddafonpjhaaKm
import Derived.Test.YtoicddafonpjhaaKj
namespace Go.Proofs.Ytoicddafonpjhaa
open Go.RowKit Go
set_option linter.unusedVariables false
set_option linter.unusedSimpArgs false
/-- one stands on another, through whatever lies between them. -/
inductive Reach (on : List Int) (n : Nat) : Nat → Prop
  | here : Reach on n n
  | up {i j : Nat} : on[j]? = some (i : Int) → i < j → Reach on n i → Reach on n j
noncomputable def hitP (on : List Int) (n : Nat) (i : Nat) : Bool := @decide (Reach on n i) (Classical.propDecidable _)
theorem hitP_iff {on : List Int} {n i : Nat} : hitP on n i = true ↔ Reach on n i := @decide_eq_true_iff _ (Classical.propDecidable _)
theorem hitP_here (on : List Int) (n : Nat) : hitP on n n = true := hitP_iff.2 .here
theorem reach_ge {on : List Int} {n i : Nat} (h : Reach on n i) : n ≤ i := by
  induction h with
  | here => exact Nat.le_refl _
  | up _ h _ ih => omega
theorem hitP_up {on : List Int} {n i j : Nat} (h : on[j]? = some (i : Int)) (hij : i < j) (hn : j ≠ n) : hitP on n j = hitP on n i := by
  cases hi : hitP on n i
  · cases hj : hitP on n j
    · rfl
    · cases hitP_iff.1 hj with
      | here => exact absurd rfl hn
      | up h2 h3 h4 =>
        rw [h] at h2
        injection h2 with h2
        have := Int.ofNat.inj h2
        subst this
        exact absurd ((hitP_iff.2 h4).symm.trans hi) (by decide)
  · exact hitP_iff.2 (.up h hij (hitP_iff.1 hi))
theorem hitP_no {on : List Int} {n j : Nat} {x : Int} (h : on[j]? = some x) (hx : x < 0 ∨ (j : Int) ≤ x) (hn : j ≠ n) : hitP on n j = false := by
  cases hj : hitP on n j
  · rfl
  · cases hitP_iff.1 hj with
    | here => exact absurd rfl hn
    | up h2 h3 h4 =>
      rw [h] at h2
      injection h2 with h2
      omega
/-- what breaks, by what stands on what. -/
theorem st_brk_hit {l : List Cl} {on : List Int} (s : St l on) (n : Nat) :
    (∀ i : Nat, vld (brk (1 + load l) l [(n : Int)] 0).1 i = (vld l i && !hitP on n i)) ∧ (brk (1 + load l) l [(n : Int)] 0).2 = (List.range l.length).countP fun i => vld l (i : Nat) && hitP on n i :=
  st_brk_set s n (hitP on n) (hitP_here on n) (fun i j h1 h2 h3 => hitP_iff.2 (.up h1 h2 (hitP_iff.1 h3))) (fun j h1 h2 => by
    cases hitP_iff.1 h1 with
    | here => exact .inl rfl
    | up h2 h3 h4 => exact .inr ⟨_, h2, h3, hitP_iff.2 h4⟩)
/-- the answer's cells say what the program's say. -/
structure Alike (l : List Cl) (on : List Int) (R : List Rc) : Prop where
  st : St l on
  len : R.length = l.length
  at' : ∀ (i : Nat) (x : Int), on[i]? = some x → R[i]? = some (vld l i, x)
theorem alike_nil : Alike [] [] [] := ⟨st_nil, rfl, fun i x h => by simp at h⟩
theorem Alike.on {l : List Cl} {on : List Int} {R : List Rc} (a : Alike l on R) {i : Nat} (h : i < l.length) : ∃ x, on[i]? = some x ∧ R[i]? = some (vld l i, x) := by
  have hl := a.st.len
  exact ⟨on[i], List.getElem?_eq_getElem (by omega), a.at' i _ (List.getElem?_eq_getElem (by omega))⟩
theorem Alike.vl {l : List Cl} {on : List Int} {R : List Rc} (a : Alike l on R) (n : Int) : rvl R n = vld l n := by
  by_cases h0 : 0 ≤ n
  · obtain ⟨i, rfl⟩ := Int.eq_ofNat_of_zero_le h0
    by_cases h : i < l.length
    · obtain ⟨x, _, h2⟩ := a.on h
      unfold rvl
      rw [decide_eq_true h0, Int.toNat_natCast, h2]; rfl
    · rw [vld_out (by omega)]
      unfold rvl
      rw [Int.toNat_natCast, List.getElem?_eq_none (by have := a.len; omega)]; simp
  · rw [vld_neg (by omega)]
    unfold rvl
    rw [decide_eq_false h0]; rfl
theorem Alike.inr {l : List Cl} {on : List Int} {R : List Rc} (a : Alike l on R) (n : Int) : rinr R n = inr l n := by unfold rinr _root_.Go.Proofs.Ytoicddafonpjhaa.inr; rw [a.len]
theorem alike_mk {l : List Cl} {on : List Int} {R : List Rc} (a : Alike l on R) (n : Int) : Alike (mk l n) (on ++ [n]) (rmk R n) := by
  have hl := a.st.len
  have hr := a.len
  refine ⟨st_mk a.st n, by unfold rmk; rw [mk_len]; simp [hr], ?_⟩
  intro i x h
  rw [mk_vld]
  unfold rmk
  by_cases hi : i < l.length
  · rw [List.getElem?_append_left (by omega)] at h
    rw [if_neg (show ¬ i = l.length by omega), List.getElem?_append_left (show i < R.length by omega)]
    exact a.at' i x h
  · have e : i = l.length := by have := (List.getElem?_eq_some_iff.1 h).1; simp at this; omega
    subst e
    rw [List.getElem?_append_right (by omega), show l.length - on.length = 0 by omega] at h
    have hx : x = n := by simpa using h.symm
    subst hx
    rw [if_pos rfl, List.getElem?_append_right (by omega), show l.length - R.length = 0 by omega, a.inr, a.vl]
    rfl
/-- so far in the pass. -/
structure Pass (l : List Cl) (on : List Int) (n i : Nat) (out : List Rc) (k : Nat) : Prop where
  len : out.length = l.length
  at' : ∀ (j : Nat) (x : Int), on[j]? = some x → out[j]? = some (vld l j && !(hitP on n j && decide (j < i)), x)
  cnt : k = (List.range i).countP fun j => vld l (j : Nat) && hitP on n j
theorem pass_step {l : List Cl} {on : List Int} (s : St l on) {n i : Nat} {out : List Rc} {k : Nat} (p : Pass l on n i out k) (hni : n < i) (hi : i < l.length) :
    rhit out i = (vld l i && hitP on n i) ∧ ∃ x, on[i]? = some x ∧ ron out i = x := by
  have hl := s.len
  have hx : on[i]? = some on[i] := List.getElem?_eq_getElem (by omega)
  generalize on[i] = x at hx
  have h1 := p.at' i x hx
  rw [decide_eq_false (Nat.lt_irrefl i), Bool.and_false, Bool.not_false, Bool.and_true] at h1
  have hron : ron out i = x := by unfold ron; rw [h1]; rfl
  refine ⟨?_, x, hx, hron⟩
  unfold rhit
  rw [hron, h1]
  simp only [Option.map_some, Option.getD_some]
  cases hv : vld l i
  · rfl
  · rw [Bool.true_and, Bool.true_and]
    rcases s.up i hv with h2 | ⟨q, h2, h3, h4⟩
    · rw [hx] at h2
      injection h2 with h2
      rw [hitP_no hx (.inl (by omega)) (by omega), decide_eq_false (show ¬ 0 ≤ x by omega)]; rfl
    · rw [hx] at h2
      injection h2 with h2
      subst h2
      rw [hitP_up hx h3 (by omega), decide_eq_true (show (0 : Int) ≤ (q : Int) by omega), decide_eq_true (show (q : Int) < (i : Int) by omega)]
      have hq : on[q]? = some on[q] := List.getElem?_eq_getElem (by omega)
      have h5 := p.at' q _ hq
      unfold rvl
      rw [Int.toNat_natCast, h5, h4, decide_eq_true h3]
      cases hitP on n q <;> simp
theorem pass_loop {l : List Cl} {on : List Int} (s : St l on) {n : Nat} (f : Nat) : ∀ (i : Nat) (out : List Rc) (k : Nat), i + f = l.length → n < i → Pass l on n i out k → Pass l on n l.length (rloop f out i k).1 (rloop f out i k).2 := by
  induction f with
  | zero => intro i out k h hn p; rw [show l.length = i by omega]; exact p
  | succ f ih =>
    intro i out k h hn p
    obtain ⟨h1, x, h2, h3⟩ := pass_step s p hn (by omega)
    have hc : (List.range (i + 1)).countP (fun j => vld l (j : Nat) && hitP on n j) = (List.range i).countP (fun j => vld l (j : Nat) && hitP on n j) + (if (vld l i && hitP on n i) = true then 1 else 0) := by
      rw [List.range_succ, List.countP_append, List.countP_singleton]
    unfold rloop
    cases hh : (vld l i && hitP on n i)
    · rw [h1, hh, if_neg (by decide)]
      refine ih (i + 1) out k (by omega) (by omega) ⟨p.len, ?_, by rw [hc, hh, p.cnt]; rfl⟩
      intro j y hy
      rw [p.at' j y hy]
      by_cases e : j = i
      · subst e
        rw [decide_eq_false (Nat.lt_irrefl j), decide_eq_true (by omega)]
        congr 2
        cases hv : vld l j
        · rfl
        · rw [hv, Bool.true_and] at hh; rw [hh]; rfl
      · rw [show decide (j < i) = decide (j < i + 1) from decide_eq_decide.2 (by omega)]
    · rw [h1, hh, if_pos rfl, h3]
      have hh' := hh
      rw [Bool.and_eq_true] at hh'
      refine ih (i + 1) (out.set i (false, x)) (k + 1) (by omega) (by omega) ⟨by simp [p.len], ?_, by rw [hc, hh, p.cnt]; rfl⟩
      intro j y hy
      rw [List.getElem?_set]
      by_cases e : j = i
      · subst e
        rw [if_pos rfl, if_pos (by rw [p.len]; omega), hh'.1, hh'.2, decide_eq_true (by omega)]
        rw [h2] at hy; injection hy with hy; subst hy; rfl
      · rw [if_neg (fun c => e c.symm), p.at' j y hy, show decide (j < i) = decide (j < i + 1) from decide_eq_decide.2 (by omega)]
/-- the answer's breaking is the program's. -/
theorem alike_brk {l : List Cl} {on : List Int} {R : List Rc} (a : Alike l on R) (n : Int) : Alike (brk (1 + load l) l [n] 0).1 on (rbrk R n).1 ∧ (rbrk R n).2 = (brk (1 + load l) l [n] 0).2 := by
  have hl := a.st.len
  cases hv : vld l n
  · rw [brk_not hv]
    unfold rbrk
    rw [a.vl, hv, if_neg (by decide)]
    exact ⟨a, rfl⟩
  · obtain ⟨h0, h1, _⟩ := vld_pos hv
    obtain ⟨m, rfl⟩ := Int.eq_ofNat_of_zero_le h0
    rw [Int.toNat_natCast] at h1
    obtain ⟨k1, k2⟩ := st_brk_hit a.st m
    have hs := (a.st.brk (m : Int)).2
    unfold rbrk
    rw [a.vl, hv, if_pos rfl, Int.toNat_natCast, a.len]
    have hlen : (brk (1 + load l) l [(m : Int)] 0).1.length = l.length := by have := hs.len; omega
    generalize brk (1 + load l) l [(m : Int)] 0 = r at *
    obtain ⟨x, hx1, hx2⟩ := a.on h1
    have hron : ron R m = x := by unfold ron; rw [hx2]; rfl
    have p0 : Pass l on m (m + 1) (R.set m (false, ron R m)) 1 := by
      refine ⟨by simp [a.len], ?_, ?_⟩
      · intro j y hy
        rw [List.getElem?_set]
        by_cases e : m = j
        · subst e
          rw [if_pos rfl, if_pos (by have := a.len; omega), hitP_here, hv, decide_eq_true (by omega), hron]
          rw [hx1] at hy; injection hy with hy; subst hy; rfl
        · rw [if_neg e, a.at' j y hy]
          congr 2
          by_cases hj : j < m + 1
          · have : hitP on m j = false := by
              cases hp : hitP on m j
              · rfl
              · have := reach_ge (hitP_iff.1 hp); omega
            rw [this]; simp
          · rw [decide_eq_false hj]; simp
      · rw [List.range_succ, List.countP_append, List.countP_singleton, hitP_here, hv]
        have : (List.range m).countP (fun j => vld l (j : Nat) && hitP on m j) = 0 := by
          rw [List.countP_eq_zero]
          intro j hj
          have hj := List.mem_range.1 hj
          cases hp : hitP on m j
          · simp
          · have := reach_ge (hitP_iff.1 hp); omega
        rw [this]; rfl
    have p := pass_loop a.st (l.length - (m + 1)) (m + 1) _ _ (by omega) (by omega) p0
    refine ⟨⟨hs, by rw [p.len, hlen], ?_⟩, by rw [p.cnt, k2]⟩
    intro i y hy
    rw [p.at' i y hy, k1]
    have : i < l.length := by have := (List.getElem?_eq_some_iff.1 hy).1; omega
    rw [decide_eq_true this, Bool.and_true]
end Go.Proofs.Ytoicddafonpjhaa
