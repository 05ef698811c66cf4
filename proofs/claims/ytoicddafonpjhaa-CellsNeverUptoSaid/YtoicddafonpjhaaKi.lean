/- Cells, plain: what breaking does to cells of which each stands on one or on none. -/
import Derived.Test.YtoicddafonpjhaaKh
namespace Go.Proofs.Ytoicddafonpjhaa
open Go.RowKit Go
set_option linter.unusedVariables false
set_option linter.unusedSimpArgs false
/-- how many are valid. -/
def cnt : List Cl → Nat
  | [] => 0
  | x :: l => (if x.1 then 1 else 0) + cnt l
/-- how many there are, and how many stand on others. -/
def tot : List Cl → Nat
  | [] => 0
  | x :: l => x.2.length + 1 + tot l
theorem load_le_tot (l : List Cl) : load l ≤ tot l := by
  induction l with
  | nil => exact Nat.le_refl _
  | cons x l ih => unfold load tot; cases x.1 <;> simp <;> omega
theorem tot_set {l : List Cl} {i : Nat} {u : Bool} {ab : List Int} (h : l[i]? = some (u, ab)) (u' : Bool) (ab' : List Int) : tot (l.set i (u', ab')) + ab.length = tot l + ab'.length := by
  induction l generalizing i with
  | nil => simp at h
  | cons y l ih => cases i with
    | zero => simp at h; subst h; simp [tot]; omega
    | succ i => simp only [List.set_cons_succ, tot]; have := ih (i := i) (by simpa using h); omega
theorem tot_append (l m : List Cl) : tot (l ++ m) = tot l + tot m := by
  induction l with
  | nil => simp [tot]
  | cons y l ih => simp only [List.cons_append, tot]; omega
theorem cnt_set {l : List Cl} {i : Nat} {ab : List Int} (h : l[i]? = some (true, ab)) : cnt (l.set i (false, ab)) + 1 = cnt l := by
  induction l generalizing i with
  | nil => simp at h
  | cons y l ih => cases i with
    | zero => simp at h; subst h; simp [cnt]; omega
    | succ i => simp only [List.set_cons_succ, cnt]; have := ih (i := i) (by simpa using h); omega
theorem abv_len (l : List Cl) (n : Int) : (abv l n).length ≤ tot l := by
  unfold abv
  cases hx : l[n.toNat]? with
  | none => simp
  | some x =>
    simp only [Option.map_some, Option.getD_some]
    have := tot_set (l := l) (i := n.toNat) (u := x.1) (ab := x.2) hx x.1 []
    simp at this
    omega
theorem vld_nat (l : List Cl) (i : Nat) : vld l i = ((l[i]?.map Prod.fst).getD false) := by unfold vld; simp
theorem vld_neg {l : List Cl} {n : Int} (h : n < 0) : vld l n = false := by unfold vld; rw [decide_eq_false (by omega), Bool.false_and]
theorem vld_out {l : List Cl} {n : Nat} (h : l.length ≤ n) : vld l n = false := by rw [vld_nat, List.getElem?_eq_none h]; rfl
theorem vld_set {l : List Cl} {i : Nat} (h : i < l.length) (ab : List Int) (j : Nat) : vld (l.set i (false, ab)) j = (vld l j && decide (j ≠ i)) := by
  rw [vld_nat, vld_nat, List.getElem?_set]
  by_cases e : i = j
  · subst e; simp [h]
  · rw [if_neg e]; simp [Ne.symm e]
theorem abv_set {l : List Cl} {i : Nat} {u : Bool} {ab : List Int} (h : l[i]? = some (u, ab)) (u' : Bool) (j : Int) : abv (l.set i (u', ab)) j = abv l j := by
  unfold abv
  rw [List.getElem?_set]
  by_cases e : i = j.toNat
  · rw [if_pos e, if_pos (List.getElem?_eq_some_iff.1 h).1, ← e, h]; rfl
  · rw [if_neg e]
structure Brk (l r : List Cl) (t : List Int) (k k' : Nat) : Prop where
  len : r.length = l.length
  ab : ∀ i : Int, abv r i = abv l i
  le : ∀ i : Int, vld r i = true → vld l i = true
  cnt : k' + cnt r = k + cnt l
  tot : tot r = tot l
  off : ∀ x ∈ t, vld r x = false
  shut : (∀ i j : Nat, (j : Int) ∈ abv l i → vld l j = true → vld l i = true ∨ (j : Int) ∈ t) → ∀ i j : Nat, (j : Int) ∈ abv l i → vld r j = true → vld r i = true
  just : ∀ Pr : Int → Prop, (∀ x ∈ t, Pr x) → (∀ (i : Nat) (j : Int), Pr i → j ∈ abv l i → Pr j) → ∀ j : Nat, vld l j = true → vld r j = false → Pr j
theorem brk_spec (f : Nat) : ∀ (l : List Cl) (t : List Int) (k : Nat), t.length + load l ≤ f → Brk l (brk f l t k).1 t k (brk f l t k).2 := by
  induction f with
  | zero =>
    intro l t k h
    have : t = [] := List.eq_nil_of_length_eq_zero (by omega)
    subst this
    rw [brk_nil]
    exact ⟨rfl, fun _ => rfl, fun _ h => h, rfl, rfl, fun x h => absurd h (by simp), fun h i j h1 h2 => (h i j h1 h2).resolve_right (by simp), fun Pr _ _ j h1 h2 => absurd (h1.symm.trans h2) (by decide)⟩
  | succ f ih =>
    intro l t k h
    rcases List.eq_nil_or_concat t with rfl | ⟨t', x, rfl⟩
    · rw [brk_nil]
      exact ⟨rfl, fun _ => rfl, fun _ h => h, rfl, rfl, fun x h => absurd h (by simp), fun h i j h1 h2 => (h i j h1 h2).resolve_right (by simp), fun Pr _ _ j h1 h2 => absurd (h1.symm.trans h2) (by decide)⟩
    · rw [List.concat_eq_append] at h ⊢
      simp only [List.length_append, List.length_singleton] at h
      cases hv : vld l x
      · rw [brk_out hv]
        have k := ih l t' k (by omega)
        refine ⟨k.len, k.ab, k.le, k.cnt, k.tot, ?_, ?_, ?_⟩
        · intro y hy
          rw [List.mem_append, List.mem_singleton] at hy
          rcases hy with hy | rfl
          · exact k.off y hy
          · cases hr : vld (brk f l t' _).1 y
            · rfl
            · exact absurd (k.le y hr) (by rw [hv]; decide)
        · intro hs
          refine k.shut fun i j h1 h2 => ?_
          rcases hs i j h1 h2 with h3 | h3
          · exact .inl h3
          · rw [List.mem_append, List.mem_singleton] at h3
            rcases h3 with h3 | h3
            · exact .inr h3
            · rw [h3, hv] at h2; cases h2
        · intro Pr h1 h2
          exact k.just Pr (fun x hx => h1 x (by simp [hx])) h2
      · obtain ⟨x0, x1, hx⟩ := vld_pos hv
        obtain ⟨i, rfl⟩ := Int.eq_ofNat_of_zero_le x0
        rw [Int.toNat_natCast] at hx x1
        rw [brk_in hv rfl, Int.toNat_natCast]
        have ld := load_set hx
        have kk := ih (l.set i (false, abv l i)) (t' ++ abv l i) (k + 1) (by simp; omega)
        generalize brk f (l.set i (false, abv l i)) (t' ++ abv l i) (k + 1) = r at kk
        have hle : ∀ j : Nat, vld (l.set i (false, abv l i)) j = true → vld l j = true ∧ j ≠ i := fun j h => by
          rw [vld_set x1, Bool.and_eq_true] at h
          exact ⟨h.1, of_decide_eq_true h.2⟩
        refine ⟨by rw [kk.len, List.length_set], fun j => by rw [kk.ab, abv_set hx], ?_, ?_, ?_, ?_, ?_, ?_⟩
        · intro j h
          have h2 := kk.le j h
          by_cases j0 : 0 ≤ j
          · obtain ⟨j, rfl⟩ := Int.eq_ofNat_of_zero_le j0
            exact (hle j h2).1
          · rw [vld_neg (by omega)] at h; cases h
        · have := kk.cnt; have := cnt_set hx; omega
        · have := kk.tot; have := tot_set hx false (abv l i); omega
        · intro y hy
          rw [List.mem_append, List.mem_singleton] at hy
          rcases hy with hy | rfl
          · exact kk.off y (by simp [hy])
          · cases hr : vld r.1 (i : Int)
            · rfl
            · exact absurd rfl (hle i (kk.le i hr)).2
        · intro hs i' j h1 h2
          refine kk.shut ?_ i' j (by rw [abv_set hx]; exact h1) h2
          intro i1 j1 h1 h2
          rw [abv_set hx] at h1
          obtain ⟨h3, h4⟩ := hle j1 h2
          rcases hs i1 j1 h1 h3 with h5 | h5
          · by_cases e : i1 = i
            · subst e; exact .inr (by simp [h1])
            · left; rw [vld_set x1, h5, decide_eq_true e]; rfl
          · rw [List.mem_append, List.mem_singleton] at h5
            rcases h5 with h5 | h5
            · exact .inr (by simp [h5])
            · omega
        · intro Pr h1 h2 j h3 h4
          by_cases e : j = i
          · subst e; exact h1 _ (by simp)
          · refine kk.just Pr ?_ (fun i j hp hj => h2 i j hp (by rw [abv_set hx] at hj; exact hj)) j (by rw [vld_set x1, h3, decide_eq_true e]; rfl) h4
            intro y hy
            rw [List.mem_append] at hy
            rcases hy with hy | hy
            · exact h1 y (by simp [hy])
            · exact h2 i y (h1 _ (by simp)) hy
/-- cells, each of which stands on one, or on none. -/
structure St (l : List Cl) (on : List Int) : Prop where
  len : l.length = on.length
  ab : ∀ (i : Nat) (x : Int), x ∈ abv l i ↔ ∃ j : Nat, x = j ∧ on[j]? = some (i : Int) ∧ i < j
  up : ∀ j : Nat, vld l j = true → on[j]? = some (-1) ∨ ∃ i : Nat, on[j]? = some (i : Int) ∧ i < j ∧ vld l i = true
  tot : tot l ≤ 2 * l.length
theorem st_nil : St [] [] := ⟨rfl, fun i x => by simp [abv], fun j h => by simp [vld] at h, by simp [tot]⟩
theorem St.shut {l : List Cl} {on : List Int} (s : St l on) (i j : Nat) (h : (j : Int) ∈ abv l i) (h2 : vld l j = true) : vld l i = true := by
  obtain ⟨j', e, h3, h4⟩ := (s.ab i j).1 h
  have : j' = j := by omega
  subst this
  rcases s.up j' h2 with h5 | ⟨i', h5, h6, h7⟩
  · rw [h3] at h5; injection h5 with h5; omega
  · rw [h3] at h5; injection h5 with h5
    have : i = i' := by omega
    subst this; exact h7
theorem St.load {l : List Cl} {on : List Int} (s : St l on) : 1 + load l ≤ 1 + 2 * l.length := by have := s.tot; have := load_le_tot l; omega
/-- one is broken. -/
theorem St.brk {l : List Cl} {on : List Int} (s : St l on) (n : Int) : Brk l (brk (1 + _root_.Go.Proofs.Ytoicddafonpjhaa.load l) l [n] 0).1 [n] 0 (brk (1 + _root_.Go.Proofs.Ytoicddafonpjhaa.load l) l [n] 0).2 ∧ St (brk (1 + _root_.Go.Proofs.Ytoicddafonpjhaa.load l) l [n] 0).1 on := by
  have k := brk_spec (1 + _root_.Go.Proofs.Ytoicddafonpjhaa.load l) l [n] 0 (by simp)
  refine ⟨k, ?_⟩
  generalize _root_.Go.Proofs.Ytoicddafonpjhaa.brk (1 + _root_.Go.Proofs.Ytoicddafonpjhaa.load l) l [n] 0 = r at k
  refine ⟨k.len.trans s.len, fun i x => by rw [k.ab]; exact s.ab i x, ?_, by rw [k.tot, k.len]; exact s.tot⟩
  intro j h
  rcases s.up j (k.le j h) with h1 | ⟨i, h1, h2, h3⟩
  · exact .inl h1
  · exact .inr ⟨i, h1, h2, k.shut (fun i j h1 h2 => .inl (s.shut i j h1 h2)) i j ((s.ab i j).2 ⟨j, rfl, h1, h2⟩) h⟩
/-- there is such a one. -/
def inr (l : List Cl) (n : Int) : Bool := decide (0 ≤ n) && decide (n < (l.length : Int))
theorem mk_get (l : List Cl) (n : Int) (j : Nat) : (mk l n)[j]? = if j < l.length then some (vld l j, if n = j then abv l j ++ [(l.length : Int)] else abv l j) else if j = l.length then some (if inr l n = true then vld l n else n == -1, []) else none := by
  have hg : ∀ h : j < l.length, l[j]? = some (vld l j, abv l j) := fun h => by
    rw [vld_in h]; unfold abv; rw [Int.toNat_natCast, List.getElem?_eq_getElem h]; rfl
  unfold mk
  change (if inr l n = true then _ else _)[j]? = _
  by_cases h : inr l n = true
  · rw [if_pos h]
    have h' := h
    unfold inr at h'
    rw [Bool.and_eq_true] at h'
    have h0 := of_decide_eq_true h'.1
    have h1 := of_decide_eq_true h'.2
    obtain ⟨i, rfl⟩ := Int.eq_ofNat_of_zero_le h0
    rw [Int.toNat_natCast]
    by_cases hj : j < l.length
    · rw [if_pos hj, List.getElem?_append_left (by simpa using hj), List.getElem?_set]
      by_cases e : i = j
      · subst e; rw [if_pos rfl, if_pos hj, if_pos rfl]
      · rw [if_neg e, if_neg (by omega), hg hj]
    · rw [if_neg hj, List.getElem?_append_right (by simp; omega), List.length_set]
      by_cases e : j = l.length
      · subst e; rw [if_pos rfl, if_pos h, Nat.sub_self]; rfl
      · rw [if_neg e, List.getElem?_eq_none (by simp; omega)]
  · rw [if_neg h]
    by_cases hj : j < l.length
    · rw [if_pos hj, List.getElem?_append_left hj, hg hj]
      rw [if_neg (fun c => h (by unfold inr; rw [c, decide_eq_true (by omega), decide_eq_true (by omega)]; rfl))]
    · rw [if_neg hj, List.getElem?_append_right (by omega)]
      by_cases e : j = l.length
      · subst e; rw [if_pos rfl, if_neg h, Nat.sub_self]; rfl
      · rw [if_neg e, List.getElem?_eq_none (by simp; omega)]
theorem mk_len (l : List Cl) (n : Int) : (mk l n).length = l.length + 1 := by unfold mk; split <;> simp
theorem mk_vld (l : List Cl) (n : Int) (j : Nat) : vld (mk l n) j = if j = l.length then (if inr l n = true then vld l n else n == -1) else vld l j := by
  rw [vld_nat, mk_get]
  by_cases h : j < l.length
  · rw [if_pos h, if_neg (show ¬ j = l.length by omega)]; rfl
  · rw [if_neg h]
    by_cases e : j = l.length
    · rw [if_pos e, if_pos e]; rfl
    · rw [if_neg e, if_neg e, vld_out (by omega)]; rfl
theorem mk_abv (l : List Cl) (n : Int) (j : Nat) : abv (mk l n) j = if j < l.length ∧ n = j then abv l j ++ [(l.length : Int)] else if j < l.length then abv l j else [] := by
  have : abv (mk l n) j = ((mk l n)[j]?.map Prod.snd).getD [] := by unfold abv; rw [Int.toNat_natCast]
  rw [this, mk_get]
  by_cases h : j < l.length
  · rw [if_pos h]
    by_cases e : n = j
    · rw [if_pos e, if_pos ⟨h, e⟩]; rfl
    · rw [if_neg e, if_neg (fun c => e c.2), if_pos h]; rfl
  · rw [if_neg h, if_neg (show ¬ (j < l.length ∧ n = j) from fun c => h c.1), if_neg h]; split <;> rfl
theorem mk_tot (l : List Cl) (n : Int) : tot (mk l n) ≤ tot l + 2 := by
  unfold mk
  split
  · rename_i h
    rw [Bool.and_eq_true] at h
    have h0 := of_decide_eq_true h.1
    have h1 := of_decide_eq_true h.2
    obtain ⟨i, rfl⟩ := Int.eq_ofNat_of_zero_le h0
    have hi : i < l.length := by omega
    have hx : l[i]? = some (vld l i, abv l i) := by rw [vld_in hi]; unfold abv; rw [Int.toNat_natCast, List.getElem?_eq_getElem hi]; rfl
    have := tot_set hx (vld l i) (abv l i ++ [(l.length : Int)])
    rw [tot_append, Int.toNat_natCast]
    simp at this
    simp [tot]; omega
  · rw [tot_append]; simp [tot]
/-- one is made. -/
theorem st_mk {l : List Cl} {on : List Int} (s : St l on) (n : Int) : St (mk l n) (on ++ [n]) := by
  have hl := s.len
  have old : ∀ j : Nat, j < l.length → (on ++ [n])[j]? = on[j]? := fun j h => List.getElem?_append_left (by omega)
  have new : (on ++ [n])[l.length]? = some n := by rw [List.getElem?_append_right (by omega), show l.length - on.length = 0 by omega]; rfl
  have none : ∀ j : Nat, l.length < j → (on ++ [n])[j]? = none := fun j h => List.getElem?_eq_none (by simp; omega)
  refine ⟨by rw [mk_len, List.length_append, hl]; rfl, ?_, ?_, by have := mk_tot l n; have := s.tot; rw [mk_len]; omega⟩
  · intro i x
    rw [mk_abv]
    have h3 := s.ab i x
    by_cases h : i < l.length
    · have hlast : ∀ j : Nat, on[j]? = some (i : Int) → j < l.length := fun j h => by have := (List.getElem?_eq_some_iff.1 h).1; omega
      by_cases e : n = i
      · rw [if_pos ⟨h, e⟩, List.mem_append, List.mem_singleton, h3]
        constructor
        · rintro (⟨j, h4, h5, h6⟩ | rfl)
          · exact ⟨j, h4, by rw [old j (hlast j h5)]; exact h5, h6⟩
          · exact ⟨l.length, rfl, by rw [new, e], h⟩
        · rintro ⟨j, h4, h5, h6⟩
          by_cases hj : j < l.length
          · rw [old j hj] at h5; exact .inl ⟨j, h4, h5, h6⟩
          · by_cases hj2 : j = l.length
            · right; rw [h4, hj2]
            · rw [none j (by omega)] at h5; cases h5
      · rw [if_neg (fun c => e c.2), if_pos h, h3]
        constructor
        · rintro ⟨j, h4, h5, h6⟩
          exact ⟨j, h4, by rw [old j (hlast j h5)]; exact h5, h6⟩
        · rintro ⟨j, h4, h5, h6⟩
          by_cases hj : j < l.length
          · rw [old j hj] at h5; exact ⟨j, h4, h5, h6⟩
          · by_cases hj2 : j = l.length
            · rw [hj2, new] at h5; injection h5 with h5; exact absurd h5 e
            · rw [none j (by omega)] at h5; cases h5
    · rw [if_neg (fun c => h c.1), if_neg h]
      constructor
      · intro h; simp at h
      · rintro ⟨j, h4, h5, h6⟩
        rw [none j (by omega)] at h5; cases h5
  · intro j
    rw [mk_vld]
    by_cases e : j = l.length
    · subst e
      rw [if_pos rfl, new]
      by_cases hi : inr l n = true
      · rw [if_pos hi]
        unfold inr at hi
        rw [Bool.and_eq_true] at hi
        have h0 := of_decide_eq_true hi.1
        have h1 := of_decide_eq_true hi.2
        obtain ⟨i, rfl⟩ := Int.eq_ofNat_of_zero_le h0
        intro h
        exact .inr ⟨i, rfl, by omega, by rw [mk_vld, if_neg (by omega)]; exact h⟩
      · rw [if_neg hi]
        intro h
        left
        rw [beq_iff_eq] at h
        rw [h]
    · rw [if_neg e]
      intro h
      have hj : j < l.length := Nat.lt_of_not_le fun c => by rw [vld_out c] at h; cases h
      rw [old j hj]
      rcases s.up j h with h1 | ⟨i, h1, h2, h3⟩
      · exact .inl h1
      · exact .inr ⟨i, h1, h2, by rw [mk_vld, if_neg (by omega)]; exact h3⟩
theorem cnt_eq (l : List Cl) : cnt l = (List.range l.length).countP fun i => vld l (i : Nat) := by
  induction l with
  | nil => rfl
  | cons x l ih =>
    rw [List.length_cons, List.range_succ_eq_map, List.countP_cons, List.countP_map, cnt, ih]
    have h1 : vld (x :: l) ((0 : Nat) : Int) = x.1 := by rw [vld_nat]; rfl
    have h2 : (fun i : Nat => vld (x :: l) (i : Int)) ∘ Nat.succ = fun i : Nat => vld l (i : Int) := by
      funext i
      show vld (x :: l) ((i + 1 : Nat) : Int) = _
      rw [vld_nat, vld_nat]; rfl
    rw [h1, h2]
    cases x.1 <;> simp <;> omega
end Go.Proofs.Ytoicddafonpjhaa
