/- Cells, plain: which break, and how many; rows that the laws make. -/
import Derived.Test.YtoicddafonpjhaaKi
namespace Go.Proofs.Ytoicddafonpjhaa
open Go.RowKit Go
set_option linter.unusedVariables false
set_option linter.unusedSimpArgs false
theorem countP_split (v P : Nat → Bool) (L : List Nat) : L.countP (fun i => v i && !P i) + L.countP (fun i => v i && P i) = L.countP v := by
  induction L with
  | nil => rfl
  | cons x L ih => simp only [List.countP_cons]; cases v x <;> cases P x <;> simp <;> omega
/-- of one not valid. -/
theorem brk_not {l : List Cl} {n : Int} (h : vld l n = false) : brk (1 + load l) l [n] 0 = (l, 0) := by
  rw [Nat.add_comm]
  have := brk_out (f := load l) (l := l) (t := []) (x := n) (k := 0) h
  rw [List.nil_append] at this
  rw [this, brk_nil]
/-- which break. -/
theorem st_brk_set {l : List Cl} {on : List Int} (s : St l on) (n : Nat) (P : Nat → Bool) (h1 : P n = true) (h2 : ∀ i j : Nat, on[j]? = some (i : Int) → i < j → P i = true → P j = true)
    (h3 : ∀ j : Nat, P j = true → j < l.length → j = n ∨ ∃ i : Nat, on[j]? = some (i : Int) ∧ i < j ∧ P i = true) :
    (∀ i : Nat, vld (brk (1 + load l) l [(n : Int)] 0).1 i = (vld l i && !P i)) ∧ (brk (1 + load l) l [(n : Int)] 0).2 = (List.range l.length).countP fun i => vld l (i : Nat) && P i := by
  obtain ⟨k, s'⟩ := s.brk n
  generalize brk (1 + load l) l [(n : Int)] 0 = r at k s'
  have hv : ∀ i : Nat, vld r.1 i = (vld l i && !P i) := by
    intro i
    cases hl : vld l i
    · cases hr : vld r.1 i
      · rfl
      · exact absurd ((k.le i hr).symm.trans hl) (by decide)
    · rw [Bool.true_and]
      cases hp : P i
      · cases hr : vld r.1 i
        · have := k.just (fun x => ∃ j : Nat, x = j ∧ P j = true) (fun x hx => ⟨n, by simpa using hx, h1⟩) (fun i' x ⟨j', e, hp⟩ hx => by
            have e : i' = j' := by omega
            subst e
            obtain ⟨j, e2, h5, h6⟩ := (s.ab i' x).1 hx
            exact ⟨j, e2, h2 i' j h5 h6 hp⟩) i hl hr
          obtain ⟨j, e, hj⟩ := this
          have e : i = j := by omega
          subst e
          exact absurd (hj.symm.trans hp) (by decide)
        · rfl
      · have : ∀ m, ∀ j : Nat, j < m → P j = true → vld r.1 j = false := by
          intro m
          induction m with
          | zero => intro j h; omega
          | succ m ih =>
            intro j hj hp
            by_cases hjl : j < l.length
            · rcases h3 j hp hjl with rfl | ⟨p, h5, h6, h7⟩
              · exact k.off _ (by simp)
              · have hf := ih p (by omega) h7
                cases hr : vld r.1 j
                · rfl
                · exact absurd ((s'.shut p j (by rw [k.ab]; exact (s.ab p j).2 ⟨j, rfl, h5, h6⟩) hr).symm.trans hf) (by decide)
            · exact vld_out (by rw [k.len]; omega)
        exact this (i + 1) i (by omega) hp
  refine ⟨hv, ?_⟩
  have hc := k.cnt
  rw [cnt_eq r.1, cnt_eq l, k.len] at hc
  rw [show (fun i : Nat => vld r.1 (i : Int)) = fun i : Nat => vld l (i : Int) && !P i from funext fun i => hv i] at hc
  have := countP_split (fun i : Nat => vld l (i : Int)) P (List.range l.length)
  omega
/-- a row that was made by a rule, all valid. -/
structure Row (g : Nat → Int) (l : List Cl) (k : Nat) : Prop where
  st : St l ((List.range k).map g)
  ok : ∀ i : Nat, i < k → vld l i = true
theorem Row.len {g : Nat → Int} {l : List Cl} {k : Nat} (r : Row g l k) : l.length = k := by have := r.st.len; simpa using this
theorem row_nil (g : Nat → Int) : Row g [] 0 := ⟨st_nil, fun i h => by omega⟩
theorem row_mk {g : Nat → Int} {l : List Cl} {k : Nat} (r : Row g l k) (h : g k = -1 ∨ (0 ≤ g k ∧ g k < k)) : Row g (mk l (g k)) (k + 1) := by
  refine ⟨?_, ?_⟩
  · rw [List.range_succ, List.map_append]; exact st_mk r.st (g k)
  · intro i hi
    rw [mk_vld, r.len]
    by_cases e : i = k
    · subst e
      rw [if_pos rfl]
      rcases h with h | ⟨h1, h2⟩
      · rw [h]; split
        · rename_i c; unfold inr at c; simp at c
        · rfl
      · rw [if_pos (by unfold inr; rw [r.len, decide_eq_true h1, decide_eq_true h2]; rfl)]
        obtain ⟨j, hj⟩ := Int.eq_ofNat_of_zero_le h1
        rw [hj]
        exact r.ok j (by omega)
    · rw [if_neg e]; exact r.ok i (by omega)
theorem row_on (g : Nat → Int) (k j : Nat) (i : Int) : ((List.range k).map g)[j]? = some i ↔ j < k ∧ g j = i := by
  rw [List.getElem?_map]
  by_cases h : j < k
  · rw [List.getElem?_range h]; simp [h]
  · rw [List.getElem?_eq_none (by simpa using h)]; simp [h]
/-- each on the one ahead of it. -/
def gc (j : Nat) : Int := (j : Int) - 1
theorem chain_mk {l : List Cl} {k : Nat} (r : Row gc l k) : Row gc (mk l ((k : Int) - 1)) (k + 1) := row_mk r (by unfold gc; omega)
theorem count_from (n a : Nat) : (List.range n).countP (fun i => decide (a ≤ i)) = n - a := by
  induction n with
  | zero => simp
  | succ n ih =>
    rw [List.range_succ, List.countP_append, ih]
    by_cases h : a ≤ n
    · simp [h]; omega
    · simp [h]; omega
theorem chain_brk {l : List Cl} {k : Nat} (r : Row gc l k) (m : Nat) (hm : m < k) : (∀ i : Nat, i < k → vld (brk (1 + load l) l [(m : Int)] 0).1 i = decide ((i : Int) < m)) ∧ (((brk (1 + load l) l [(m : Int)] 0).2 : Nat) : Int) = (k : Int) - m := by
  obtain ⟨h1, h2⟩ := st_brk_set r.st m (fun i => decide (m ≤ i)) (by simp)
    (fun i j h1 h2 h3 => by have := of_decide_eq_true h3; exact decide_eq_true (by omega))
    (fun j h1 h2 => by
      have h3 := of_decide_eq_true h1
      rw [r.len] at h2
      by_cases e : j = m
      · exact .inl e
      · exact .inr ⟨j - 1, (row_on gc k j _).2 ⟨h2, by unfold gc; omega⟩, by omega, decide_eq_true (by omega)⟩)
  constructor
  · intro i hi
    rw [h1, r.ok i hi, Bool.true_and]
    by_cases c : m ≤ i
    · rw [decide_eq_true c, decide_eq_false (by omega)]; rfl
    · rw [decide_eq_false c, decide_eq_true (by omega)]; rfl
  · rw [h2, r.len]
    rw [List.countP_congr (q := fun i => decide (m ≤ i)) (fun i hi => by rw [r.ok i (List.mem_range.1 hi), Bool.true_and]), count_from]
    omega
/-- two rows: on 0 so many, on 1 the others. -/
def ga (a : Nat) (j : Nat) : Int := if j ≤ 1 then -1 else if j = 2 then 0 else if j = a + 2 then 1 else (j : Int) - 1
theorem apart_start (a : Nat) : Row (ga a) (mk (mk [] (-1)) (-1)) 2 := by
  have h := row_mk (row_nil (ga a)) (by simp [ga])
  have e : ga a 0 = -1 := by simp [ga]
  rw [e] at h
  have h2 := row_mk h (by simp [ga])
  have e : ga a (0 + 1) = -1 := by simp [ga]
  rw [e] at h2
  exact h2
theorem apart_p {a : Nat} {l : List Cl} {i : Nat} (r : Row (ga a) l (2 + i)) (hi : i < a) : Row (ga a) (mk l (if i = 0 then 0 else (i : Int) + 1)) (2 + (i + 1)) := by
  have e : ga a (2 + i) = if i = 0 then 0 else (i : Int) + 1 := by
    unfold ga
    rw [if_neg (by omega)]
    by_cases z : i = 0
    · subst z; rfl
    · rw [if_neg (by omega), if_neg (by omega), if_neg z]; omega
  have := row_mk r (by rw [e]; split <;> omega)
  rw [e] at this
  exact this
theorem apart_q {a : Nat} {l : List Cl} {i : Nat} (r : Row (ga a) l (2 + a + i)) (ha : 1 ≤ a) : Row (ga a) (mk l (if i = 0 then 1 else (a : Int) + 1 + i)) (2 + a + (i + 1)) := by
  have e : ga a (2 + a + i) = if i = 0 then 1 else (a : Int) + 1 + i := by
    unfold ga
    rw [if_neg (by omega), if_neg (by omega)]
    by_cases z : i = 0
    · subst z; rw [if_pos (by omega)]; rfl
    · rw [if_neg (by omega), if_neg z]; omega
  have := row_mk r (by rw [e]; split <;> omega)
  rw [e] at this
  exact this
def pX (a : Nat) (i : Nat) : Bool := decide (i = 0 ∨ (2 ≤ i ∧ i ≤ a + 1))
def pY (a : Nat) (i : Nat) : Bool := decide (i = 1 ∨ a + 2 ≤ i)
theorem count_x (n a : Nat) (h : a + 2 ≤ n) : (List.range n).countP (pX a) = a + 1 := by
  have : ∀ n, (List.range n).countP (pX a) = if n = 0 then 0 else 1 + (min n (a + 2) - 2) := by
    intro n
    induction n with
    | zero => rfl
    | succ n ih =>
      rw [List.range_succ, List.countP_append, ih, List.countP_singleton, if_neg (show ¬ n + 1 = 0 by omega)]
      by_cases c : n = 0 ∨ (2 ≤ n ∧ n ≤ a + 1)
      · rw [if_pos (show pX a n = true from decide_eq_true c)]
        by_cases z : n = 0
        · rw [if_pos z]; omega
        · rw [if_neg z]; omega
      · rw [if_neg (show ¬ pX a n = true from fun h => c (of_decide_eq_true h)), if_neg (by omega)]; omega
  rw [this, if_neg (by omega)]; omega
theorem count_y (n a : Nat) (h : a + 2 ≤ n) : (List.range n).countP (pY a) = n - (a + 2) + 1 := by
  have : ∀ n, (List.range n).countP (pY a) = if n ≤ 1 then 0 else 1 + (n - (a + 2)) := by
    intro n
    induction n with
    | zero => rfl
    | succ n ih =>
      rw [List.range_succ, List.countP_append, ih, List.countP_singleton]
      by_cases c : n = 1 ∨ a + 2 ≤ n
      · rw [if_pos (show pY a n = true from decide_eq_true c), if_neg (show ¬ n + 1 ≤ 1 by omega)]
        by_cases z : n ≤ 1
        · rw [if_pos z]; omega
        · rw [if_neg z]; omega
      · rw [if_neg (show ¬ pY a n = true from fun h => c (of_decide_eq_true h))]
        by_cases z : n ≤ 1
        · rw [if_pos z, if_pos (by omega)]
        · rw [if_neg z, if_neg (by omega)]; omega
  rw [this, if_neg (by omega)]; omega
theorem pXY (a i : Nat) : pX a i = !pY a i := by unfold pX pY; by_cases h : i = 1 ∨ a + 2 ≤ i <;> simp [h] <;> omega
theorem ga_set (a : Nat) (ha : 1 ≤ a) (k i j : Nat) (h : ((List.range k).map (ga a))[j]? = some (i : Int)) (hij : i < j) : pX a i = pX a j := by
  obtain ⟨h1, h2⟩ := (row_on (ga a) k j i).1 h
  unfold ga at h2
  unfold pX
  by_cases j1 : j ≤ 1
  · rw [if_pos j1] at h2; omega
  · rw [if_neg j1] at h2
    by_cases j2 : j = 2
    · rw [if_pos j2] at h2
      rw [decide_eq_true (by omega), decide_eq_true (by omega)]
    · rw [if_neg j2] at h2
      by_cases j3 : j = a + 2
      · rw [if_pos j3] at h2
        rw [decide_eq_false (by omega), decide_eq_false (by omega)]
      · rw [if_neg j3] at h2
        by_cases c : j ≤ a + 1
        · rw [decide_eq_true (by omega), decide_eq_true (by omega)]
        · rw [decide_eq_false (by omega), decide_eq_false (by omega)]
theorem ga_up (a : Nat) (ha : 1 ≤ a) (k j : Nat) (hj : j < k) (h2 : 2 ≤ j) : ∃ i : Nat, ((List.range k).map (ga a))[j]? = some (i : Int) ∧ i < j := by
  by_cases j2 : j = 2
  · exact ⟨0, (row_on (ga a) k j _).2 ⟨hj, by unfold ga; rw [if_neg (by omega), if_pos j2]; rfl⟩, by omega⟩
  · by_cases j3 : j = a + 2
    · exact ⟨1, (row_on (ga a) k j _).2 ⟨hj, by unfold ga; rw [if_neg (by omega), if_neg j2, if_pos j3]; rfl⟩, by omega⟩
    · exact ⟨j - 1, (row_on (ga a) k j _).2 ⟨hj, by unfold ga; rw [if_neg (by omega), if_neg j2, if_neg j3]; omega⟩, by omega⟩
/-- what both breaks answer. -/
theorem apart_brk {a b : Nat} {l : List Cl} (ha : 1 ≤ a) (hb : 1 ≤ b) (r : Row (ga a) l (2 + a + b)) :
    ∃ l1 l2, brk (1 + load l) l [((0 : Nat) : Int)] 0 = (l1, a + 1) ∧ vld l1 ((a + 1 : Nat) : Int) = false ∧ vld l1 ((a + 1 + b : Nat) : Int) = true ∧ vld l1 ((1 : Nat) : Int) = true ∧ brk (1 + load l1) l1 [((1 : Nat) : Int)] 0 = (l2, b + 1) ∧ St l1 ((List.range (2 + a + b)).map (ga a)) := by
  obtain ⟨h1, h2⟩ := st_brk_set r.st 0 (pX a) (by simp [pX])
    (fun i j h1 h2 h3 => by rw [← ga_set a ha _ i j h1 h2]; exact h3)
    (fun j h1 h2 => by
      rw [r.len] at h2
      by_cases e : j = 0
      · exact .inl e
      · have : 2 ≤ j := by have := of_decide_eq_true h1; omega
        obtain ⟨i, k1, k2⟩ := ga_up a ha (2 + a + b) j h2 this
        exact .inr ⟨i, k1, k2, by rw [ga_set a ha _ i j k1 k2]; exact h1⟩)
  have hs := (r.st.brk ((0 : Nat) : Int)).2
  generalize brk (1 + load l) l [((0 : Nat) : Int)] 0 = x at *
  obtain ⟨l1, n⟩ := x
  have e : n = a + 1 := by
    simp only at h2
    rw [h2, r.len]
    rw [List.countP_congr (q := pX a) (fun i hi => by rw [r.ok i (List.mem_range.1 hi), Bool.true_and]), count_x _ _ (by omega)]
  subst e
  simp only at h1 hs
  have ll : l1.length = 2 + a + b := by have := hs.len; simpa using this
  have hv : ∀ i : Nat, i < 2 + a + b → vld l1 i = pY a i := fun i hi => by rw [h1, r.ok i hi, Bool.true_and, pXY, Bool.not_not]
  obtain ⟨k1, k2⟩ := st_brk_set hs 1 (pY a) (by simp [pY])
    (fun i j h1 h2 h3 => by
      have := ga_set a ha _ i j h1 h2
      rw [pXY, pXY, h3] at this
      simpa using this.symm)
    (fun j h1 h2 => by
      rw [ll] at h2
      by_cases e : j = 1
      · exact .inl e
      · have : 2 ≤ j := by have := of_decide_eq_true h1; omega
        obtain ⟨i, k1, k2⟩ := ga_up a ha (2 + a + b) j h2 this
        refine .inr ⟨i, k1, k2, ?_⟩
        have := ga_set a ha _ i j k1 k2
        rw [pXY, pXY, h1] at this
        simpa using this)
  obtain ⟨y, hy⟩ : ∃ y, brk (1 + load l1) l1 [((1 : Nat) : Int)] 0 = y := ⟨_, rfl⟩
  rw [hy] at k1 k2
  obtain ⟨l2, m⟩ := y
  have e : m = b + 1 := by
    simp only at k2
    rw [k2, ll]
    rw [List.countP_congr (q := pY a) (fun i hi => by rw [hv i (List.mem_range.1 hi), Bool.and_self]), count_y _ _ (by omega)]
    omega
  subst e
  refine ⟨l1, l2, rfl, ?_, ?_, ?_, hy, hs⟩
  · rw [hv _ (by omega)]; exact decide_eq_false (by omega)
  · rw [hv _ (by omega)]; exact decide_eq_true (by omega)
  · rw [hv _ (by omega)]; exact decide_eq_true (by omega)
end Go.Proofs.Ytoicddafonpjhaa
