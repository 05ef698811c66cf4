/- Fuse: the groups of some code, in plain words. -/
import Derived.Test.YtblkedhkkhppnaaDf
namespace Go.Proofs.Ytblkedhkkhppnaa
open Go.RowKit Go
set_option linter.unusedVariables false
set_option linter.unusedSimpArgs false
/-- how many instructions there are up to the next start, three at most. -/
def span (J : Int → Bool) (n k : Nat) : Nat := if k + 1 < n ∧ J ((k : Int) + 1) = false then (if k + 2 < n ∧ J ((k : Int) + 2) = false then 3 else 2) else 1
/-- the group that begins at a place: its kind, its length. -/
def gat (J : Int → Bool) (C : List En) (k : Nat) : Int × Int := pat ((C.drop k).take (span J C.length k))
def grp (J : Int → Bool) (C : List En) : Nat → Nat → List Tr
  | 0, _ => []
  | f + 1, k => if k < C.length then ⟨k, (gat J C k).2, (gat J C k).1⟩ :: grp J C f (k + (gat J C k).2.toNat) else []
/-- the groups. -/
def grps (J : Int → Bool) (C : List En) : List Tr := grp J C C.length 0
theorem two_two (a b : En) : (two a b).2 = 1 ∨ (two a b).2 = 2 := by
  unfold two
  split
  · right; rfl
  · split
    · right; rfl
    · split
      · right; rfl
      · left; rfl
theorem pat_len (l : List En) : 1 ≤ (pat l).2 ∧ (pat l).2 ≤ 3 ∧ (0 < l.length → (pat l).2 ≤ l.length) := by
  match l with
  | [] => simp [pat]
  | [_] => simp [pat]
  | [a, b] => have := two_two a b; simp only [pat, List.length_cons, List.length_nil]; omega
  | a :: b :: c :: l =>
    have := two_two a b
    simp only [pat, List.length_cons]
    split <;> simp <;> omega
theorem pat_take (l : List En) (r : Nat) : pat (l.take r) = pat (l.take (min r 3)) := by
  by_cases h : r ≤ 3
  · rw [Nat.min_eq_left h]
  · rw [Nat.min_eq_right (by omega)]
    match l with
    | [] => simp
    | [_] => rw [List.take_of_length_le (by simp; omega), List.take_of_length_le (by simp)]
    | [a, b] => rw [List.take_of_length_le (by simp; omega), List.take_of_length_le (by simp)]
    | a :: b :: c :: l =>
      obtain ⟨q, rfl⟩ : ∃ q, r = q + 3 := ⟨r - 3, by omega⟩
      rfl
theorem span_bd (J : Int → Bool) (n k : Nat) (h : k < n) : 1 ≤ span J n k ∧ span J n k ≤ 3 ∧ k + span J n k ≤ n := by
  unfold span
  split
  · split <;> omega
  · omega
theorem gat_bd (J : Int → Bool) (C : List En) (k : Nat) (h : k < C.length) : 1 ≤ (gat J C k).2 ∧ (gat J C k).2 ≤ 3 ∧ (gat J C k).2 ≤ span J C.length k := by
  obtain ⟨h1, h2, h3⟩ := span_bd J C.length k h
  have hl : ((C.drop k).take (span J C.length k)).length = span J C.length k := by rw [List.length_take, List.length_drop]; omega
  obtain ⟨g1, g2, g3⟩ := pat_len ((C.drop k).take (span J C.length k))
  rw [hl] at g3
  exact ⟨g1, g2, g3 (by omega)⟩
theorem grp_fuel (J : Int → Bool) (C : List En) : ∀ (f f' k : Nat), C.length ≤ f + k → C.length ≤ f' + k → grp J C f k = grp J C f' k := by
  intro f
  induction f with
  | zero =>
    intro f' k h h'
    cases f' with
    | zero => rfl
    | succ f' => rw [grp, grp, if_neg (by omega)]
  | succ f ih =>
    intro f' k h h'
    cases f' with
    | zero => rw [grp, grp, if_neg (by omega)]
    | succ f' =>
      rw [grp, grp]
      by_cases hk : k < C.length
      · obtain ⟨g1, g2, g3⟩ := gat_bd J C k hk
        rw [if_pos hk, if_pos hk, ih f' _ (by omega) (by omega)]
      · rw [if_neg hk, if_neg hk]
theorem grp_step (J : Int → Bool) (C : List En) (k : Nat) (h : k < C.length) : grp J C C.length k = ⟨k, (gat J C k).2, (gat J C k).1⟩ :: grp J C C.length (k + (gat J C k).2.toNat) := by
  obtain ⟨g1, g2, g3⟩ := gat_bd J C k h
  rw [grp_fuel J C C.length (C.length + 1) k (by omega) (by omega), grp, if_pos h]
theorem grp_end (J : Int → Bool) (C : List En) (k : Nat) (h : ¬ k < C.length) : grp J C C.length k = [] := by
  rw [grp_fuel J C C.length (C.length + 1) k (by omega) (by omega), grp, if_neg h]
theorem has_mem (L : List Int) (x : Int) : has L x = true ↔ x ∈ L := by
  induction L with
  | nil => simp [has]
  | cons y L ih => rw [has, Bool.or_eq_true, ih, List.mem_cons, beq_iff_eq]; exact ⟨fun h => h.imp_left Eq.symm, fun h => h.imp_left Eq.symm⟩
theorem has_eq {L M : List Int} (h : ∀ y, y ∈ L ↔ y ∈ M) : has L = has M := by
  funext x
  have h1 := has_mem L x
  have h2 := has_mem M x
  rw [h x] at h1
  cases e : has L x
  · cases e' : has M x
    · rfl
    · exact absurd (h1.2 (h2.1 e')) (by rw [e]; decide)
  · exact (h2.2 (h1.1 e)).symm
/-- what room is: the least start behind, or the end. -/
theorem room_is {L : List Int} {n k : Nat} (hk : k < n) (hr : Rising L) : (k : Int) + 1 ≤ room L n k ∧ room L n k ≤ n ∧ (room L n k = n ∨ room L n k ∈ L) ∧ ∀ z ∈ L, (k : Int) + 1 ≤ z → room L n k ≤ z := by
  unfold room
  cases h : L.find? (fun y => decide ((k : Int) + 1 ≤ y)) with
  | none =>
    rw [List.find?_eq_none] at h
    refine ⟨by simp only []; omega, by simp, .inl rfl, fun z hz hk => ?_⟩
    have := h z hz
    simp at this; omega
  | some y =>
    have h1 := List.find?_some h
    have h2 := List.mem_of_find?_eq_some h
    simp only [decide_eq_true_eq] at h1
    refine ⟨by simp only []; omega, by simp only []; omega, by rcases Int.le_total (n : Int) y with c | c; · left; simp only []; omega
                                                               · right; simp only []; rw [show min (n : Int) y = y by omega]; exact h2, fun z hz hkz => ?_⟩
    rw [List.find?_eq_some_iff_getElem] at h
    obtain ⟨_, i, hi, e, hlt⟩ := h
    obtain ⟨j, hj, e'⟩ := List.getElem_of_mem hz
    simp only []
    rcases Nat.lt_or_ge j i with c | c
    · have := hlt j c
      simp [e'] at this; omega
    · have := rising_le hr (List.getElem?_eq_getElem hi) (List.getElem?_eq_getElem hj) c
      rw [e, e'] at this
      omega
theorem room_span {L : List Int} {n k : Nat} (hk : k < n) (hr : Rising L) : min ((room L n k).toNat - k) 3 = span (has L) n k := by
  obtain ⟨h1, h2, h3, h4⟩ := room_is (L := L) hk hr
  have h4' : ∀ z, has L z = true → (k : Int) + 1 ≤ z → room L n k ≤ z := fun z hz => h4 z ((has_mem L z).1 hz)
  have h3' : room L n k = n ∨ has L (room L n k) = true := h3.imp_right (has_mem L _).2
  generalize room L n k = rm at *
  unfold span
  by_cases c1 : k + 1 < n ∧ has L ((k : Int) + 1) = false
  · rw [if_pos c1]
    have e1 : rm ≠ (k : Int) + 1 := by
      intro e
      rcases h3' with h | h
      · omega
      · rw [e, c1.2] at h; cases h
    by_cases c2 : k + 2 < n ∧ has L ((k : Int) + 2) = false
    · rw [if_pos c2]
      have e2 : rm ≠ (k : Int) + 2 := by
        intro e
        rcases h3' with h | h
        · omega
        · rw [e, c2.2] at h; cases h
      omega
    · rw [if_neg c2]
      by_cases c3 : k + 2 < n
      · have := h4' ((k : Int) + 2) (by cases e : has L ((k : Int) + 2); exact absurd ⟨c3, e⟩ c2; rfl) (by omega)
        omega
      · omega
  · rw [if_neg c1]
    by_cases c3 : k + 1 < n
    · have := h4' ((k : Int) + 1) (by cases e : has L ((k : Int) + 1); exact absurd ⟨c3, e⟩ c1; rfl) (by omega)
      omega
    · omega
theorem room_gat {L : List Int} {C : List En} {k : Nat} (hk : k < C.length) (hr : Rising L) : pat ((C.drop k).take ((room L C.length k).toNat - k)) = gat (has L) C k := by
  rw [pat_take, room_span hk hr, gat]
theorem grp_len (J : Int → Bool) (C : List En) : ∀ f k : Nat, k ≤ C.length → (grp J C f k).length + k ≤ C.length := by
  intro f
  induction f with
  | zero => intro k h; simpa [grp] using h
  | succ f ih =>
    intro k h
    rw [grp]
    by_cases hk : k < C.length
    · obtain ⟨g1, g2, g3⟩ := gat_bd J C k hk
      obtain ⟨_, _, s3⟩ := span_bd J C.length k hk
      have := ih (k + (gat J C k).2.toNat) (by omega)
      rw [if_pos hk, List.length_cons]
      omega
    · rw [if_neg hk]; simpa using h
theorem grps_len (J : Int → Bool) (C : List En) : (grps J C).length ≤ C.length := by have := grp_len J C C.length 0 (Nat.zero_le _); unfold grps; omega
end Go.Proofs.Ytblkedhkkhppnaa
