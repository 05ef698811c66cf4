/- Shapes: the plain laws on steps and on keys. -/
import Derived.Test.YtchbgececcclgaaPv
namespace Go.Proofs.Ytchbgececcclgaa
open Go.RowKit Go
set_option linter.unusedVariables false
set_option linter.unusedSimpArgs false
theorem getI_prefix {L L' : List Sh} (h : L <+: L') {n : Int} {x : Sh} (hx : getI L n = some x) : getI L' n = some x := by
  obtain ⟨h0, h1, h2⟩ := getI_some hx
  obtain ⟨t, rfl⟩ := h
  unfold getI
  rw [if_pos h0, List.getElem?_append_left (List.getElem?_eq_some_iff.1 h1).1]
  exact h1
theorem layP_pre (M : Int) (L : List Sh) (s : Sh) : L <+: (layP M L s).1 := by
  rcases (layP_laid M L s).L' with e | ⟨e, _⟩ <;> rw [e]
  · exact List.prefix_refl L
  · exact List.prefix_append L _
theorem layP_again (M : Int) (L : List Sh) (s : Sh) : layP M (layP M L s).1 s = ((layP M L s).1, (layP M L s).2) := by
  cases e : fnd s.s s.p 0 L with
  | some i => rw [layP_found e, layP_found e]
  | none =>
    by_cases hm : M ≤ (L.length : Int)
    · rw [layP_full e hm, layP_full e hm]
    · rw [layP_more e hm]
      refine layP_found (k := L.length) ?_
      rw [fnd_append, e]
      simp [fnd]
theorem addP_again (M : Int) (L : List Sh) (n : Int) (k : ByteArray) (f : Int) : (addP M (addP M L n k f).1 n k f) = ((addP M L n k f).1, (addP M L n k f).2) := by
  cases e : getI L n with
  | none =>
    have h : addP M L n k f = (L, 0, false) := by unfold addP; rw [e]
    rw [h, h]
  | some x =>
    by_cases hp : 0 ≤ plc k 0 x.l
    · have h : addP M L n k f = (L, 0, false) := by unfold addP; rw [e]; simp only; rw [if_pos hp]
      rw [h, h]
    · have h : addP M L n k f = layP M L (addS x k f) := by unfold addP; rw [e]; simp only; rw [if_neg hp]
      have h2 : addP M (layP M L (addS x k f)).1 n k f = layP M (layP M L (addS x k f)).1 (addS x k f) := by
        unfold addP; rw [getI_prefix (layP_pre M L _) e]; simp only; rw [if_neg hp]
      rw [h, h2]
      exact layP_again M L _
theorem addP_pre (M : Int) (L : List Sh) (n : Int) (k : ByteArray) (f : Int) : L <+: (addP M L n k f).1 := by
  unfold addP
  cases getI L n with
  | none => exact List.prefix_refl L
  | some x =>
    simp only
    split
    · exact List.prefix_refl L
    · exact layP_pre M L _
theorem addP_is {M : Int} {L : List Sh} {n : Int} {k : ByteArray} {f : Int} (h : (addP M L n k f).2.2 = true) : ∃ x, getI L n = some x ∧ ∃ y, getI (addP M L n k f).1 (addP M L n k f).2.1 = some y ∧ y.s = x.s ++ [⟨false, k, f⟩] ∧ y.p = x.p := by
  unfold addP at h ⊢
  cases e : getI L n with
  | none => rw [e] at h; cases h
  | some x =>
    rw [e] at h
    simp only at h ⊢
    by_cases hp : 0 ≤ plc k 0 x.l
    · rw [if_pos hp] at h; cases h
    · rw [if_neg hp] at h ⊢
      obtain ⟨y, h1, h2, h3⟩ := (layP_laid M L (addS x k f)).yes h
      exact ⟨x, rfl, y, h1, h2, h3⟩
/-- the same step comes to the same shape, another one to another. -/
theorem once_law {M : Int} {L : List Sh} {n : Int} {k k' : ByteArray} {f f' : Int} (h1 : (addP M L n k f).2.2 = true) (h2 : (addP M (addP M L n k f).1 n k' f').2.2 = true) :
    ((addP M L n k f).2.1 = (addP M (addP M L n k f).1 n k' f').2.1) ↔ (k = k' ∧ f = f') := by
  constructor
  · intro e
    obtain ⟨x, hx, y, hy, hs, hp⟩ := addP_is h1
    obtain ⟨x', hx', y', hy', hs', hp'⟩ := addP_is h2
    have e1 := getI_prefix (addP_pre M L n k f) hx
    rw [hx'] at e1
    injection e1 with e1
    subst e1
    have e2 := getI_prefix (addP_pre M (addP M L n k f).1 n k' f') hy
    rw [e, hy'] at e2
    injection e2 with e2
    subst e2
    rw [hs] at hs'
    have := (List.append_inj' hs' rfl).2
    simp at this
    exact this
  · rintro ⟨rfl, rfl⟩
    rw [addP_again]
/-- is a key among some? -/
def hasK (l : List Pr) (key : ByteArray) : Bool := l.any fun q => decide (q.k = key)
theorem hasK_snoc {l : List Pr} {k : Nat} {q : Pr} (hq : l[k]? = some q) (key : ByteArray) : hasK (l.take (k + 1)) key = (hasK (l.take k) key || decide (q.k = key)) := by
  unfold hasK
  rw [List.take_add_one, hq]
  simp
theorem hasK_plc (l : List Pr) (key : ByteArray) (n : Nat) : hasK l key = decide (0 ≤ plc key n l) := by
  induction l generalizing n with
  | nil => simp [hasK, plc]
  | cons q l ih =>
    have := ih (n + 1)
    unfold hasK at this ⊢
    rw [List.any_cons, plc]
    by_cases h : q.k = key
    · rw [if_pos h, decide_eq_true h]; simp
    · rw [if_neg h, decide_eq_false h, Bool.false_or, this]
theorem find_own {L : List Sh} (h : WF L) {n : Nat} {x : Sh} (hx : L[n]? = some x) {i : Nat} {q : Pr} (hq : x.l[i]? = some q) : findP L n q.k = ((i : Int), q.f, true) := by
  have hp := plc_own (n := 0) (h.ok x (List.mem_of_getElem? hx)).d hq
  unfold findP
  rw [getI_nat hx]
  simp only
  rw [hp, if_neg (by omega)]
  simp [flagAt, hq]
theorem find_other {L : List Sh} {n : Nat} {x : Sh} (hx : L[n]? = some x) (key : ByteArray) : (findP L n key).2.2 = hasK x.l key := by
  rw [hasK_plc x.l key 0]
  unfold findP
  rw [getI_nat hx]
  simp only
  split
  · rw [decide_eq_false (by omega)]
  · rw [decide_eq_true (by omega)]
end Go.Proofs.Ytchbgececcclgaa
