/- Fuse: each group is what its kind says. -/
import Derived.Test.YtblkedhkkhppnaaDn
namespace Go.Proofs.Ytblkedhkkhppnaa
open Go.RowKit Go
set_option linter.unusedVariables false
set_option linter.unusedSimpArgs false
/-- what a kind says of its instructions. -/
inductive Says (l : List En) : Int → Int → Prop
  | one : Says l 0 1
  | arith (a b c : En) (r : List En) : l = a :: b :: c :: r → three a b c = true → Says l 1 3
  | test (a b : En) (r : List En) : l = a :: b :: r → isT a b = true → Says l 2 2
  | free (a b : En) (r : List En) : l = a :: b :: r → isF a b = true → Says l 3 2
  | moves (a b : En) (r : List En) : l = a :: b :: r → isM a b = true → Says l 4 2
theorem two_says (a b : En) (r : List En) : Says (a :: b :: r) (two a b).1 (two a b).2 := by
  unfold two
  cases h1 : isT a b
  · cases h2 : isF a b
    · cases h3 : isM a b
      · exact .one
      · exact .moves a b r rfl h3
    · exact .free a b r rfl h2
  · exact .test a b r rfl h1
theorem pat_says (l : List En) : Says l (pat l).1 (pat l).2 := by
  match l with
  | [] => exact .one
  | [_] => exact .one
  | [a, b] => exact two_says a b []
  | a :: b :: c :: r =>
    rw [pat]
    cases h : three a b c
    · exact two_says a b (c :: r)
    · exact .arith a b c r rfl h
/-- .. of the code itself. -/
theorem gat_says (J : Int → Bool) (C : List En) (k : Nat) (hk : k < C.length) :
    (gat J C k = (0, 1)) ∨ (∃ a b c, gat J C k = (1, 3) ∧ C[k]? = some a ∧ C[k + 1]? = some b ∧ C[k + 2]? = some c ∧ three a b c = true) ∨
    (∃ a b, C[k]? = some a ∧ C[k + 1]? = some b ∧ ((gat J C k = (2, 2) ∧ isT a b = true) ∨ (gat J C k = (3, 2) ∧ isF a b = true) ∨ (gat J C k = (4, 2) ∧ isM a b = true))) := by
  have hs := pat_says ((C.drop k).take (span J C.length k))
  have hg : gat J C k = pat ((C.drop k).take (span J C.length k)) := rfl
  rw [← hg] at hs
  have hat : ∀ (j : Nat) (e : En) , ((C.drop k).take (span J C.length k))[j]? = some e → C[k + j]? = some e := by
    intro j e h
    rw [List.getElem?_take] at h
    split at h
    · rwa [List.getElem?_drop] at h
    · cases h
  generalize (C.drop k).take (span J C.length k) = l at hs hat
  generalize gat J C k = g at hs ⊢
  obtain ⟨g1, g2⟩ := g
  simp only at hs
  cases hs with
  | one => exact .inl rfl
  | arith a b c r e h => subst e; exact .inr (.inl ⟨a, b, c, rfl, hat 0 a rfl, hat 1 b rfl, hat 2 c rfl, h⟩)
  | test a b r e h => subst e; exact .inr (.inr ⟨a, b, hat 0 a rfl, hat 1 b rfl, .inl ⟨rfl, h⟩⟩)
  | free a b r e h => subst e; exact .inr (.inr ⟨a, b, hat 0 a rfl, hat 1 b rfl, .inr (.inl ⟨rfl, h⟩)⟩)
  | moves a b r e h => subst e; exact .inr (.inr ⟨a, b, hat 0 a rfl, hat 1 b rfl, .inr (.inr ⟨rfl, h⟩)⟩)
theorem isT_all {a b : En} (h : isT a b = true) : decide (32 ≤ a.s) = true ∧ decide (a.s ≤ 39) = true ∧ (((b.s == 58) = true) ∨ ((b.s == 58) = false ∧ (b.s == 59) = true)) ∧ (a.h == b.h) = true := by
  unfold isT tst at h
  simp only [Bool.and_eq_true, Bool.or_eq_true] at h
  obtain ⟨⟨⟨h1, h2⟩, h3⟩, h4⟩ := h
  refine ⟨h1, h2, ?_, h4⟩
  cases e : (b.s == 58)
  · right; rw [e] at h3; simpa using h3
  · left; rfl
theorem isF_all {a b : En} (h : isF a b = true) : (a.s == 10) = true ∧ (b.s == 8) = true ∧ (a.h == b.o) = true := by
  unfold isF at h
  simp only [Bool.and_eq_true] at h
  exact ⟨h.1.1, h.1.2, h.2⟩
theorem isM_all {a b : En} (h : isM a b = true) : (a.s == 3) = true ∧ (b.s == 3) = true := by
  unfold isM at h
  simpa using h
theorem beq_sym {a b : Int} (h : (a == b) = true) : (b == a) = true := by simp at h ⊢; exact h.symm
end Go.Proofs.Ytblkedhkkhppnaa
