/- Shapes: what stays while a script runs. -/
import Derived.Test.YtchbgececcclgaaPw
namespace Go.Proofs.Ytchbgececcclgaa
open Go.RowKit Go
set_option linter.unusedVariables false
set_option linter.unusedSimpArgs false
theorem run_takeL {M : Int} {L : List Sh} {Os : List Opp} {k : Nat} {o : Opp} (h : Os[k]? = some o) : runP M L (Os.take (k + 1)) = (stepP M (runP M L (Os.take k)) o).1 := by
  rw [List.take_add_one, h, runP_append]
  rfl
theorem keysP_some {L : List Sh} {i : Nat} {x : Sh} (hx : L[i]? = some x) : keysP L (i : Int) = x.l := by unfold keysP; rw [getI_nat hx]
theorem step_top {M : Int} {L : List Sh} (h : WF L) (hl : (L.length : Int) ≤ M) {o : Opp} (ho : o.Ok) : ((stepP M L o).1.length : Int) ≤ M ∧ L <+: (stepP M L o).1 := by
  rcases stepP_stepped M h ho (K := L.length) (fun x hx => by
    obtain ⟨i, hi⟩ := List.mem_iff_getElem?.1 hx
    have := (h.depth i x hi).1
    have := (List.getElem?_eq_some_iff.1 hi).1
    omega) with g | g
  · exact ⟨by have := g.top; omega, g.pre⟩
  · rw [g]; exact ⟨hl, List.prefix_refl L⟩
theorem run_top {M : Int} {Os : List Opp} (hO : ∀ o ∈ Os, o.Ok) : ∀ {L : List Sh}, WF L → (L.length : Int) ≤ M → ((runP M L Os).length : Int) ≤ M ∧ L <+: runP M L Os := by
  induction Os with
  | nil => intro L _ hl; exact ⟨hl, List.prefix_refl L⟩
  | cons o Os ih =>
    intro L h hl
    obtain ⟨h1, h2⟩ := step_top h hl (hO o (by simp))
    obtain ⟨h3, h4⟩ := ih (fun x hx => hO x (by simp [hx])) (stepP_wf M h (hO o (by simp))) h1
    exact ⟨h3, h2.trans h4⟩
theorem Kept3.trans {B : Nat} {a b c : World} (h : Kept3 B a b) (k : Kept3 B b c) : Kept3 B a c :=
  ⟨Nat.le_trans h.size k.size, fun x hx ho => by
    have e := h.keep x hx ho
    rw [k.keep x (Nat.lt_of_lt_of_le hx h.size) (ho.imp id fun ⟨cs, t, hc⟩ => ⟨cs, t, e.trans hc.1, hc.2⟩), e]⟩
theorem Sta.fix {w wr w' : World} {B g z : Nat} {M : Int} {L : List Sh} {ob : Obj} {size n : Nat} {A : Option Addr} {xs : List Value} (h : Sta w wr B g z M L) (hk : Kept B (wr.alloc ob) w') (hf : Fix B wr size A n xs) (u v : Value) :
    Fix B ((w'.setCell ⟨z, 0, none⟩ u).setCell ⟨z, 1, none⟩ v) size A n xs := by
  obtain ⟨A0, n0, c0, hb, _⟩ := h.ref
  have hb' := hk.blk (hb.alloc ob) (by decide) (by decide)
  have k0 := (Kept.below ((Below.refl wr.heap.size wr).alloc (Nat.le_refl _) ob) h.tree.base).trans hk
  exact hf.keep3 ((k0.three.trans (Kept3.set32 hb' h.zB 0 u)).trans (Kept3.set32 (hb'.set_ 0 u) h.zB 1 v))
end Go.Proofs.Ytchbgececcclgaa
