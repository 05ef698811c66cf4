/- Shapes: both trees behind so many calls of a script. -/
import Derived.Test.YtchbgececcclgaaPu
namespace Go.Proofs.Ytchbgececcclgaa
open Go.RowKit Go
set_option linter.unusedVariables false
set_option linter.unusedSimpArgs false
/-- the program's tree and the document's are the plain one; nothing older than w has turned. -/
structure Sta (w wr : World) (B g z : Nat) (M : Int) (L : List Sh) : Prop where
  tree : TreeIs wr B g M L
  ref : ∃ A n c, Blk wr z 32 #[.int .i64 M, .slice A n c] ∧ RTree B wr A n L
  wf : WF L
  bel : Below w.heap.size w wr
  zB : B ≤ z
  wB : w.heap.size ≤ B
theorem Sta.next {w wr w' : World} {B g z : Nat} {M : Int} {L : List Sh} {o : Opp} {ob : Obj} {A : Option Addr} {n c : Nat} (h : Sta w wr B g z M L) (ho : o.Ok) (ht : TreeIs w' B g M (stepP M L o).1) (hr : RTree B w' A n (stepP M L o).1) (hk : Kept B (wr.alloc ob) w') :
    Sta w ((w'.setCell ⟨z, 0, none⟩ (.int .i64 M)).setCell ⟨z, 1, none⟩ (.slice A n c)) B g z M (stepP M L o).1 := by
  obtain ⟨A0, n0, c0, hb, _⟩ := h.ref
  have hb' := hk.blk (hb.alloc ob) (by decide) (by decide)
  have hb2 := hb'.set_ 0 (.int .i64 M)
  refine ⟨(ht.set32 hb' h.zB 0 _).set32 hb2 h.zB 1 _, ⟨A, n, c, hb2.set_ 1 _, (hr.set32 hb' h.zB 0 _).set32 hb2 h.zB 1 _⟩, stepP_wf M h.wf ho, ?_, h.zB, h.wB⟩
  have k := (below_alloc (o := ob) h.bel).trans (hk.bel.mono h.wB)
  exact below_set2 (below_set2 k (by have := h.wB; have := h.zB; omega)) (by have := h.wB; have := h.zB; omega)
theorem Sta.frame {w wr w' : World} {B g z : Nat} {M : Int} {L : List Sh} (h : Sta w wr B g z M L) (b : Below wr.heap.size wr w') : Sta w w' B g z M L := by
  obtain ⟨A, n, c, hb, hr⟩ := h.ref
  exact ⟨h.tree.below b, ⟨A, n, c, hb.below b hb.lt, hr.keep (Kept.below b h.tree.base)⟩, h.wf, below_via h.bel b, h.zB, h.wB⟩
/-- the first state: a new tree, and the document's empty one in a box. -/
theorem Sta.first {w w1 w2 : World} {g : Nat} {M : Int} {W : World} (hW : Below w.heap.size w W) (ht : TreeIs w1 W.heap.size g M []) (h1 : Below W.heap.size W w1) (h2 : Below w1.heap.size w1 w2) :
    Sta w (w2.alloc (.cells #[.int .i64 M, .slice none 0 0] 32)) W.heap.size g w2.heap.size M [] := by
  refine ⟨(ht.below h2).below ((Below.refl _ _).alloc (Nat.le_refl _) _), ⟨none, 0, 0, Blk.new _ _ _, RTree.nil _ _⟩, WF.nil, ?_, ?_, hW.size⟩
  · exact below_alloc (below_via (below_via hW h1) h2)
  · have := h1.size; have := h2.size; omega
theorem far_small {M : Int} {m : Nat} {L : List Sh} (h : Far M m L) (hm : m ≤ 174763) : 2 * L.length + 2 ≤ 1000000000000 := by
  have h1 := h.many
  have : m * bigN ≤ 174763 * bigN := Nat.mul_le_mul_right _ hm
  have e : 174763 * bigN = 183252462251 := by unfold bigN; decide
  omega
theorem run_take {M : Int} {Os : List Opp} {k : Nat} {o : Opp} (h : Os[k]? = some o) : runP M [] (Os.take (k + 1)) = (stepP M (runP M [] (Os.take k)) o).1 := by
  rw [List.take_add_one, h, runP_append]
  rfl
theorem far_take {M : Int} {Os : List Opp} (hO : ∀ o ∈ Os, o.Ok) : ∀ k, k ≤ Os.length → k ≤ 1048576 → Far M k (runP M [] (Os.take k)) := by
  intro k
  induction k with
  | zero => intro _ _; simpa [runP] using Far.zero M
  | succ k ih =>
    intro hk hk2
    have hx : Os[k]? = some (Os[k]'(by omega)) := List.getElem?_eq_getElem _
    rw [run_take hx]
    exact ((ih (by omega) (by omega)).step (hO _ (List.mem_of_getElem? hx)) (by omega)).1
theorem wf_run {M : Int} {L : List Sh} (h : WF L) {Os : List Opp} (hO : ∀ o ∈ Os, o.Ok) : WF (runP M L Os) := by
  induction Os generalizing L with
  | nil => exact h
  | cons o Os ih => exact ih (stepP_wf M h (hO o (by simp))) (fun x hx => hO x (by simp [hx]))
end Go.Proofs.Ytchbgececcclgaa
