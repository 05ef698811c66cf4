/- Caches: a site kept in a variable; what holds of a site's entries. -/
import Derived.Test.YthkmmbalodedkaaCi
namespace Go.Proofs.Ythkmmbalodedkaa
open Go.RowKit Go
set_option linter.unusedVariables false
set_option linter.unusedSimpArgs false
/-- a site that lies in a variable of the call's own. -/
structure Site (w wr : World) (gs : Nat) (st : Int) (A : Option Addr) (n c : Nat) (S : List En) : Prop where
  blk : Blk wr gs 24 #[.int .i64 st, .slice A n c]
  row : wr.ownsRow (gs + 1) 26 4 (.slice A n c) n (ef S)
  bel : Below w.heap.size w wr
  hg : w.heap.size ≤ gs
  len : n ≤ 4
theorem Site.n {w wr : World} {gs : Nat} {st : Int} {A : Option Addr} {n c : Nat} {S : List En} (s : Site w wr gs st A n c S) : S.length = n := by have := s.row.1; rw [ef_length] at this; omega
theorem Site.rd {w wr : World} {gs : Nat} {st : Int} {A : Option Addr} {n c : Nat} {S : List En} (s : Site w wr gs st A n c S) : Reads wr wr.heap.size 4 A n (ef S) := Reads.of_own s.row
theorem Site.two {w wr : World} {gs : Nat} {st : Int} {A : Option Addr} {n c : Nat} {S : List En} (s : Site w wr gs st A n c S) : Two wr gs (.int .i64 st) (.slice A n c) := s.blk.two
theorem Site.lt {w wr : World} {gs : Nat} {st : Int} {A : Option Addr} {n c : Nat} {S : List En} (s : Site w wr gs st A n c S) : gs < wr.heap.size := s.blk.lt
theorem Site.later {w wr w1 : World} {gs : Nat} {st : Int} {A : Option Addr} {n c : Nat} {S : List En} (s : Site w wr gs st A n c S) (h : Below wr.heap.size wr w1) : Site w w1 gs st A n c S :=
  ⟨s.blk.below h s.blk.lt, own_below h s.row, s.bel.trans (h.mono s.bel.size), s.hg, s.len⟩
theorem Site.put {w wr w1 : World} {gs : Nat} {st st' : Int} {A A' : Option Addr} {n c n' c' : Nat} {S S' : List En} (s : Site w wr gs st A n c S) (h : Below wr.heap.size wr w1) (row : w1.ownsRow wr.heap.size 26 4 (.slice A' n' c') n' (ef S')) (hl : n' ≤ 4) :
    Site w ((w1.setCell ⟨gs, 0, none⟩ (.int .i64 st')).setCell ⟨gs, 1, none⟩ (.slice A' n' c')) gs st' A' n' c' S' := by
  have s1 := s.later h
  refine ⟨?_, ?_, (s1.bel.setCell (p := ⟨gs, 0, none⟩) s.hg _).setCell (p := ⟨gs, 1, none⟩) s.hg _, s.hg, hl⟩
  · have := (s1.blk.set_ 0 (.int .i64 st')).set_ 1 (.slice A' n' c')
    simpa using this
  · exact ownsRow_setCell_below (a := ⟨gs, 1, none⟩) (ownsRow_setCell_below (a := ⟨gs, 0, none⟩) (own_base (by have := s.lt; omega) row) (Nat.lt_succ_self gs) _) (Nat.lt_succ_self gs) _
theorem site_new (w : World) : Site w (w.alloc (.cells #[.int .i64 0, .slice none 0 0] 24)) w.heap.size 0 none 0 0 [] :=
  ⟨Blk.new w 24 _, World.ownsRow_nil _ _ _ _, (Below.refl _ _).alloc (Nat.le_refl _) _, Nat.le_refl _, by omega⟩
/-- entries of unlike shapes. -/
def Unlike (S : List En) : Prop := S.Pairwise (fun a b => a.s ≠ b.s)
theorem filter_unlike {S : List En} (h : Unlike S) (p : En → Bool) : Unlike (S.filter p) := List.Pairwise.sublist List.filter_sublist h
theorem learn_unlike (V : Int → Bool) (st : Int) {S : List En} (e : En) (h : Unlike S) : Unlike (learn V st S e).2 := by
  have hK : Unlike (S.filter (fun x => !del V e x) ++ [e]) := by
    unfold Unlike
    rw [List.pairwise_append]
    refine ⟨filter_unlike h _, List.pairwise_singleton _ _, ?_⟩
    intro a ha b hb
    simp only [List.mem_singleton] at hb
    subst hb
    have := (List.mem_filter.1 ha).2
    unfold del at this
    intro c
    rw [c] at this
    simp at this
  unfold learn
  split
  · exact List.Pairwise.nil
  · unfold after
    split
    · exact List.Pairwise.nil
    · split
      · exact hK
      · exact hK
theorem fnd_none {p : En → Bool} {S : List En} (h : ∀ x ∈ S, p x = false) : fnd p S = none := by
  induction S with
  | nil => rfl
  | cons x S ih => rw [fnd, h x (by simp)]; exact ih fun y hy => h y (by simp [hy])
theorem fnd_at {V : Int → Bool} {S : List En} (h : Unlike S) {e : En} (he : e ∈ S) : fnd (fits V e.s) S = if hld V e then some e else none := by
  induction S with
  | nil => cases he
  | cons x S ih =>
    have hp := List.pairwise_cons.1 h
    rw [fnd]
    rcases List.mem_cons.1 he with rfl | he
    · unfold fits
      cases hv : hld V e
      · simp [hv]
        exact fnd_none fun y hy => by
          have := hp.1 y hy
          have hb : (y.s == e.s) = false := beq_eq_false_iff_ne.2 (fun q => this q.symm)
          simp [hb]
      · simp [hv]
    · have hb : fits V e.s x = false := by
        unfold fits
        have := hp.1 e he
        have hb : (x.s == e.s) = false := beq_eq_false_iff_ne.2 this
        rw [hb, Bool.false_and]
      rw [hb]
      exact ih hp.2 he
end Go.Proofs.Ythkmmbalodedkaa
