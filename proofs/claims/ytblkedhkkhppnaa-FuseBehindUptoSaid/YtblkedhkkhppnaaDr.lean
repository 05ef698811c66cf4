/- Fuse: instructions gathered. -/
import Derived.Test.YtblkedhkkhppnaaDq
namespace Go.Proofs.Ytblkedhkkhppnaa
open Go.RowKit Go
set_option linter.unusedVariables false
set_option linter.unusedSimpArgs false
theorem info38 : (Try.prog.info? 38).map (fun i => (i.zero, i.size, i.bytes)) = some (some (.agg #[.int .i64 0, .int .i64 0, .int .i64 0, .int .i64 0]), 4, 32) := by kernel_rfl
/-- a list of instructions of the call's own. -/
structure Bag4 (w wr : World) (v : Value) (n : Nat) (l : List En) : Prop where
  bel : Below w.heap.size w wr
  own : wr.ownsRow w.heap.size 38 4 v n (ef l)
theorem Bag4.len {w wr : World} {v : Value} {n : Nat} {l : List En} (h : Bag4 w wr v n l) : l.length = n := by have := h.own.1; rw [ef_length] at this; omega
theorem Bag4.later {w wr w1 : World} {v : Value} {n : Nat} {l : List En} (h : Bag4 w wr v n l) (hb : Below wr.heap.size wr w1) : Bag4 w w1 v n l := ⟨below_via h.bel hb, own_below hb h.own⟩
theorem Bag4.grow {w wr w1 : World} {v v' : Value} {n m : Nat} {l l' : List En} (h : Bag4 w wr v n l) (hg : wr.grownBy w1 v.ownBlock) (ho : w1.ownsRow w.heap.size 38 4 v' (n + m) (ef l ++ ef l')) : Bag4 w w1 v' (n + m) (l ++ l') :=
  ⟨h.bel.grown hg h.bel.size (fun k hk => (h.own.lt k hk).1), by rw [ef_append]; exact ho⟩
theorem Bag4.none_ (w : World) : Bag4 w w (.slice none 0 0) 0 [] := ⟨Below.refl _ _, World.ownsRow_nil _ _ _ _⟩
theorem Reads_at_en (w : World) (e : En) (g : Nat) (hg : w.heap.size = g) : Reads (w.alloc (.cells #[.int .i64 e.s, .int .i64 e.h, .int .i64 e.o, .int .i64 e.c] 38)) (g + 1) 4 (some ⟨g, 0, none⟩) 1 (ef [e]) := by
  subst hg
  refine ⟨rfl, fun _ => ⟨_, rfl, by show w.heap.size < w.heap.size + 1; omega, fun j u hj => ?_⟩⟩
  have e1 : (⟨w.heap.size, 0, none⟩ : Addr).add j = ⟨w.heap.size, j, none⟩ := by unfold Addr.add; split <;> simp_all
  rw [e1]; refine ((Blk.new w 38 #[.int .i64 e.s, .int .i64 e.h, .int .i64 e.o, .int .i64 e.c]).cell j).trans ?_
  exact (List.getElem?_toArray ..).trans hj
theorem Bag4.cap {w wr : World} {A : Option Addr} {n c : Nat} {l : List En} (h : Bag4 w wr (.slice A n c) n l) : n ≤ c ∨ (A = none ∧ n = 0) := by
  rcases h.own.2 with ⟨h1, h2⟩ | ⟨g, cap, cur, h1, h2, h3, h4, h5, h6, h7⟩
  · injection h1 with e1 _ e3; exact .inr ⟨e1, h2⟩
  · injection h1 with e1 _ e3; subst e3; exact .inl h4
theorem Bag4.cap2 {w wr : World} {A : Option Addr} {n c : Nat} {l : List En} (h : Bag4 w wr (.slice A n c) n l) : n ≤ c ∧ c ≤ 9223372036854775807 := by
  rcases h.own.2 with ⟨h1, h2⟩ | ⟨g, cap, cur, h1, h2, h3, h4, h5, h6, h7⟩
  · injection h1 with e1 _ e3; subst e3; omega
  · injection h1 with e1 _ e3; subst e3; unfold maxLen at h5; omega
/-- the header with other code. -/
def Hd.with (h : Hd) (A : Option Addr) (n c : Nat) : Hd := ⟨h.nm, h.pa, h.re, h.ge, A, n, c, h.Ak, h.nk, h.ck, h.Ap, h.np, h.cp, h.Ah, h.nh, h.ch⟩
theorem with_is {w0 w1 wr : World} {h : Hd} {C D : List En} {T : List Tr} {A : Option Addr} {n c : Nat} (hi : h.Is w0 C T) (hb : Below w0.heap.size w0 w1) (B : Bag4 (w1.alloc (.cells h.b 27)) wr (.slice A n c) n D) (hn : n ≤ 2097152) :
    (h.with A n c).Is (wr.setCell ⟨w1.heap.size, 4, none⟩ (.slice A n c)) D T := by
  have hs := hb.size
  have h2 := B.bel.size
  rw [size_alloc] at h2
  have hown := ownsRow_setCell_below (a := ⟨w1.heap.size, 4, none⟩) B.own (by show w1.heap.size < _; rw [size_alloc]; omega) (.slice A n c)
  have hbw : Below w0.heap.size w0 wr := below_via (below_alloc hb (.cells h.b 27)) B.bel
  have hz : (wr.setCell ⟨w1.heap.size, 4, none⟩ (.slice A n c)).heap.size = wr.heap.size := by simp [World.setCell]
  refine ⟨Reads.of_own hown, ?_, by show n * 32 ≤ _; omega, hi.nh⟩
  exact ((hi.hand.below hbw).setCell (by show w0.heap.size ≤ w1.heap.size; omega) _).more (by rw [hz]; exact hbw.size)
end Go.Proofs.Ytblkedhkkhppnaa
