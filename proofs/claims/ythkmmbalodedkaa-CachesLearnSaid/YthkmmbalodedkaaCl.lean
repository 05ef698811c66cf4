/- Caches: a site that goes forward. -/
import Derived.Test.YthkmmbalodedkaaCk
namespace Go.Proofs.Ythkmmbalodedkaa
open Go.RowKit Go
set_option linter.unusedVariables false
set_option linter.unusedSimpArgs false
/-- what Learn answers: its state is no less, and one of three; it has four entries at most, and none at its end; else the new one is among them. -/
theorem learn_says (V : Int → Bool) {st : Int} (L : List En) (e : En) (h0 : 0 ≤ st) (h3 : st ≤ 3) : ∃ st' K, learn V st L e = (st', K) ∧ st ≤ st' ∧ 1 ≤ st' ∧ st' ≤ 3 ∧ K.length ≤ 4 ∧ ((st' = 3 ∧ K = []) ∨ (st' ≠ 3 ∧ 0 < K.length ∧ e ∈ K)) := by
  unfold learn
  split
  · exact ⟨3, [], rfl, by omega, by omega, by omega, by simp, .inl ⟨rfl, rfl⟩⟩
  · unfold after
    split
    · exact ⟨3, [], rfl, by omega, by omega, by omega, by simp, .inl ⟨rfl, rfl⟩⟩
    · split
      · exact ⟨2, _, rfl, by omega, by omega, by omega, by omega, .inr ⟨by omega, by simp, by simp⟩⟩
      · rename_i h1 h2 h4
        refine ⟨1, _, rfl, ?_, by omega, by omega, by omega, .inr ⟨by omega, by simp, by simp⟩⟩
        by_cases q : st = 2
        · exact absurd (.inr q) h4
        · omega
/-- within a round. -/
structure Rnd (w wr w2 : World) (st : Int) (As : Option Addr) (n cs : Nat) (S : List En) (st' : Int) (A1 : Option Addr) (n1 c1 : Nat) (K : List En) (e : En) (Av : Option Addr) (mv cv gt : Nat) : Prop where
  site : Site w w2 (w.heap.size + 1) st As n cs S
  v : Blk w2 w.heap.size 27 #[.slice Av mv cv]
  t : Blk w2 gt 24 #[.int .i64 st', .slice A1 n1 c1]
  e : Blk w2 wr.heap.size 26 #[.int .i64 e.s, .int .i64 e.h, .int .i64 e.o, .int .i64 e.c]
  row : w2.ownsRow wr.heap.size 26 4 (.slice A1 n1 c1) n1 (ef K)
  bel : Below wr.heap.size wr w2
  lt : w.heap.size + 1 < wr.heap.size
theorem Rnd.later {w wr w2 w3 : World} {st : Int} {As : Option Addr} {n cs : Nat} {S : List En} {st' : Int} {A1 : Option Addr} {n1 c1 : Nat} {K : List En} {e : En} {Av : Option Addr} {mv cv gt : Nat} (r : Rnd w wr w2 st As n cs S st' A1 n1 c1 K e Av mv cv gt) (h : Below w2.heap.size w2 w3) : Rnd w wr w3 st As n cs S st' A1 n1 c1 K e Av mv cv gt :=
  ⟨r.site.later h, r.v.below h r.v.lt, r.t.below h r.t.lt, r.e.below h r.e.lt, own_below h r.row, r.bel.trans (h.mono r.bel.size), r.lt⟩
theorem Rnd.n {w wr w2 : World} {st : Int} {As : Option Addr} {n cs : Nat} {S : List En} {st' : Int} {A1 : Option Addr} {n1 c1 : Nat} {K : List En} {e : En} {Av : Option Addr} {mv cv gt : Nat} (r : Rnd w wr w2 st As n cs S st' A1 n1 c1 K e Av mv cv gt) : K.length = n1 := by have := r.row.1; rw [ef_length] at this; omega
/-- what the walk reads within a round. -/
structure RndF (w wr w2 : World) (st : Int) (As : Option Addr) (n cs : Nat) (st' : Int) (A1 : Option Addr) (n1 c1 : Nat) (e : En) (Av : Option Addr) (mv cv gt : Nat) : Prop where
  s : Two w2 (w.heap.size + 1) (.int .i64 st) (.slice As n cs)
  v : w2.cell? ⟨w.heap.size, 0, none⟩ = some (.slice Av mv cv)
  t : Two w2 gt (.int .i64 st') (.slice A1 n1 c1)
  e : Four w2 wr.heap.size (.int .i64 e.s) (.int .i64 e.h) (.int .i64 e.o) (.int .i64 e.c)
theorem Rnd.f {w wr w2 : World} {st : Int} {As : Option Addr} {n cs : Nat} {S : List En} {st' : Int} {A1 : Option Addr} {n1 c1 : Nat} {K : List En} {e : En} {Av : Option Addr} {mv cv gt : Nat} (r : Rnd w wr w2 st As n cs S st' A1 n1 c1 K e Av mv cv gt) : RndF w wr w2 st As n cs st' A1 n1 c1 e Av mv cv gt :=
  ⟨r.site.two, r.v.cell 0, r.t.two, r.e.four⟩
theorem unlike_at {K : List En} (h : Unlike K) {i j : Nat} {a b : En} (ha : K[i]? = some a) (hb : K[j]? = some b) (hij : j < i) : (a.s == b.s) = false := by
  obtain ⟨h1, h2⟩ := List.getElem?_eq_some_iff.1 ha
  obtain ⟨h3, h4⟩ := List.getElem?_eq_some_iff.1 hb
  have := List.pairwise_iff_getElem.1 h j i h3 h1 hij
  rw [h2, h4] at this
  exact beq_eq_false_iff_ne.2 (fun q => this q.symm)
theorem forward_site {w w' : World} {st : Int} {K : List En} {n : Nat} {r : Ending} (h : SiteIs w (st, K) r w') (hn : K.length = n) :
    ∃ A c, r = .returned (siteV st A n c) ∧ w'.ownsRow w.heap.size 26 4 (.slice A n c) n (ef K) ∧ Below w.heap.size w w' := by
  obtain ⟨A, c, h1, h2, h3, h4⟩ := h
  simp only [hn] at h1 h2
  exact ⟨A, c, h1, h2, h4⟩
/-- what lay there before the newest variable was laid. -/
theorem RndF_old {w wr w1 : World} {st : Int} {As : Option Addr} {n cs : Nat} {S : List En} {st' : Int} {A1 : Option Addr} {n1 c1 : Nat} {K : List En} {e : En} {Av : Option Addr} {mv cv : Nat} {o : Obj}
    (hR : Rnd w wr (w1.alloc o) st As n cs S st' A1 n1 c1 K e Av mv cv w1.heap.size) (h1 : w.heap.size + 1 < w1.heap.size) (h2 : wr.heap.size < w1.heap.size) :
    (w1.cell? ⟨w.heap.size + 1, 0, none⟩ = some (.int .i64 st) ∧ w1.cell? ⟨w.heap.size + 1, 1, none⟩ = some (.slice As n cs) ∧ True ∧ True) ∧ w1.cell? ⟨w.heap.size, 0, none⟩ = some (.slice Av mv cv) ∧ True ∧
    (w1.cell? ⟨wr.heap.size, 0, none⟩ = some (.int .i64 e.s) ∧ w1.cell? ⟨wr.heap.size, 1, none⟩ = some (.int .i64 e.h) ∧ w1.cell? ⟨wr.heap.size, 2, none⟩ = some (.int .i64 e.o) ∧ w1.cell? ⟨wr.heap.size, 3, none⟩ = some (.int .i64 e.c) ∧ True ∧ True ∧ True ∧ True) := by
  have old : ∀ (b j : Nat), b < w1.heap.size → (w1.alloc o).cell? ⟨b, j, none⟩ = w1.cell? ⟨b, j, none⟩ := fun b j h => World.cell?_alloc_lt w1 o ⟨b, j, none⟩ h
  have f := hR.f
  refine ⟨⟨(old _ _ h1).symm.trans f.s.c0, (old _ _ h1).symm.trans f.s.c1, trivial, trivial⟩, (old _ _ (by omega)).symm.trans f.v, trivial, (old _ _ h2).symm.trans f.e.c0, (old _ _ h2).symm.trans f.e.c1, (old _ _ h2).symm.trans f.e.c2, (old _ _ h2).symm.trans f.e.c3, trivial, trivial, trivial, trivial⟩
theorem ends_same {st' : Int} {K : List En} {e : En} {n1 : Nat} (h : (st' = 3 ∧ K = []) ∨ (st' ≠ 3 ∧ 0 < n1 ∧ e ∈ K)) (hn : K.length = n1) : ∃ u, (st' == 3) = u ∧ ((n1 : Int) == 0) = u := by
  rcases h with ⟨a, b⟩ | ⟨a, b, _⟩
  · refine ⟨true, by simp [a], ?_⟩
    have : n1 = 0 := by rw [← hn, b]; rfl
    subst this; rfl
  · exact ⟨false, by simp [a], beq_eq_false_iff_ne.2 (by omega)⟩
/-- what Find says of the entry that was learnt last. -/
def fres (V : Int → Bool) (K : List En) (e : En) : Option En := fnd (fits V e.s) K
theorem Rnd.rd {w wr w2 : World} {st : Int} {As : Option Addr} {n cs : Nat} {S : List En} {st' : Int} {A1 : Option Addr} {n1 c1 : Nat} {K : List En} {e : En} {Av : Option Addr} {mv cv gt : Nat} (r : Rnd w wr w2 st As n cs S st' A1 n1 c1 K e Av mv cv gt) : Reads w2 w2.heap.size 4 A1 n1 (ef K) := Reads.of_own r.row
theorem Rnd.put {w wr w2 : World} {st : Int} {As : Option Addr} {n cs : Nat} {S : List En} {st' : Int} {A1 : Option Addr} {n1 c1 : Nat} {K : List En} {e : En} {Av : Option Addr} {mv cv gt : Nat} (r : Rnd w wr w2 st As n cs S st' A1 n1 c1 K e Av mv cv gt) (hl : n1 ≤ 4) (hs : Site w wr (w.heap.size + 1) st As n cs S) :
    Site w ((w2.setCell ⟨w.heap.size + 1, 0, none⟩ (.int .i64 st')).setCell ⟨w.heap.size + 1, 1, none⟩ (.slice A1 n1 c1)) (w.heap.size + 1) st' A1 n1 c1 K ∧ Blk ((w2.setCell ⟨w.heap.size + 1, 0, none⟩ (.int .i64 st')).setCell ⟨w.heap.size + 1, 1, none⟩ (.slice A1 n1 c1)) w.heap.size 27 #[.slice Av mv cv] :=
  ⟨hs.put r.bel r.row hl, (r.v.far (p := ⟨w.heap.size + 1, 0, none⟩) (by show w.heap.size ≠ w.heap.size + 1; omega) _).far (p := ⟨w.heap.size + 1, 1, none⟩) (by show w.heap.size ≠ w.heap.size + 1; omega) _⟩
end Go.Proofs.Ythkmmbalodedkaa
