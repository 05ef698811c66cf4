/- Package cells: what holds from round to round while cells break. -/
import Derived.Test.YtoicddafonpjhaaKe
namespace Go.Proofs.Ytoicddafonpjhaa
open Go.RowKit Go
set_option linter.unusedVariables false
set_option linter.unusedSimpArgs false
variable {S : Nat → Prop}
/-- how much stands on those that are valid. -/
def load : List Cl → Nat
  | [] => 0
  | x :: l => (if x.1 then x.2.length + 1 else 0) + load l
theorem load_set {l : List Cl} {i : Nat} {ab : List Int} (h : l[i]? = some (true, ab)) : load (l.set i (false, ab)) + ab.length + 1 = load l := by
  induction l generalizing i with
  | nil => simp at h
  | cons y l ih => cases i with
    | zero =>
      simp at h
      subst h
      simp [load]; omega
    | succ i =>
      simp only [List.set_cons_succ, load]
      have := ih (i := i) (by simpa using h)
      omega
structure BInv (S : Nat → Prop) (w0 w : World) (base b g cap m : Nat) (A : List Value) (l : List Cl) (tv : Value) (t : List Int) : Prop where
  rep : Rep S w base b (.slice (some ⟨g, 0, none⟩) m cap) l A
  len : l.length = m
  own : w.ownsRow base 3 1 tv t.length (t.map (Value.int .i64))
  ap : ∀ i, (h : i < A.length) → A[i].ownBlock = none ∨ A[i].ownBlock ≠ tv.ownBlock
  bel : BelowS S base w0 w
  ld : t.length + load l ≤ 1000000
  tq : ∀ k, tv.ownBlock = some k → ¬ S k
theorem binv_drew {w0 w : World} {base b g cap m : Nat} {A : List Value} {l : List Cl} {tv : Value} {t : List Int} (k : BInv S w0 w base b g cap m A l tv t) : BInv S w0 w.drew base b g cap m A l tv t := ⟨rep_drew k.rep, k.len, k.own, k.ap, k.bel.drew, k.ld, k.tq⟩
/-- the last one is taken off. -/
theorem binv_pop {w0 w : World} {base b g cap m : Nat} {A : List Value} {l : List Cl} {gt n ct : Nat} {t : List Int} {x : Int} (k : BInv S w0 w base b g cap m A l (.slice (some ⟨gt, 0, none⟩) (n + 1) ct) (t ++ [x])) (hn : t.length = n) :
    BInv S w0 w base b g cap m A l (.slice (some ⟨gt, 0, none⟩) n ct) t := by
  refine ⟨k.rep, k.len, ?_, k.ap, k.bel, by have := k.ld; simp at this; omega, k.tq⟩
  have h := k.own
  rw [List.map_append, List.length_append, hn] at h
  rw [hn]
  exact own_shorter (x := .int .i64 x) h
/-- the last one, as it is read. -/
theorem binv_last {w0 w : World} {base b g cap m : Nat} {A : List Value} {l : List Cl} {tv : Value} {t : List Int} {x : Int} (k : BInv S w0 w base b g cap m A l tv (t ++ [x])) :
    ∃ gt ct, tv = .slice (some ⟨gt, 0, none⟩) (t.length + 1) ct ∧ t.length + 1 ≤ ct ∧ w.cell? ⟨gt, t.length, none⟩ = some (.int .i64 x) := by
  have h := k.own
  rw [List.length_append] at h
  obtain ⟨gt, ct, e⟩ := own_slice h (by simp)
  subst e
  refine ⟨gt, ct, rfl, ?_, ?_⟩
  · rcases h.2 with ⟨e, _⟩ | ⟨g', c', cur, e, _, _, h5, _⟩
    · cases e
    · injection e with e1 e2 e3; subst e3; simpa using h5
  · have c := World.ownsRow.cells h (g := gt) rfl t.length (.int .i64 x) (by rw [List.map_append, List.getElem?_append_right (by simp)]; simp)
    simp only [Addr.add, Nat.zero_add] at c
    by_cases z : t.length = 0
    · rw [if_pos z] at c; rw [z]; exact c
    · rw [if_neg z] at c; exact c
/-- a valid one breaks. -/
theorem binv_break {w0 w : World} {base b g cap m : Nat} {A : List Value} {l : List Cl} {tv : Value} {t : List Int} (k : BInv S w0 w base b g cap m A l tv t) {i : Nat} {ab : List Int} (hx : l[i]? = some (true, ab)) (hl : t.length + ab.length + load (l.set i (false, ab)) ≤ 1000000) :
    BInv S w0 (w.setCell ⟨g, i * 2, none⟩ (.bool false)) base b g cap m A (l.set i (false, ab)) tv t := by
  have hl2 := k.len
  subst hl2
  have hb := rep_break k.rep i true ab hx
  have hgg := k.rep.row.lt g rfl
  refine ⟨hb, by simp, ?_, k.ap, k.bel.setCell (p := ⟨g, i * 2, none⟩) hgg.1 (k.rep.qv g rfl) _, by omega, k.tq⟩
  exact ownsRow_setCell_other k.own (a := ⟨g, i * 2, none⟩) (own_ne k.own (own_block k.rep.row rfl) (by decide)) _
/-- what stands on it is put behind. -/
theorem binv_more {w0 w w2 : World} {base b g cap m : Nat} {A : List Value} {l : List Cl} {tv v' : Value} {t ab : List Int} (k : BInv S w0 w base b g cap m A l tv t) (hl : t.length + ab.length + load l ≤ 1000000)
    (hown : w2.ownsRow base 3 1 v' (t.length + ab.length) (t.map (Value.int .i64) ++ ab.map (Value.int .i64))) (hg : w.grownBy w2 tv.ownBlock) (hf : v'.ownBlock = tv.ownBlock ∨ ∀ q, v'.ownBlock = some q → w.heap.size ≤ q) :
    BInv S w0 w2 base b g cap m A l v' (t ++ ab) := by
  have r := k.rep
  obtain ⟨cur, hblk⟩ := r.blk
  have hbz := heap_lt hblk
  have hne : some b ≠ tv.ownBlock := fun c => own_ne k.own r.blk (by decide) c.symm
  have h2 : w2.heap[b]? = w.heap[b]? := hg.block b hbz hne
  have bl := k.bel.grown hg (by have := r.bb; omega) (fun q hq => (k.own.lt q hq).1) k.tq
  refine ⟨⟨r.bb, ⟨cur, by rw [h2]; exact hblk⟩, ?_, ?_, ?_, r.len, ?_, r.ap, bl.now, r.qb, r.qv, r.qa⟩, k.len, ?_, ?_, bl, by simp; omega, ?_⟩
  · rw [World.cell?_of_block (w := w) (a := ⟨b, 0, none⟩) h2]; exact r.cell
  · rw [World.frozen?_of_block (w := w) (a := ⟨b, 0, none⟩) h2]; exact r.fr
  · exact r.row.kept hg (own_apart k.own r.row (by decide))
  · intro i h h3
    exact (r.ab i h h3).kept hg (k.ap i h)
  · rw [List.length_append, List.map_append]; exact hown
  · intro i h
    rcases hf with hf | hf
    · rw [hf]; exact k.ap i h
    · cases hv : A[i].ownBlock with
      | none => exact .inl rfl
      | some q =>
        right
        intro e
        have h1 := hf q e.symm
        have h3 := ((r.ab i h (by have := r.len; omega)).lt q hv).2
        omega
  · intro q hq hS
    rcases hf with hf | hf
    · exact k.tq q (hf ▸ hq) hS
    · have h1 := hf q hq
      have h2 := r.qs q hS
      omega
/-- what stands on a cell, as a source. -/
theorem binv_src {w0 w : World} {base b g cap m : Nat} {A : List Value} {l : List Cl} {tv : Value} {t : List Int} (k : BInv S w0 w base b g cap m A l tv t) {i : Nat} {u : Bool} {ab : List Int} (hx : l[i]? = some (u, ab)) :
    ∃ av, w.cell? ⟨g, i * 2 + 1, none⟩ = some av ∧ w.cell? ⟨g, i * 2, none⟩ = some (.bool u) ∧ w.frozen? ⟨g, i * 2, none⟩ = false ∧ ((av = .slice none 0 0 ∧ ab = []) ∨ ∃ ga ca, av = .slice (some ⟨ga, 0, none⟩) ab.length ca ∧ ga ≠ g ∧ ∀ j x, (ab.map (Value.int .i64))[j]? = some x → w.cell? ((⟨ga, 0, none⟩ : Addr).add j) = some x) := by
  obtain ⟨hi, hx'⟩ := List.getElem?_eq_some_iff.1 hx
  have r := k.rep
  have hi2 : i < A.length := by have := r.len; omega
  have hl2 := k.len
  subst hl2
  rcases rep_slice r with ⟨e, _⟩ | ⟨g', cap', e, k1, k2, k3⟩
  · cases e
  · injection e with e1 e2 e3
    injection e1 with e1
    injection e1 with e1
    subst e1
    obtain ⟨c1, c2⟩ := k3 i hi hi2
    rw [Nat.mul_comm 2 i] at c1 c2
    have ha := r.ab i hi2 hi
    simp only [hx'] at c1 ha
    obtain ⟨cur, hb⟩ := own_block r.row (g := g) rfl
    refine ⟨A[i], c2, c1, frozen_of_row w g _ cur 46 hb, ?_⟩
    rcases ha.2 with ⟨e, h⟩ | ⟨ga, ca, cur2, e, h3, h4, _⟩
    · left; exact ⟨e, List.eq_nil_of_length_eq_zero h⟩
    · right
      refine ⟨ga, ca, e, ?_, fun j x hj => World.ownsRow.cells ha (g := ga) (by rw [e]; rfl) j x hj⟩
      intro c
      exact own_ne ha (own_block r.row (g := g) rfl) (by decide) (by rw [e, c]; rfl)
end Go.Proofs.Ytoicddafonpjhaa
