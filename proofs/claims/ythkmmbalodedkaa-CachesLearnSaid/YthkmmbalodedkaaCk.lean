/- Caches: a site that meets few shapes. -/
import Derived.Test.YthkmmbalodedkaaCj
namespace Go.Proofs.Ythkmmbalodedkaa
open Go.RowKit Go
set_option linter.unusedVariables false
set_option linter.unusedSimpArgs false
theorem info3 : (Try.prog.info? 3).map (fun i => (i.zero, i.size, i.bytes)) = some (some (.int .i64 0), 1, 8) := by kernel_rfl
/-- all are valid. -/
def yes : Int → Bool := fun _ => true
/-- the entry that is learnt of a shape. -/
abbrev eX (x : Int) : En := ⟨x, 0, 0, 1⟩
def shp (S : List En) : List Int := S.map En.s
def ints (l : List Int) : List Value := l.map (Value.int .i64)
theorem has_shp {S : List En} {x : Int} : has (shp S) x = true ↔ ∃ e ∈ S, e.s = x := by
  induction S with
  | nil => simp [shp, has]
  | cons y S ih =>
    show has (y.s :: shp S) x = true ↔ _
    rw [has, Bool.or_eq_true, ih]
    simp
theorem hld_yes (e : En) : hld yes e = true := by unfold hld yes; simp
theorem fits_yes (x : Int) (e : En) : fits yes x e = (e.s == x) := by unfold fits; rw [hld_yes, Bool.and_true]
theorem few_some {S : List En} {x : Int} (h : has (shp S) x = true) : ∃ e, fnd (fits yes x) S = some e := by
  induction S with
  | nil => simp [shp, has] at h
  | cons y S ih =>
    rw [fnd, fits_yes]
    cases hb : (y.s == x)
    · have h' : has (y.s :: shp S) x = true := h
      rw [has, hb, Bool.false_or] at h'
      exact ih h'
    · exact ⟨y, rfl⟩
theorem few_no {S : List En} {x : Int} (h : has (shp S) x = false) : ∀ e ∈ S, (e.s == x) = false := by
  intro e he
  cases hb : (e.s == x)
  · rfl
  · exact absurd (has_shp.2 ⟨e, he, by simpa using hb⟩) (by rw [h]; decide)
theorem few_none {S : List En} {x : Int} (h : has (shp S) x = false) : fnd (fits yes x) S = none := fnd_none fun e he => by rw [fits_yes]; exact few_no h e he
theorem few_learn {S : List En} {x st : Int} (h : has (shp S) x = false) (hl : S.length < 4) (hs : st < 3) : ∃ st', st' < 3 ∧ learn yes st S (eX x) = (st', S ++ [eX x]) := by
  have hf : S.filter (fun y => !del yes (eX x) y) = S := by
    rw [List.filter_eq_self]
    intro e he
    unfold del
    rw [few_no h e he, hld_yes]; rfl
  unfold learn
  rw [if_neg (by omega), hf]
  unfold after
  rw [if_neg (by simp; omega)]
  split
  · exact ⟨2, by omega, rfl⟩
  · exact ⟨1, by omega, rfl⟩
theorem few_unlike {S : List En} {x : Int} (h : has (shp S) x = false) (hu : Unlike S) : Unlike (S ++ [eX x]) := by
  unfold Unlike
  rw [List.pairwise_append]
  refine ⟨hu, List.pairwise_singleton _ _, ?_⟩
  intro a ha b hb c
  simp only [List.mem_singleton] at hb
  subst hb
  have := few_no h a ha
  rw [c] at this
  simp at this
/-- rows of unlike elements share no block. -/
theorem own_ne {w : World} {b b' e e' s s' n n' : Nat} {v v' : Value} {xs xs' : List Value} (h : w.ownsRow b e s v n xs) (h' : w.ownsRow b' e' s' v' n' xs') (he : e ≠ e') : v.ownBlock = none ∨ v.ownBlock ≠ v'.ownBlock := by
  rcases h.2 with ⟨rfl, _⟩ | ⟨g, cap, cur, rfl, _, h1, _⟩
  · exact .inl rfl
  · right
    rcases h'.2 with ⟨rfl, _⟩ | ⟨g', cap', cur', rfl, _, h2, _⟩
    · simp [Value.ownBlock]
    · intro q
      have : g = g' := by simpa [Value.ownBlock] using q
      subst this
      rw [h1] at h2
      injection h2 with h2
      injection h2 with _ h2
      exact he h2
/-- a site, and the shapes that it met. -/
structure Few (w wr : World) (gs : Nat) (st : Int) (A : Option Addr) (n c : Nat) (S : List En) (M : Value) : Prop where
  site : Site w wr gs st A n c S
  row : wr.ownsRow (gs + 1) 3 1 M n (ints (shp S))
  un : Unlike S
  st : st < 3
theorem Few.later {w wr w1 : World} {gs : Nat} {st : Int} {A : Option Addr} {n c : Nat} {S : List En} {M : Value} (s : Few w wr gs st A n c S M) (h : Below wr.heap.size wr w1) : Few w w1 gs st A n c S M :=
  ⟨s.site.later h, own_below h s.row, s.un, s.st⟩
/-- .. a shape more is met, but not yet learnt. -/
structure FewM (w wr : World) (gs : Nat) (st : Int) (A : Option Addr) (n c : Nat) (S : List En) (M : Value) (x : Int) : Prop where
  site : Site w wr gs st A n c S
  row : wr.ownsRow (gs + 1) 3 1 M (n + 1) (ints (shp S) ++ [.int .i64 x])
theorem Few.met {w wr w1 w2 : World} {gs : Nat} {st : Int} {A : Option Addr} {n c : Nat} {S : List En} {M M' : Value} {x : Int} (s : Few w wr gs st A n c S M) (h : Below wr.heap.size wr w1) (hg : w1.grownBy w2 M.ownBlock) (row : w2.ownsRow (gs + 1) 3 1 M' (n + 1) (ints (shp S) ++ [.int .i64 x])) : FewM w w2 gs st A n c S M' x := by
  have s1 := s.later h
  have hM : ∀ k, M.ownBlock = some k → gs + 1 ≤ k := fun k hk => (s.row.lt k hk).1
  refine ⟨⟨s1.site.blk.grown hg (fun e => by have := hM gs e.symm; omega), s1.site.row.kept hg (own_ne s1.site.row s1.row (by decide)), s1.site.bel.grown hg s1.site.bel.size (fun k hk => by have := hM k hk; have := s.site.hg; omega), s.site.hg, s.site.len⟩, row⟩
theorem FewM.later {w wr w1 : World} {gs : Nat} {st : Int} {A : Option Addr} {n c : Nat} {S : List En} {M : Value} {x : Int} (s : FewM w wr gs st A n c S M x) (h : Below wr.heap.size wr w1) : FewM w w1 gs st A n c S M x :=
  ⟨s.site.later h, own_below h s.row⟩
theorem FewM.put {w wr w1 : World} {gs : Nat} {st st' : Int} {A A' : Option Addr} {n c c' : Nat} {S : List En} {M : Value} {x : Int} (s : FewM w wr gs st A n c S M x) (h : Below wr.heap.size wr w1) (hn : n < 4) (hx : has (shp S) x = false) (hu : Unlike S) (hs : st' < 3)
    (row : w1.ownsRow wr.heap.size 26 4 (.slice A' (n + 1) c') (n + 1) (ef (S ++ [eX x]))) :
    Few w ((w1.setCell ⟨gs, 0, none⟩ (.int .i64 st')).setCell ⟨gs, 1, none⟩ (.slice A' (n + 1) c')) gs st' A' (n + 1) c' (S ++ [eX x]) M := by
  have hl := s.site.n
  refine ⟨s.site.put h row (by omega), ?_, few_unlike hx hu, hs⟩
  have h1 := own_below h s.row
  have e : ints (shp (S ++ [eX x])) = ints (shp S) ++ [.int .i64 x] := by simp [ints, shp]
  rw [e]
  exact ownsRow_setCell_below (a := ⟨gs, 1, none⟩) (ownsRow_setCell_below (a := ⟨gs, 0, none⟩) h1 (Nat.lt_succ_self gs) _) (Nat.lt_succ_self gs) _
theorem few_site {w w' : World} {st : Int} {S : List En} {x : Int} {n : Nat} {r : Ending} (h : SiteIs w (st, S ++ [eX x]) r w') (hn : S.length = n) :
    ∃ A c, r = .returned (siteV st A (n + 1) c) ∧ w'.ownsRow w.heap.size 26 4 (.slice A (n + 1) c) (n + 1) (ef (S ++ [eX x])) ∧ Below w.heap.size w w' := by
  obtain ⟨A, c, h1, h2, h3, h4⟩ := h
  have e : (S ++ [eX x]).length = n + 1 := by simp [hn]
  simp only [e] at h1 h2
  exact ⟨A, c, h1, h2, h4⟩
theorem few_new (w : World) : Few w (w.alloc (.cells #[.int .i64 0, .slice none 0 0] 24)) w.heap.size 0 none 0 0 [] (.slice none 0 0) :=
  ⟨site_new w, World.ownsRow_nil _ _ _ _, List.Pairwise.nil, by omega⟩
theorem reads_int {w : World} {B n : Nat} {A : Option Addr} {L : List Int} (h : Reads w B 1 A n (ints L)) {i : Nat} {x : Int} (hi : L[i]? = some x) : ∃ b off, A = some ⟨b, off, none⟩ ∧ w.cell? ⟨b, off + i, none⟩ = some (.int .i64 x) := by
  have hl : L.length = n := by have := h.1; simpa [ints] using this
  have hlt : i < L.length := (List.getElem?_eq_some_iff.1 hi).1
  obtain ⟨ad, rfl, hb, hc⟩ := h.2 (by omega)
  obtain ⟨b, off, sp⟩ := ad
  have h0 : 0 < (ints L).length := by simp [ints]; omega
  have hsp : sp = none := by simpa [Addr.add] using World.cell?_spot (hc 0 _ (List.getElem?_eq_getElem h0))
  subst hsp
  exact ⟨b, off, rfl, add_at b off i w (hc i _ (by simp [ints, hi]))⟩
theorem in_calls' (w : World) (A : Option Addr) (m c : Nat) (l : List Int) (n : Int) (hr : Reads w w.heap.size 1 A m (ints l)) (hm : m ≤ 140737488351232) :
    Calls Try.prog 9 #[.slice A m c, .int .i64 n] w fun e w' => e = .returned (.bool (has l n)) ∧ w = w' := (in_calls w A m c l n hr hm).mono fun _ _ h => ⟨h.1, h.2.symm⟩
theorem few_at {w : World} {base n c : Nat} {A : Option Addr} {S : List En} (h : w.ownsRow base 3 1 (.slice A n c) n (ints (shp S))) {j : Nat} {e : En} (he : S[j]? = some e) : ∃ g, A = some ⟨g, 0, none⟩ ∧ w.cell? ⟨g, j, none⟩ = some (.int .i64 e.s) := by
  have hn : S.length = n := by have := h.1; simpa [ints, shp] using this
  have hj := (List.getElem?_eq_some_iff.1 he).1
  rcases h.2 with ⟨h1, h2⟩ | ⟨g, cap, cur, h1, h2⟩
  · omega
  · injection h1 with h1 _ h3
    subst h1
    subst h3
    refine ⟨g, rfl, (h.cellAt j (by omega)).trans (by simp [ints, shp, he])⟩
theorem Reads_int (w : World) (x : Int) : Reads (w.alloc (.cells #[.int .i64 x] 3)) (w.heap.size + 1) 1 (some ⟨w.heap.size, 0, none⟩) 1 [.int .i64 x] := by
  refine ⟨rfl, fun _ => ⟨_, rfl, by show w.heap.size < w.heap.size + 1; omega, fun j u hj => ?_⟩⟩
  have e1 : (⟨w.heap.size, 0, none⟩ : Addr).add j = ⟨w.heap.size, j, none⟩ := by unfold Addr.add; split <;> simp_all
  rw [e1]; refine ((Blk.new w 3 #[.int .i64 x]).cell j).trans ?_
  exact (List.getElem?_toArray ..).trans hj
end Go.Proofs.Ythkmmbalodedkaa
