/- Cells: what the law CellsNever finds in memory from step to step; which cells stand on one. -/
import Derived.Test.YtoicddafonpjhaaKp
import Derived.WalkSmall
namespace Go.Proofs.Ytoicddafonpjhaa
open Go.RowKit Go
set_option linter.unusedVariables false
set_option linter.unusedSimpArgs false
variable {S : Nat → Prop}
theorem rep_grown {S' : Nat → Prop} {w w' : World} {base b : Nat} {v : Value} {l : List Cl} {A : List Value} (r : Rep S w base b v l A) (h : ∀ k, k < w.heap.size → ¬ S k → w'.heap[k]? = w.heap[k]?) (hS : ∀ k, S' k → k < w'.heap.size ∧ (S k ∨ w.heap.size ≤ k)) : Rep S' w' base b v l A := by
  obtain ⟨cur, hblk⟩ := r.blk
  have h2 := h b (heap_lt hblk) r.qb
  refine ⟨r.bb, ⟨cur, by rw [h2]; exact hblk⟩, by rw [World.cell?_of_block (w := w) (a := ⟨b, 0, none⟩) h2]; exact r.cell, by rw [World.frozen?_of_block (w := w) (a := ⟨b, 0, none⟩) h2]; exact r.fr, own_keep (fun k hk => h k (r.row.lt k hk).2 (r.qv k hk)) r.row, r.len, fun i h4 h3 => own_keep (fun k hk => h k ((r.ab i h4 h3).lt k hk).2 (r.qa i h4 k hk)) (r.ab i h4 h3), r.ap, fun k hk => (hS k hk).1, ?_, ?_, ?_⟩
  · intro k
    rcases (hS b k).2 with h3 | h3
    · exact r.qb h3
    · have := heap_lt hblk; omega
  · intro k hk hk2
    rcases (hS k hk2).2 with h3 | h3
    · exact r.qv k hk h3
    · have := (r.row.lt k hk).2; omega
  · intro i hi k hk hk2
    rcases (hS k hk2).2 with h3 | h3
    · exact r.qa i hi k hk h3
    · have := ((r.ab i hi (by have := r.len; omega)).lt k hk).2; omega
theorem has_grown {S' : Nat → Prop} {w w' : World} {base : Nat} {c : Value} {l : List Cl} {row : Option Nat} (r : HasS S w base c l) (h : w.grownBy w' row) (hr : ∀ k, row = some k → S k) (hS : ∀ k, S' k → k < w'.heap.size ∧ (S k ∨ w.heap.size ≤ k)) : HasS S' w' base c l := by
  obtain ⟨b, v, A, e, r⟩ := r
  exact ⟨b, v, A, e, rep_grown r (fun k hk hn => h.block k hk (fun c => hn (hr k c.symm))) hS⟩
def ints (on : List Int) : List Value := on.map (Value.int .i64)
def bools (u : List Bool) : List Value := u.map Value.bool
/-- between two steps of the script. -/
structure Nv (w wr : World) (c ov : Value) (l : List Cl) (on : List Int) : Prop where
  has : HasS (fun q => ov.ownBlock = some q) wr w.heap.size c l
  row : wr.ownsRow w.heap.size 3 1 ov on.length (ints on)
  bel : Below w.heap.size w wr
  st : St l on
/-- within a step. -/
structure Nw (w wr : World) (c ov wv : Value) (o : Nat) (kk nn : Int) (l : List Cl) (on : List Int) (was : List Bool) : Prop where
  has : HasS (fun q => ov.ownBlock = some q ∨ wv.ownBlock = some q ∨ q = o) wr w.heap.size c l
  row : wr.ownsRow w.heap.size 3 1 ov on.length (ints on)
  wrow : wr.ownsRow w.heap.size 4 1 wv was.length (bools was)
  ap : wv.ownBlock = none ∨ ov.ownBlock ≠ wv.ownBlock
  ob : ov.ownBlock ≠ some o ∧ wv.ownBlock ≠ some o
  bel : Below w.heap.size w wr
  o0 : wr.cell? ⟨o, 0, none⟩ = some (.int .i64 kk)
  o1 : wr.cell? ⟨o, 1, none⟩ = some (.int .i64 nn)
theorem nv_start {w wr : World} {c : Value} (h : Has wr w.heap.size c []) (hb : Below w.heap.size w wr) : Nv w wr c (.slice none 0 0) [] [] :=
  ⟨has_more h (Below.refl _ _) (fun k hk => by simp [Value.ownBlock] at hk), World.ownsRow_nil _ _ _ _, hb, st_nil⟩
theorem sz_alloc (w : World) (o : Obj) : (w.alloc o).heap.size = w.heap.size + 1 := by simp only [World.alloc]; rw [Array.size_push]
theorem nw_open {w wr : World} {c ov : Value} {l : List Cl} {on : List Int} (s : Nv w wr c ov l on) (kk nn : Int) : Nw w (wr.alloc (.cells #[.int .i64 kk, .int .i64 nn] 28)) c ov (.slice none 0 0) wr.heap.size kk nn l on [] := by
  have hb : Below wr.heap.size wr (wr.alloc (.cells #[.int .i64 kk, .int .i64 nn] 28)) := (Below.refl _ wr).alloc (Nat.le_refl _) _
  have hn := heap_alloc_new wr (.cells #[.int .i64 kk, .int .i64 nn] 28)
  refine ⟨has_more s.has hb ?_, s.row.alloc _, World.ownsRow_nil _ _ _ _, .inl rfl, ⟨fun e => by have := (s.row.lt _ e).2; omega, by simp [Value.ownBlock]⟩, s.bel.alloc s.bel.size _, by rw [cell_of_row _ _ _ _ _ _ hn]; rfl, by rw [cell_of_row _ _ _ _ _ _ hn]; rfl⟩
  intro k hk
  rw [sz_alloc]
  rcases hk with hk | hk | rfl
  · exact ⟨by have := (s.row.lt k hk).2; omega, .inl hk⟩
  · simp [Value.ownBlock] at hk
  · exact ⟨by omega, .inr (Nat.le_refl _)⟩
theorem nw_close {w wr : World} {c ov wv : Value} {o : Nat} {kk nn : Int} {l : List Cl} {on : List Int} {was : List Bool} (s : Nw w wr c ov wv o kk nn l on was) (st : St l on) : Nv w wr c ov l on :=
  ⟨has_more s.has (Below.refl _ _) (fun k hk => ⟨(s.row.lt k hk).2, .inl (.inl hk)⟩), s.row, s.bel, st⟩
theorem nw_olt {w wr : World} {c ov wv : Value} {o : Nat} {kk nn : Int} {l : List Cl} {on : List Int} {was : List Bool} (s : Nw w wr c ov wv o kk nn l on was) : o < wr.heap.size := by
  obtain ⟨b, v, A, e, r⟩ := s.has
  exact r.qs o (.inr (.inr rfl))
theorem nw_drew {w wr : World} {c ov wv : Value} {o : Nat} {kk nn : Int} {l : List Cl} {on : List Int} {was : List Bool} (s : Nw w wr c ov wv o kk nn l on was) : Nw w wr.drew c ov wv o kk nn l on was := by
  obtain ⟨b, v, A, e, r⟩ := s.has
  exact ⟨⟨b, v, A, e, rep_drew r⟩, own_drew s.row, own_drew s.wrow, s.ap, s.ob, s.bel.drew, s.o0, s.o1⟩
theorem nw_drewN {w wr : World} {c ov wv : Value} {o : Nat} {kk nn : Int} {l : List Cl} {on : List Int} {was : List Bool} (s : Nw w wr c ov wv o kk nn l on was) (m : Nat) : Nw w (wr.drewN m) c ov wv o kk nn l on was := by
  obtain ⟨b, v, A, e, r⟩ := s.has
  exact ⟨⟨b, v, A, e, r.bb, r.blk, r.cell, r.fr, r.row, r.len, r.ab, r.ap, r.qs, r.qb, r.qv, r.qa⟩, s.row, s.wrow, s.ap, s.ob, below_drewN s.bel m, s.o0, s.o1⟩
theorem nw_turn {w wr w' : World} {c ov wv : Value} {o : Nat} {kk nn : Int} {l l' : List Cl} {on : List Int} {was : List Bool} (s : Nw w wr c ov wv o kk nn l on was) (h : HasS (fun q => ov.ownBlock = some q ∨ wv.ownBlock = some q ∨ q = o) w' w.heap.size c l')
    (hb : BelowS (fun q => ov.ownBlock = some q ∨ wv.ownBlock = some q ∨ q = o) w.heap.size wr w') : Nw w w' c ov wv o kk nn l' on was :=
  ⟨h, own_keep (fun k hk => hb.same k (.inl hk)) s.row, own_keep (fun k hk => hb.same k (.inr (.inl hk))) s.wrow, s.ap, s.ob, s.bel.trans hb.bel, by rw [World.cell?_of_block (w := wr) (a := ⟨o, 0, none⟩) (hb.same o (.inr (.inr rfl)))]; exact s.o0, by rw [World.cell?_of_block (w := wr) (a := ⟨o, 1, none⟩) (hb.same o (.inr (.inr rfl)))]; exact s.o1⟩
theorem nw_make {w wr : World} {c ov wv : Value} {o : Nat} {kk nn : Int} {l : List Cl} {on : List Int} {was : List Bool} (s : Nw w wr c ov wv o kk nn l on was) (hl : l.length < 500000) (ht : tot l ≤ 2 * l.length) :
    Calls Try.prog 9 #[c, .int .i64 nn] wr fun e w' => e = .returned (.int .i64 l.length) ∧ Nw w w' c ov wv o kk nn (mk l nn) on was := by
  have ha := abv_len l nn
  refine (MakeS_calls wr w.heap.size c l nn s.has (by omega) (by omega)).mono ?_
  rintro e w' ⟨rfl, h1, h2⟩
  exact ⟨rfl, nw_turn s h1 h2⟩
theorem nw_break {w wr : World} {c ov wv : Value} {o : Nat} {kk nn : Int} {l : List Cl} {on : List Int} {was : List Bool} (s : Nw w wr c ov wv o kk nn l on was) (hl : l.length < 400000) (ht : tot l ≤ 2 * l.length) :
    Calls Try.prog 12 #[c, .int .i64 nn] wr fun e w' => e = .returned (.int .i64 (brk (1 + load l) l [nn] 0).2) ∧ Nw w w' c ov wv o kk nn (brk (1 + load l) l [nn] 0).1 on was := by
  have := load_le_tot l
  refine (HBreakA wr w.heap.size c l nn s.has (by omega) (by omega)).mono ?_
  rintro e w' ⟨rfl, h1, h2⟩
  exact ⟨rfl, nw_turn s h1 h2⟩
/-- what is appended to what stands on what. -/
theorem nw_on {w wr w2 : World} {c ov wv ov' : Value} {o : Nat} {kk nn : Int} {l : List Cl} {on : List Int} {was : List Bool} (s : Nw w wr c ov wv o kk nn l on was) (h : (wr.alloc (.cells #[.int .i64 nn] 3)).grownBy w2 ov.ownBlock)
    (row : w2.ownsRow w.heap.size 3 1 ov' (on.length + 1) (ints on ++ [.int .i64 nn])) (hf : ov'.ownBlock = ov.ownBlock ∨ ∀ q, ov'.ownBlock = some q → (wr.alloc (.cells #[.int .i64 nn] 3)).heap.size ≤ q) (st : St l (on ++ [nn])) : Nv w w2 c ov' l (on ++ [nn]) := by
  have hb : Below wr.heap.size wr (wr.alloc (.cells #[.int .i64 nn] 3)) := (Below.refl _ wr).alloc (Nat.le_refl _) _
  have hal := has_keep s.has hb
  refine ⟨has_grown hal h (fun k hk => .inl hk) ?_, by simpa [ints] using row, (s.bel.alloc s.bel.size _).grown h (by have := s.bel.size; rw [sz_alloc]; omega) (fun k hk => (s.row.lt k hk).1), st⟩
  intro k hk
  refine ⟨(row.lt k hk).2, ?_⟩
  rcases hf with hf | hf
  · exact .inl (.inl (hf ▸ hk))
  · exact .inr (hf k hk)
theorem nw_was {w wr w2 : World} {c ov wv wv' : Value} {o : Nat} {kk nn : Int} {l : List Cl} {on : List Int} {was : List Bool} {u : Bool} (s : Nw w wr c ov wv o kk nn l on was) (h : (wr.alloc (.cells #[.bool u] 4)).grownBy w2 wv.ownBlock)
    (row : w2.ownsRow w.heap.size 4 1 wv' (was.length + 1) (bools was ++ [.bool u])) (hf : wv'.ownBlock = wv.ownBlock ∨ ∀ q, wv'.ownBlock = some q → (wr.alloc (.cells #[.bool u] 4)).heap.size ≤ q) : Nw w w2 c ov wv' o kk nn l on (was ++ [u]) := by
  have hb : Below wr.heap.size wr (wr.alloc (.cells #[.bool u] 4)) := (Below.refl _ wr).alloc (Nat.le_refl _) _
  have hal := has_keep s.has hb
  have ho := nw_olt s
  have hsz := sz_alloc wr (.cells #[.bool u] 4)
  have hgo : ∀ k, k < wr.heap.size → wv.ownBlock ≠ some k → w2.heap[k]? = wr.heap[k]? := fun k hk hn => (h.block k (by omega) (fun e => hn e.symm)).trans (Below.heap_alloc _ _ _ hk)
  have hob : ∀ k, ov.ownBlock = some k → wv.ownBlock ≠ some k := fun k hk he => by
    rcases s.ap with h1 | h1
    · rw [h1] at he; cases he
    · exact h1 (hk.trans he.symm)
  have hne : ∀ k, wv'.ownBlock = some k → wv.ownBlock = some k ∨ wr.heap.size + 1 ≤ k := fun k hk => by
    rcases hf with hf | hf
    · exact .inl (hf ▸ hk)
    · right; have := hf k hk; omega
  refine ⟨has_grown hal h (fun k hk => .inr (.inl hk)) ?_, own_keep (fun k hk => hgo k ((s.row.lt k hk).2) (hob k hk)) s.row, by simpa [bools] using row, ?_, ⟨s.ob.1, fun e => ?_⟩, (s.bel.alloc s.bel.size _).grown h (by have := s.bel.size; omega) (fun k hk => (s.wrow.lt k hk).1), by rw [World.cell?_of_block (w := wr) (a := ⟨o, 0, none⟩) (hgo o ho s.ob.2)]; exact s.o0, by rw [World.cell?_of_block (w := wr) (a := ⟨o, 1, none⟩) (hgo o ho s.ob.2)]; exact s.o1⟩
  · intro k hk
    rcases hk with hk | hk | rfl
    · have := (s.row.lt k hk).2
      have := h.size
      exact ⟨by omega, .inl (.inl hk)⟩
    · refine ⟨(row.lt k hk).2, ?_⟩
      rcases hne k hk with h1 | h1
      · exact .inl (.inr (.inl h1))
      · exact .inr (by omega)
    · have := h.size
      exact ⟨by omega, .inl (.inr (.inr rfl))⟩
  · cases hv : wv'.ownBlock with
    | none => exact .inl rfl
    | some k =>
      right
      intro e
      rcases hne k hv with h1 | h1
      · exact hob k e h1
      · have := (s.row.lt k e).2; omega
  · rcases hne o e with h1 | h1
    · exact s.ob.2 h1
    · omega
theorem row_at {w : World} {base e : Nat} {g n cap : Nat} {xs : List Value} (r : w.ownsRow base e 1 (.slice (some ⟨g, 0, none⟩) n cap) n xs) (i : Nat) (u : Value) (h : xs[i]? = some u) : w.cell? ⟨g, i, none⟩ = some u := by
  have c := World.ownsRow.cells r (g := g) rfl i u h
  have e : (⟨g, 0, none⟩ : Addr).add i = ⟨g, i, none⟩ := by unfold Addr.add; split <;> simp_all
  rw [e] at c; exact c
theorem nw_onAt {w wr : World} {c wv : Value} {g n cap o : Nat} {kk nn : Int} {l : List Cl} {on : List Int} {was : List Bool} (s : Nw w wr c (.slice (some ⟨g, 0, none⟩) n cap) wv o kk nn l on was) (hn : on.length = n) (i : Nat) (x : Int) (h : on[i]? = some x) : wr.cell? ⟨g, i, none⟩ = some (.int .i64 x) :=
  row_at (xs := ints on) (hn ▸ s.row) i _ (by simp [ints, h])
theorem nw_wasAt {w wr : World} {c ov : Value} {g n cap o : Nat} {kk nn : Int} {l : List Cl} {on : List Int} {was : List Bool} (s : Nw w wr c ov (.slice (some ⟨g, 0, none⟩) n cap) o kk nn l on was) (hn : was.length = n) (i : Nat) (x : Bool) (h : was[i]? = some x) : wr.cell? ⟨g, i, none⟩ = some (.bool x) :=
  row_at (xs := bools was) (hn ▸ s.wrow) i _ (by simp [bools, h])
/-- a row of the call's own: nil and empty, or a slice. -/
theorem row_form {w : World} {base e : Nat} {v : Value} {n : Nat} {xs : List Value} (r : w.ownsRow base e 1 v n xs) : (v = .slice none 0 0 ∧ n = 0) ∨ ∃ g cap, v = .slice (some ⟨g, 0, none⟩) n cap ∧ n ≤ cap := by
  rcases r.2 with h | ⟨g, cap, cur, h1, h2, h3, h4, h5⟩
  · exact .inl h
  · exact .inr ⟨g, cap, h1, h4⟩
/-- does a cell stand on one (a number that may be none)? -/
noncomputable def hitN (on : List Int) (nn : Int) (i : Nat) : Bool := decide (0 ≤ nn) && hitP on nn.toNat i
theorem hitN_here (on : List Int) (i : Nat) : hitN on (i : Int) i = true := by unfold hitN; rw [Int.toNat_natCast, hitP_here, decide_eq_true (by omega)]; rfl
theorem hitN_up {on : List Int} {nn : Int} {i j : Nat} (h : on[j]? = some (i : Int)) (hij : i < j) (hn : (j : Int) ≠ nn) : hitN on nn j = hitN on nn i := by
  unfold hitN
  by_cases h0 : 0 ≤ nn
  · rw [hitP_up h hij (by omega)]
  · rw [decide_eq_false h0, Bool.false_and, Bool.false_and]
theorem hitN_no {on : List Int} {nn : Int} {j : Nat} {x : Int} (h : on[j]? = some x) (hx : x < 0 ∨ (j : Int) ≤ x) (hn : (j : Int) ≠ nn) : hitN on nn j = false := by
  unfold hitN
  by_cases h0 : 0 ≤ nn
  · rw [hitP_no h hx (by omega), Bool.and_false]
  · rw [decide_eq_false h0, Bool.false_and]
theorem brk_hitN {l : List Cl} {on : List Int} (s : St l on) (nn : Int) (i : Nat) : vld (brk (1 + load l) l [nn] 0).1 i = (vld l i && !hitN on nn i) := by
  by_cases h0 : 0 ≤ nn
  · obtain ⟨n, rfl⟩ := Int.eq_ofNat_of_zero_le h0
    rw [(st_brk_hit s n).1 i]
    unfold hitN
    rw [decide_eq_true h0, Int.toNat_natCast, Bool.true_and]
  · rw [brk_not (vld_neg (by omega))]
    unfold hitN
    rw [decide_eq_false h0, Bool.false_and, Bool.not_false, Bool.and_true]
/-- so far down from a cell: whether the one that breaks was met. -/
inductive Down (on : List Int) (nn : Int) (i : Nat) : Nat → Int → Bool → Int → Prop
  | met {f : Nat} {b k : Int} : hitN on nn i = true → Down on nn i f b true k
  | off {f : Nat} {b k : Int} : hitN on nn i = false → b < 0 → Down on nn i f b false k
  | go {b k : Nat} : b < on.length → k + b ≤ i → hitN on nn b = hitN on nn i → Down on nn i (b + 1) b false k
end Go.Proofs.Ytoicddafonpjhaa
