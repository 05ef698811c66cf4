/- Package cells: the walk of Make on a cell that is there. -/
import Derived.Test.YtoicddafonpjhaaKc
namespace Go.Proofs.Ytoicddafonpjhaa
open Go.RowKit Go
set_option linter.unusedVariables false
set_option linter.unusedSimpArgs false
variable {S : Nat → Prop}
theorem own_drew {w : World} {base : Nat} {e : TypeId} {size : Nat} {v : Value} {n : Nat} {xs : List Value} (h : w.ownsRow base e size v n xs) : w.drew.ownsRow base e size v n xs := h
theorem grown_drew {w w2 : World} {row : Option Nat} (h : w.drew.grownBy w2 row) : w.grownBy w2 row := ⟨h.os, h.tape, h.output, h.size, h.block⟩
theorem rep_drew {w : World} {base b : Nat} {v : Value} {l : List Cl} {A : List Value} (r : Rep S w base b v l A) : Rep S w.drew base b v l A := ⟨r.bb, r.blk, r.cell, r.fr, r.row, r.len, r.ab, r.ap, r.qs, r.qb, r.qv, r.qa⟩
/-- in the world behind the append: the cell that is stored into next. -/
theorem rep_mid2 {w w2 : World} {base b : Nat} {l : List Cl} {A : List Value} {o : Obj} {g cap : Nat} (r : Rep S w base b (.slice (some ⟨g, 0, none⟩) l.length cap) l A) (i : Nat) (hi : i < l.length) (hi2 : i < A.length) (hg : (w.alloc o).grownBy w2 A[i].ownBlock) :
    w2.cell? ⟨g, i * 2 + 1, none⟩ = some A[i] ∧ w2.frozen? ⟨g, i * 2 + 1, none⟩ = false := by
  have ha := r.ab i hi2 hi
  have hrow2 := (r.row.alloc o).kept hg (own_apart ha r.row (by decide))
  obtain ⟨f1, f2⟩ := flat_get l A i hi hi2
  have c := World.ownsRow.cells hrow2 (g := g) rfl _ _ f2
  simp only [Addr.add, Nat.zero_add] at c
  rw [if_neg (by omega)] at c
  obtain ⟨cur, hb⟩ := own_block hrow2 (g := g) rfl
  rw [Nat.mul_comm i 2]
  exact ⟨c, frozen_of_row w2 g _ cur 46 hb⟩
theorem base_alloc {w : World} {base b : Nat} {v : Value} {l : List Cl} {A : List Value} (r : Rep S w base b v l A) (o : Obj) : base ≤ (w.alloc o).heap.size := by
  obtain ⟨cur, hblk⟩ := r.blk
  have := heap_lt hblk
  have := r.bb
  simp only [World.alloc]; rw [Array.size_push]; omega
/-- what the walk of Make leans on, of one cell. -/
structure On (S : Nat → Prop) (w : World) (base b : Nat) (g cap m i : Nat) (u : Bool) (ab : List Int) (av : Value) (L : List Cl) : Prop where
  c0 : w.cell? ⟨b, 0, none⟩ = some (.slice (some ⟨g, 0, none⟩) m cap)
  c1 : w.cell? ⟨g, i * 2, none⟩ = some (.bool u)
  c2 : w.cell? ⟨g, i * 2 + 1, none⟩ = some av
  own : w.ownsRow base 3 1 av ab.length (ab.map (Value.int .i64))
  mid : ∀ (o : Obj) (w2 : World), (w.alloc o).drew.grownBy w2 av.ownBlock → w2.cell? ⟨g, i * 2 + 1, none⟩ = some av ∧ w2.frozen? ⟨g, i * 2 + 1, none⟩ = false ∧ w2.cell? ⟨b, 0, none⟩ = some (.slice (some ⟨g, 0, none⟩) m cap)
  above : ∀ (o : Obj) (w2 : World) (v' : Value), w2.ownsRow base 3 1 v' (ab.length + 1) (ab.map (Value.int .i64) ++ [.int .i64 m]) → (w.alloc o).drew.grownBy w2 av.ownBlock → (v'.ownBlock = av.ownBlock ∨ ∀ q, v'.ownBlock = some q → (w.alloc o).drew.heap.size ≤ q) →
    (∃ A', Rep S (w2.setCell ⟨g, i * 2 + 1, none⟩ v') base b (.slice (some ⟨g, 0, none⟩) m cap) L A') ∧ BelowS S base w (w2.setCell ⟨g, i * 2 + 1, none⟩ v')
  a0 : ∀ o, (w.alloc o).cell? ⟨b, 0, none⟩ = some (.slice (some ⟨g, 0, none⟩) m cap)
  a2 : ∀ o, (w.alloc o).cell? ⟨g, i * 2 + 1, none⟩ = some av
  len : L.length = m
  lt : i < m
theorem on_of {w : World} {base b : Nat} {v : Value} {l : List Cl} {A : List Value} (r : Rep S w base b v l A) {i : Nat} {u : Bool} {ab : List Int} (hx : l[i]? = some (u, ab)) :
    ∃ g cap av, v = .slice (some ⟨g, 0, none⟩) l.length cap ∧ On S w base b g cap l.length i u ab av (l.set i (u, ab ++ [(l.length : Int)])) := by
  obtain ⟨hi, hx'⟩ := List.getElem?_eq_some_iff.1 hx
  have hi2 : i < A.length := by have := r.len; omega
  have ha := r.ab i hi2 hi
  rcases rep_slice r with ⟨_, h'⟩ | ⟨g, cap, rfl, k1, k2, k3⟩
  · omega
  obtain ⟨c1, c2⟩ := k3 i hi hi2
  rw [Nat.mul_comm 2 i] at c1 c2
  simp only [hx'] at c1 ha
  have al : ∀ {k : Nat} {j : Nat} {x : Value} (o : Obj), w.cell? ⟨k, j, none⟩ = some x → (w.alloc o).cell? ⟨k, j, none⟩ = some x := fun {k j x} o h => by
    have hk := World.block_lt_of_cell? w _ h
    rw [World.cell?_of_block (w := w) (w' := w.alloc o) (a := ⟨k, j, none⟩) (heap_alloc_old w o hk)]; exact h
  refine ⟨g, cap, A[i], rfl, r.cell, c1, c2, ha, ?_, ?_, fun o => al o r.cell, fun o => al o c2, by simp, hi⟩
  · intro o w2 hg
    have hg := grown_drew hg
    obtain ⟨m1, m2⟩ := rep_mid2 r i hi hi2 hg
    obtain ⟨cur, hblk⟩ := r.blk
    have hb1 : b < (w.alloc o).heap.size := by have := heap_lt hblk; simp only [World.alloc]; rw [Array.size_push]; exact Nat.lt_succ_of_lt this
    have hne : some b ≠ A[i].ownBlock := fun c => own_ne ha r.blk (by decide) c.symm
    have h2 : w2.heap[b]? = w.heap[b]? := (hg.block b hb1 hne).trans (heap_alloc_old w o (heap_lt hblk))
    exact ⟨m1, m2, by rw [World.cell?_of_block (w := w) (w' := w2) (a := ⟨b, 0, none⟩) h2]; exact r.cell⟩
  · intro o w2 v' h1 h2 h3
    have h := rep_above r i hi hi2 (l.length : Int) (w2 := w2) (v' := v') (o := o) (by simp only [hx']; exact h1) (grown_drew h2) h3
    rw [Nat.mul_comm 2 i] at h
    simp only [hx'] at h
    exact ⟨⟨_, h.1⟩, h.2⟩
set_option maxRecDepth 100000 in
set_option maxHeartbeats 4000000 in
theorem Make_on (w : World) (base b : Nat) (v : Value) (l : List Cl) (A : List Value) (i : Nat) (u : Bool) (ab : List Int) (r : Rep S w base b v l A) (hx : l[i]? = some (u, ab)) (hl : l.length < 1000000) (hal : ab.length < 1000000) :
    Calls Try.prog 9 #[.pointer (some ⟨b, 0, none⟩), .int .i64 i] w fun e w' => e = .returned (.int .i64 l.length) ∧ ∃ v' A', Rep S w' base b v' (l.set i (u, ab ++ [(l.length : Int)]) ++ [(u, [])]) A' ∧ BelowS S base w w' := by
  obtain ⟨g, cap, av, rfl, on⟩ := on_of r hx
  have HT := fun w1 (r1 : Rep S w1 base b (.slice (some ⟨g, 0, none⟩) l.length cap) l A) => there_calls w1 base b _ l A i r1
  have hlt : (i : Int) < (l.length : Int) := by have := on.lt; omega
  rw [decide_eq_true (show (0 : Int) ≤ (i : Int) by omega), decide_eq_true hlt] at HT
  obtain ⟨i46, h46, hz0, hz1, hz2⟩ := info_parts Try.info46
  obtain ⟨i3, h3, hy0, hy1, hy2⟩ := info_parts Try.info3
  have hbase : base ≤ w.heap.size := by obtain ⟨cur, hb⟩ := r.blk; have := heap_lt hb; have := r.bb; omega
  have HR := Lib.hid r
  have HTh := Lib.hid HT
  clear HT r hx
  generalize hL : l.set i (u, ab ++ [(l.length : Int)]) = L at *
  clear hL
  have hc := on.c0
  have c1 := on.c1
  have c2 := on.c2
  have a0 := on.a0
  have a2 := on.a2
  have HO := Lib.hid on
  clear on
  obtain ⟨m, hm⟩ : ∃ m, l.length = m := ⟨_, rfl⟩
  rw [hm] at hc hlt hl HO a0 ⊢
  rw [hm] at HR HTh
  clear hm
  go_enter Try.func9, Try.ntmps9
  go_wp2_with (first | (go_at_call 15; refine (HTh.out _ HR.out).mono ?_; rintro e w' ⟨rfl, rfl⟩))
  go_region_law (refine step_append_fresh rfl (.tmp 37) (.tmp 39) 38 rfl base 3 i3 _ 8 Try.underlying38 h3 hy0 hy1 hy2 rfl av ab.length (ab.map (Value.int .i64)) rfl (own_drew (HO.out.own.alloc _)) ⟨_, 0, none⟩ 1 1 [.int .i64 m] rfl rfl (by intro j u hj; match j, hj with | 0, hj => (simp at hj; subst hj; simp [Addr.add])) (by intro u hu; simp at hu; subst hu; rfl) (by unfold maxLen; omega) (by omega) (by show base ≤ (World.alloc _ _).heap.size; simp only [World.alloc]; rw [Array.size_push]; omega) ?_; intro v' w2 hown hgrow hfresh; obtain ⟨d1, d2, d3⟩ := HO.out.mid _ _ hgrow; obtain ⟨g', cap', rfl⟩ := own_slice hown (by omega))
  all_goals obtain ⟨⟨A3, R3⟩, B3⟩ := HO.out.above _ _ _ (by assumption) (by assumption) (by assumption)
  all_goals have e3 := HO.out.len
  all_goals clear HO hgrow hown hfresh d1 d2 d3 HR HTh hc c1 c2 a0 a2
  all_goals generalize (World.setCell _ _ _) = w3 at R3 B3 ⊢
  all_goals clear w2
  all_goals have c3 := R3.cell
  all_goals have own3 := R3.row
  all_goals rw [e3] at own3
  all_goals have hB3 := base_alloc R3 (.cells #[.bool u, .slice none 0 0] 46)
  all_goals have GR := fun (v4 : Value) (w4 : World) (h1 : w4.ownsRow base 46 2 v4 (L.length + 1) (flat L A3 ++ [.bool u, .slice none 0 0])) (h2 : (w3.alloc (.cells #[.bool u, .slice none 0 0] 46)).grownBy w4 (Value.slice (some ⟨g, 0, none⟩) m cap).ownBlock) h3 => rep_grow (o := .cells #[.bool u, .slice none 0 0] 46) R3 h1 h2 h3
  all_goals rw [e3] at GR
  all_goals have MID := Lib.hid (fun (w4 : World) h => rep_mid (w2 := w4) (o := .cells #[.bool u, .slice none 0 0] 46) R3 h)
  all_goals replace GR := Lib.hid GR
  all_goals replace B3 := Lib.hid B3
  all_goals clear R3 e3
  all_goals generalize flat L A3 = fl at *
  all_goals go_wp2_with (first | (at_builtin; refine wpList_append_freshN rfl (.tmp 47) (.tmp 50) 42 rfl base 46 i46 _ 2 32 Try.underlying42 h46 hz0 hz1 hz2 rfl (by decide) _ _ _ rfl (own3.alloc _) ⟨_, 0, none⟩ 1 1 [.bool u, .slice none 0 0] rfl rfl (by intro j u hj; match j, hj with | 0, hj => (simp at hj; subst hj; simp [Addr.add]) | 1, hj => (simp at hj; subst hj; simp [Addr.add])) (by intro u hu; simp at hu; rcases hu with rfl | rfl <;> rfl) (by unfold maxLen; omega) (by omega) hB3 ?_; intro v4 w4 hown4 hgrow4 hfr4; obtain ⟨f1, f2⟩ := MID.out _ hgrow4; obtain ⟨g4, cap4, rfl⟩ := own_slice hown4 (by omega)))
  all_goals go_ret
  all_goals exact ⟨rfl, _, _, (GR.out _ _ (by assumption) (by assumption) (by assumption)).1, B3.out.trans (GR.out _ _ (by assumption) (by assumption) (by assumption)).2⟩
end Go.Proofs.Ytoicddafonpjhaa
