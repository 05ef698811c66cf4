/- Package cells: one made on top of another one. -/
import Derived.Test.YtoicddafonpjhaaKb
import Derived.Deep.RegionLaw
import Derived.Laws.OwnMore
namespace Go.Proofs.Ytoicddafonpjhaa
open Go.RowKit Go
set_option linter.unusedVariables false
set_option linter.unusedSimpArgs false
variable {S : Nat → Prop}
/-- append to a row of the call's own: it stays in its block, or goes into a new one. -/
theorem run_append_fresh {P : Program} (w : World) (base : Nat) (t ty e : TypeId) (i : TypeInfo) (z : Value) (bytes : Nat) (ht : P.underlying t = some (.slice e)) (hi : P.info? e = some i) (hz : i.zero = some z)
    (hsize : i.size = 1) (hby : i.bytes = bytes) (hzs : z.cells.size = 1)
    (v : Value) (n : Nat) (xs : List Value) (hown : w.ownsRow base e 1 v n xs)
    (ad : Addr) (m c : Nat) (news : List Value) (hl : news.length = m * 1) (hnews : ∀ j u, news[j]? = some u → w.cell? (ad.add j) = some u) (h1 : ∀ u ∈ news, u.oneCell' = true)
    (h63 : n + m ≤ maxLen) (hbytes : (n + m) * bytes ≤ 140737488355328) (hbase : base ≤ w.heap.size) :
    ∃ v' w', (Builtin.append_ #[t, t] ty #[v, .slice (some ad) m c]).run P w = .ok v' w' ∧ w'.ownsRow base e 1 v' (n + m) (xs ++ news) ∧ w.grownBy w' v.ownBlock ∧ (v'.ownBlock = v.ownBlock ∨ ∀ q, v'.ownBlock = some q → w.heap.size ≤ q) := by
  obtain ⟨v', w', hr, h2, h3, _⟩ := run_append_own (P := P) w base t ty e i z 1 bytes ht hi hz hsize hby hzs (by decide) v n xs hown ad m c news hl hnews h1 h63 hbytes hbase
  refine ⟨v', w', hr, h2, h3, ?_⟩
  rcases hown.2 with ⟨rfl, rfl⟩ | ⟨g, cap, cur, rfl, hb, hg, hnc, hcm, hcs, htake⟩
  · right
    have hx : xs = [] := List.eq_nil_of_length_eq_zero (by simpa using hown.1)
    subst hx
    obtain ⟨v2, w2, hr2, k2, _⟩ := run_append_own (P := P) w w.heap.size t ty e i z 1 bytes ht hi hz hsize hby hzs (by decide) (.slice none 0 0) 0 [] (World.ownsRow_nil w _ e 1) ad m c news hl hnews h1 h63 hbytes (Nat.le_refl _)
    rw [hr] at hr2
    injection hr2 with e1 e2
    subst e1
    exact fun q hq => (k2.lt q hq).1
  · by_cases hroom : n + m ≤ cap
    · left
      have hr2 := run_append_room_cells (P := P) w t ty e i ht hi g 0 n cap ad m c news (by rw [hsize]; exact hl) hnews h1 hroom
        (fun j hj => by
          rw [hsize]
          have hlt : 0 + n * 1 + j < cur.size := by rw [hcs]; omega
          have : w.cell? ⟨g, 0 + n * 1 + j, none⟩ = some cur[0 + n * 1 + j] := by simp [World.cell?, hg, hlt]
          rw [this]; rfl)
        (fun j hj => frozen_of_row w g _ cur e hg)
      rw [hr] at hr2
      injection hr2 with e1 e2
      rw [e1]; rfl
    · right
      obtain ⟨v2, w2, hr2, k2, _⟩ := run_append_arg_grows (P := P) w t ty e i z 1 bytes ht hi hz hsize hby hzs (by decide) ⟨g, 0, none⟩ n cap xs hown.1 (fun j u hj => World.ownsRow.cells hown rfl j u hj) ad m c news hl hnews (by omega) h63 hbytes
      rw [hr] at hr2
      injection hr2 with e1 e2
      subst e1
      exact fun q hq => (k2.lt q hq).1
/-- the same, as one step of a region that draws. -/
theorem step_append_fresh {P : Program} {ops : Array Oper} {o : Oper} {a : Act} {w : World} {K : Act → World → Prop} {Q : Exit → Act → World → Prop} {E : Prop}
    (hgd : o.guard = none) (s x : Operand) (t : TypeId) (ho : o.op = Op.call { callee := Callee.builtin Builtin.append, args := #[s, x], argTypes := #[t, t] })
    (base : Nat) (e : TypeId) (i : TypeInfo) (z : Value) (bytes : Nat) (ht : P.underlying t = some (.slice e)) (hi : P.info? e = some i) (hz : i.zero = some z)
    (hsize : i.size = 1) (hby : i.bytes = bytes) (hzs : z.cells.size = 1)
    (v : Value) (n : Nat) (xs : List Value) (hs : a.eval s = v) (hown : w.ownsRow base e 1 v n xs)
    (ad : Addr) (m c : Nat) (news : List Value) (hx : a.eval x = .slice (some ad) m c) (hl : news.length = m * 1) (hnews : ∀ j u, news[j]? = some u → w.cell? (ad.add j) = some u) (h1 : ∀ u ∈ news, u.oneCell' = true)
    (h63 : n + m ≤ maxLen) (hbytes : (n + m) * bytes ≤ 140737488355328) (hbase : base ≤ w.heap.size)
    (hK : ∀ v' w', w'.ownsRow base e 1 v' (n + m) (xs ++ news) → w.grownBy w' v.ownBlock → (v'.ownBlock = v.ownBlock ∨ ∀ q, v'.ownBlock = some q → w.heap.size ≤ q) → K (a.put o.dst v') w') :
    if Region.wanted o (yielded ops a.tmps) = true then Oper.wp P o a w K Q else E := by
  have hw : Region.wanted o (yielded ops a.tmps) = true := by simp [Region.wanted, hgd]
  rw [if_pos hw]
  obtain ⟨v', w', hr, h2, h3, h4⟩ := run_append_fresh (P := P) w base t o.type e i z bytes ht hi hz hsize hby hzs v n xs hown ad m c news hl hnews h1 h63 hbytes hbase
  unfold Oper.wp execOp
  simp only [ho, resolve, invoke, builtin, Sem.run_bind, Sem.run_pure, Result.andThen_ok, List.map_toArray, List.map_cons, List.map_nil, hs, hx, hr]
  exact hK v' w' h2 h3 h4
theorem flat_set (l : List Cl) (A : List Value) (h : A.length = l.length) (i : Nat) (hi : i < l.length) (x : List Int) (a : Value) : flat (l.set i (l[i].1, x)) (A.set i a) = (flat l A).set (2 * i + 1) a := by
  induction l generalizing A i with
  | nil => exact absurd hi (by simp)
  | cons y l ih => cases A with
    | nil => exact absurd h (by simp)
    | cons c A => cases i with
      | zero => rfl
      | succ i =>
        simp only [List.set_cons_succ, flat, List.getElem_cons_succ]
        rw [ih A (by simpa using h) i (by simpa using hi)]
        rfl
/-- a cell's row of what stands on it, one longer. -/
theorem rep_above {w w2 : World} {base b : Nat} {l : List Cl} {A : List Value} {o : Obj} {v' : Value} {g cap : Nat} (r : Rep S w base b (.slice (some ⟨g, 0, none⟩) l.length cap) l A) (i : Nat) (hi : i < l.length) (hi2 : i < A.length) (k : Int)
    (hown : w2.ownsRow base 3 1 v' (l[i].2.length + 1) (l[i].2.map (Value.int .i64) ++ [.int .i64 k])) (hg : (w.alloc o).grownBy w2 A[i].ownBlock)
    (hfresh : v'.ownBlock = A[i].ownBlock ∨ ∀ q, v'.ownBlock = some q → (w.alloc o).heap.size ≤ q) :
    Rep S (w2.setCell ⟨g, 2 * i + 1, none⟩ v') base b (.slice (some ⟨g, 0, none⟩) l.length cap) (l.set i (l[i].1, l[i].2 ++ [k])) (A.set i v') ∧ BelowS S base w (w2.setCell ⟨g, 2 * i + 1, none⟩ v') := by
  obtain ⟨cur, hblk⟩ := r.blk
  have hbz := heap_lt hblk
  have hb1 : b < (w.alloc o).heap.size := by simp only [World.alloc]; rw [Array.size_push]; omega
  have h1 := heap_alloc_old w o hbz
  have ha := r.ab i hi2 hi
  have hne : some b ≠ A[i].ownBlock := fun c => own_ne ha r.blk (by decide) c.symm
  have h2 : w2.heap[b]? = w.heap[b]? := (hg.block b hb1 hne).trans h1
  have hgb : g ≠ b := fun c => own_ne r.row r.blk (by decide) (by rw [c]; rfl)
  have hgg := r.row.lt g rfl
  have hrow2 := (r.row.alloc o).kept hg (own_apart ha r.row (by decide))
  have gs := hg.size
  have hs3 : (w2.setCell ⟨g, 2 * i + 1, none⟩ v').heap[b]? = w.heap[b]? := by rw [heap_setCell_other _ _ _ _ (fun c => hgb c.symm), h2]
  have vg : v'.ownBlock ≠ some g := own_ne hown (own_block hrow2 rfl) (by decide)
  have hB : base ≤ w.heap.size := by have := r.bb; omega
  have hB2 : base ≤ (w.alloc o).heap.size := by simp only [World.alloc]; rw [Array.size_push]; omega
  have bl := (((BelowS.refl base w r.qs).alloc hB o).grown hg hB2 (fun k hk => (ha.lt k hk).1) (r.qa i hi2)).setCell (p := ⟨g, 2 * i + 1, none⟩) hgg.1 (r.qv g rfl) v'
  refine ⟨⟨r.bb, ⟨cur, by rw [hs3]; exact hblk⟩, ?_, ?_, ?_, by simp [r.len], ?_, ?_, bl.now, r.qb, r.qv, ?_⟩, bl⟩
  · rw [World.cell?_of_block (w := w) (a := ⟨b, 0, none⟩) hs3]; exact r.cell
  · rw [World.frozen?_of_block (w := w) (a := ⟨b, 0, none⟩) hs3]; exact r.fr
  · rw [flat_set l A r.len i hi, List.length_set]
    exact (World.ownsRow.stored hrow2 (2 * i + 1) v').1
  · intro j h h3
    simp at h h3
    by_cases c : j = i
    · subst c
      simp only [List.getElem_set_self]
      have := ownsRow_setCell_other hown (a := ⟨g, 2 * j + 1, none⟩) vg v'
      simpa using this
    · rw [List.getElem_set_ne (fun k => c k.symm), List.getElem_set_ne (fun k => c k.symm)]
      have hj := r.ab j h h3
      refine ownsRow_setCell_other ((hj.alloc o).kept hg (r.ap j i h hi2 c)) ?_ v'
      exact own_ne hj (own_block r.row rfl) (by decide)
  · intro j k2 h0 h30 hjk
    have h : j < A.length := by simpa using h0
    have h3 : k2 < A.length := by simpa using h30
    by_cases c : j = i
    · subst c
      rw [List.getElem_set_self, List.getElem_set_ne hjk]
      rcases hfresh with hf | hf
      · rw [hf]; exact r.ap j k2 h h3 hjk
      · cases hv : v'.ownBlock with
        | none => exact .inl rfl
        | some q =>
          right
          have hq := hf q hv
          have hk := (r.ab k2 h3 (by have := r.len; omega)).lt
          intro e
          have := (hk q e.symm).2
          simp only [World.alloc] at hq
          rw [Array.size_push] at hq
          omega
    · rw [List.getElem_set_ne (fun k => c k.symm)]
      by_cases d : k2 = i
      · subst d
        rw [List.getElem_set_self]
        rcases hfresh with hf | hf
        · rw [hf]; exact r.ap j k2 h h3 hjk
        · cases hv : A[j].ownBlock with
          | none => exact .inl rfl
          | some q =>
            right
            intro e
            have hq := hf q e.symm
            have := ((r.ab j h (by have := r.len; omega)).lt q hv).2
            simp only [World.alloc] at hq
            rw [Array.size_push] at hq
            omega
      · rw [List.getElem_set_ne (fun k => d k.symm)]; exact r.ap j k2 h h3 hjk
  · intro j h k hk hS
    have h0 : j < A.length := by simpa using h
    by_cases c : j = i
    · subst c
      rw [List.getElem_set_self] at hk
      rcases hfresh with hf | hf
      · exact r.qa j h0 k (hf ▸ hk) hS
      · have h1 := hf k hk
        have h2 := r.qs k hS
        simp only [World.alloc] at h1
        rw [Array.size_push] at h1
        omega
    · rw [List.getElem_set_ne (fun k => c k.symm)] at hk; exact r.qa j h0 k hk hS
end Go.Proofs.Ytoicddafonpjhaa
