/- Package cells: one made. -/
import Derived.Test.YtoicddafonpjhaaKa
import Derived.OwnWalk
import Derived.Laws.AppendOwn
import Derived.OneCell
namespace Go.Proofs.Ytoicddafonpjhaa
open Go.RowKit Go
set_option linter.unusedVariables false
set_option linter.unusedSimpArgs false
variable {S : Nat → Prop}
theorem Try.info46 : (Try.prog.info? 46).map (fun i => (i.zero, i.size, i.bytes)) = some (some (.agg #[.bool false, .slice none 0 0]), 2, 32) := by kernel_rfl
theorem Try.info3 : (Try.prog.info? 3).map (fun i => (i.zero, i.size, i.bytes)) = some (some (.int .i64 0), 1, 8) := by kernel_rfl
theorem own_block {w : World} {base : Nat} {e : TypeId} {size : Nat} {v : Value} {n : Nat} {xs : List Value} (h : w.ownsRow base e size v n xs) {g : Nat} (hg : v.ownBlock = some g) : ∃ cur, w.heap[g]? = some (.cells cur e (0, 0)) := by
  rcases h.2 with ⟨rfl, _⟩ | ⟨k, cap, cur, rfl, _, h2, _⟩
  · simp [Value.ownBlock] at hg
  · simp [Value.ownBlock] at hg
    subst hg
    exact ⟨cur, h2⟩
/-- rows of unlike elements lie in unlike blocks. -/
theorem own_ne {w : World} {base : Nat} {e : TypeId} {size : Nat} {v : Value} {n : Nat} {xs : List Value} (h : w.ownsRow base e size v n xs) {g : Nat} {t : TypeId} (hg : ∃ cur, w.heap[g]? = some (.cells cur t (0, 0))) (hne : e ≠ t) : v.ownBlock ≠ some g := by
  intro c
  obtain ⟨c1, e1⟩ := own_block h c
  obtain ⟨c2, e2⟩ := hg
  rw [e1] at e2
  injection e2 with e2
  injection e2 with _ e2
  exact hne e2
theorem own_apart {w : World} {base : Nat} {e e' : TypeId} {v v' : Value} {n n' : Nat} {xs xs' : List Value} {s s' : Nat} (h : w.ownsRow base e s v n xs) (h' : w.ownsRow base e' s' v' n' xs') (hne : e' ≠ e) : v'.ownBlock = none ∨ v'.ownBlock ≠ v.ownBlock := by
  cases hb : v.ownBlock with
  | none =>
    cases hc : v'.ownBlock with
    | none => exact .inl rfl
    | some k => exact .inr (by simp)
  | some g => exact .inr (own_ne h' (own_block h hb) hne)
theorem flat_append (l : List Cl) (A : List Value) (h : A.length = l.length) (x : Cl) (a : Value) : flat (l ++ [x]) (A ++ [a]) = flat l A ++ [.bool x.1, a] := by
  induction l generalizing A with
  | nil => cases A with
    | nil => rfl
    | cons _ _ => exact absurd h (by simp)
  | cons y l ih => cases A with
    | nil => exact absurd h (by simp)
    | cons c A =>
      simp only [List.cons_append, flat]
      rw [ih A (by simpa using h)]
theorem heap_lt {w : World} {b : Nat} {x : Obj} (h : w.heap[b]? = some x) : b < w.heap.size := (Array.getElem?_eq_some_iff.1 h).1
theorem own_slice {w : World} {base : Nat} {e : TypeId} {size : Nat} {v : Value} {n : Nat} {xs : List Value} (h : w.ownsRow base e size v n xs) (hn : n ≠ 0) : ∃ g cap, v = .slice (some ⟨g, 0, none⟩) n cap := by
  rcases h.2 with ⟨_, h2⟩ | ⟨g, cap, cur, h2, _⟩
  · exact absurd h2 hn
  · exact ⟨g, cap, h2⟩
theorem rep_mid {w w2 : World} {base b : Nat} {v : Value} {l : List Cl} {A : List Value} {o : Obj} (r : Rep S w base b v l A) (hg : (w.alloc o).grownBy w2 v.ownBlock) : w2.cell? ⟨b, 0, none⟩ = some v ∧ w2.frozen? ⟨b, 0, none⟩ = false := by
  obtain ⟨cur, hblk⟩ := r.blk
  have hbz := heap_lt hblk
  have hb1 : b < (w.alloc o).heap.size := by simp only [World.alloc]; rw [Array.size_push]; omega
  have h1 := heap_alloc_old w o hbz
  have hne : some b ≠ v.ownBlock := fun c => own_ne r.row r.blk (by decide) c.symm
  have h2 : w2.heap[b]? = w.heap[b]? := (hg.block b hb1 hne).trans h1
  exact ⟨by rw [World.cell?_of_block (w := w) (w' := w2) (a := ⟨b, 0, none⟩) h2]; exact r.cell, by rw [World.frozen?_of_block (w := w) (w' := w2) (a := ⟨b, 0, none⟩) h2]; exact r.fr⟩
/-- one cell more. -/
theorem rep_grow {w w2 : World} {base b : Nat} {v v' : Value} {l : List Cl} {A : List Value} {u : Bool} {o : Obj} (r : Rep S w base b v l A)
    (hown : w2.ownsRow base 46 2 v' (l.length + 1) (flat l A ++ [.bool u, .slice none 0 0])) (hg : (w.alloc o).grownBy w2 v.ownBlock) (hf : v'.ownBlock = v.ownBlock ∨ ∀ q, v'.ownBlock = some q → (w.alloc o).heap.size ≤ q) :
    Rep S (w2.setCell ⟨b, 0, none⟩ v') base b v' (l ++ [(u, [])]) (A ++ [.slice none 0 0]) ∧ BelowS S base w (w2.setCell ⟨b, 0, none⟩ v') := by
  obtain ⟨cur, hblk⟩ := r.blk
  have hbz := heap_lt hblk
  have hb1 : b < (w.alloc o).heap.size := by simp only [World.alloc]; rw [Array.size_push]; omega
  have h1 := heap_alloc_old w o hbz
  have hne : some b ≠ v.ownBlock := fun c => own_ne r.row r.blk (by decide) c.symm
  have h2 : w2.heap[b]? = w.heap[b]? := (hg.block b hb1 hne).trans h1
  have c2 : w2.cell? ⟨b, 0, none⟩ = some v := by rw [World.cell?_of_block (w := w) (w' := w2) (a := ⟨b, 0, none⟩) h2]; exact r.cell
  have f2 : w2.frozen? ⟨b, 0, none⟩ = false := by rw [World.frozen?_of_block (w := w) (w' := w2) (a := ⟨b, 0, none⟩) h2]; exact r.fr
  have vb : v'.ownBlock ≠ some b := own_ne hown ⟨cur, by rw [h2]; exact hblk⟩ (by decide)
  have gs := hg.size
  have hvl := r.row.lt
  have hB : base ≤ w.heap.size := by have := r.bb; omega
  have hB2 : base ≤ (w.alloc o).heap.size := by simp only [World.alloc]; rw [Array.size_push]; omega
  have bl := (((BelowS.refl base w r.qs).alloc hB o).grown hg hB2 (fun k hk => (hvl k hk).1) r.qv).setCell (p := ⟨b, 0, none⟩) r.bb r.qb v'
  refine ⟨⟨r.bb, ?_, ?_, ?_, ?_, by simp [r.len], ?_, ?_, bl.now, r.qb, ?_, ?_⟩, bl⟩
  · have := heap_setCell_same w2 b 0 cur 44 v' (by rw [h2]; exact hblk)
    exact ⟨_, this⟩
  · exact World.cell?_setCell_same w2 _ _ c2
  · rw [World.frozen?_setCell]; exact f2
  · rw [flat_append l A r.len]
    have := ownsRow_setCell_other hown (a := ⟨b, 0, none⟩) vb v'
    simpa using this
  · intro i h h2
    by_cases c : i < A.length
    · have h3 : i < l.length := by have := r.len; omega
      have ha := r.ab i c h3
      rw [List.getElem_append_left c, List.getElem_append_left h3]
      refine ownsRow_setCell_other ((ha.alloc o).kept hg (own_apart r.row ha (by decide))) ?_ v'
      exact own_ne ha r.blk (by decide)
    · have e : i = A.length := by simp at h; omega
      subst e
      have e2 : (l ++ [(u, ([] : List Int))])[A.length]'h2 = (u, []) := by
        rw [List.getElem_append_right (by have := r.len; omega)]; simp [r.len]
      rw [List.getElem_append_right (by omega), e2]
      simp only [Nat.sub_self, List.getElem_cons_zero]
      exact World.ownsRow_nil _ _ _ _
  · intro i j h h2 hij
    simp at h h2
    by_cases c : i < A.length
    · rw [List.getElem_append_left c]
      by_cases d : j < A.length
      · rw [List.getElem_append_left d]; exact r.ap i j c d hij
      · rw [List.getElem_append_right (by omega)]
        simp only [List.getElem_singleton]
        cases A[i].ownBlock with
        | none => exact .inl rfl
        | some k => exact .inr (by simp [Value.ownBlock])
    · rw [List.getElem_append_right (by omega)]
      left
      simp only [List.getElem_singleton]; rfl
  · intro k hk hS
    rcases hf with hf | hf
    · exact r.qv k (hf ▸ hk) hS
    · have h1 := hf k hk
      have h2 := r.qs k hS
      simp only [World.alloc] at h1
      rw [Array.size_push] at h1
      omega
  · intro i h k hk
    by_cases c : i < A.length
    · rw [List.getElem_append_left c] at hk; exact r.qa i c k hk
    · rw [List.getElem_append_right (by omega)] at hk
      simp only [List.getElem_singleton] at hk
      exact absurd hk (by simp [Value.ownBlock])
/-- append to a row of the call's own: it stays in its block, or goes into a new one. -/
theorem run_append_freshN {P : Program} (w : World) (base : Nat) (t ty e : TypeId) (i : TypeInfo) (z : Value) (size bytes : Nat) (ht : P.underlying t = some (.slice e)) (hi : P.info? e = some i) (hz : i.zero = some z)
    (hsize : i.size = size) (hby : i.bytes = bytes) (hzs : z.cells.size = size) (hsz : 0 < size)
    (v : Value) (n : Nat) (xs : List Value) (hown : w.ownsRow base e size v n xs)
    (ad : Addr) (m c : Nat) (news : List Value) (hl : news.length = m * size) (hnews : ∀ j u, news[j]? = some u → w.cell? (ad.add j) = some u) (h1 : ∀ u ∈ news, u.oneCell' = true)
    (h63 : n + m ≤ maxLen) (hbytes : (n + m) * bytes ≤ 140737488355328) (hbase : base ≤ w.heap.size) :
    ∃ v' w', (Builtin.append_ #[t, t] ty #[v, .slice (some ad) m c]).run P w = .ok v' w' ∧ w'.ownsRow base e size v' (n + m) (xs ++ news) ∧ w.grownBy w' v.ownBlock ∧ (v'.ownBlock = v.ownBlock ∨ ∀ q, v'.ownBlock = some q → w.heap.size ≤ q) := by
  obtain ⟨v', w', hr, h2, h3, _⟩ := run_append_own (P := P) w base t ty e i z size bytes ht hi hz hsize hby hzs hsz v n xs hown ad m c news hl hnews h1 h63 hbytes hbase
  refine ⟨v', w', hr, h2, h3, ?_⟩
  rcases hown.2 with ⟨rfl, rfl⟩ | ⟨g, cap, cur, rfl, hb, hg, hnc, hcm, hcs, htake⟩
  · right
    have hx : xs = [] := List.eq_nil_of_length_eq_zero (by simpa using hown.1)
    subst hx
    obtain ⟨v2, w2, hr2, k2, _⟩ := run_append_own (P := P) w w.heap.size t ty e i z size bytes ht hi hz hsize hby hzs hsz (.slice none 0 0) 0 [] (World.ownsRow_nil w _ e size) ad m c news hl hnews h1 h63 hbytes (Nat.le_refl _)
    rw [hr] at hr2
    injection hr2 with e1 e2
    subst e1
    exact fun q hq => (k2.lt q hq).1
  · by_cases hroom : n + m ≤ cap
    · left
      have hr2 := run_append_room_cells (P := P) w t ty e i ht hi g 0 n cap ad m c news (by rw [hsize]; exact hl) hnews h1 hroom
        (fun j hj => by
          have hmul : (n + m) * size ≤ cap * size := Nat.mul_le_mul_right _ hroom
          rw [Nat.add_mul] at hmul
          rw [hsize]
          have hlt : 0 + n * size + j < cur.size := by rw [hcs]; omega
          have : w.cell? ⟨g, 0 + n * size + j, none⟩ = some cur[0 + n * size + j] := by simp [World.cell?, hg, hlt]
          rw [this]; rfl)
        (fun j hj => frozen_of_row w g _ cur e hg)
      rw [hr] at hr2
      injection hr2 with e1 e2
      rw [e1]; rfl
    · right
      obtain ⟨v2, w2, hr2, k2, _⟩ := run_append_arg_grows (P := P) w t ty e i z size bytes ht hi hz hsize hby hzs hsz ⟨g, 0, none⟩ n cap xs hown.1 (fun j u hj => World.ownsRow.cells hown rfl j u hj) ad m c news hl hnews (by omega) h63 hbytes
      rw [hr] at hr2
      injection hr2 with e1 e2
      subst e1
      exact fun q hq => (k2.lt q hq).1
/-- append to a row of the call's own, in the order of the text. -/
theorem wpList_append_freshN {P : Program} {ops : Array Oper} {rest : List Oper} {o : Oper} {a : Act} {w : World} {Q : Exit → Act → World → Prop} (hgd : o.guard = none) (s x : Operand) (t : TypeId)
    (ho : o.op = .call { callee := .builtin .append, args := #[s, x], argTypes := #[t, t] })
    (base : Nat) (e : TypeId) (i : TypeInfo) (z : Value) (size bytes : Nat) (ht : P.underlying t = some (.slice e)) (hi : P.info? e = some i) (hz : i.zero = some z)
    (hsize : i.size = size) (hby : i.bytes = bytes) (hzs : z.cells.size = size) (hsz : 0 < size)
    (v : Value) (n : Nat) (xs : List Value) (hs : a.eval s = v) (hown : w.ownsRow base e size v n xs)
    (ad : Addr) (m c : Nat) (news : List Value) (hx : a.eval x = .slice (some ad) m c) (hl : news.length = m * size) (hnews : ∀ j u, news[j]? = some u → w.cell? (ad.add j) = some u) (h1 : ∀ u ∈ news, u.oneCell' = true)
    (h63 : n + m ≤ maxLen) (hbytes : (n + m) * bytes ≤ 140737488355328) (hbase : base ≤ w.heap.size)
    (hK : ∀ v' w', w'.ownsRow base e size v' (n + m) (xs ++ news) → w.grownBy w' v.ownBlock → (v'.ownBlock = v.ownBlock ∨ ∀ q, v'.ownBlock = some q → w.heap.size ≤ q) → wpList P ops Q rest (a.put o.dst v') w') : wpList P ops Q (o :: rest) a w :=
  wpList_plain hgd fun _ hk => by
    obtain ⟨v', w', hr, h2, h3, h4⟩ := run_append_freshN (P := P) w base t o.type e i z size bytes ht hi hz hsize hby hzs hsz v n xs hown ad m c news hl hnews h1 h63 hbytes hbase
    unfold Oper.wp execOp
    simp only [ho, resolve, invoke, builtin, Sem.run_bind, Sem.run_pure, Result.andThen_ok, List.map_toArray, List.map_cons, List.map_nil, hs, hx, hr]
    exact hk _ _ (hK v' w' h2 h3 h4)
set_option maxRecDepth 100000 in
theorem Make_bare (w : World) (base b : Nat) (v : Value) (l : List Cl) (A : List Value) (n : Int) (r : Rep S w base b v l A) (hn : (decide (0 ≤ n) && decide (n < (l.length : Int))) = false) (hl : l.length < 1000000) :
    Calls Try.prog 9 #[.pointer (some ⟨b, 0, none⟩), .int .i64 n] w fun e w' => e = .returned (.int .i64 l.length) ∧ ∃ v', Rep S w' base b v' (l ++ [(n == -1, [])]) (A ++ [.slice none 0 0]) ∧ BelowS S base w w' := by
  have HT := fun w1 (r1 : Rep S w1 base b v l A) => there_calls w1 base b v l A n r1
  rw [hn] at HT
  obtain ⟨i46, hi, hz0, hz1, hz2⟩ := info_parts Try.info46
  have hc := r.cell
  have hlen : v = .slice none 0 0 ∧ l.length = 0 ∨ ∃ g cap, v = .slice (some ⟨g, 0, none⟩) l.length cap := by
    rcases rep_slice r with h | ⟨g, cap, h, _⟩
    · exact .inl h
    · exact .inr ⟨g, cap, h⟩
  obtain ⟨m, hm⟩ : ∃ m, l.length = m := ⟨_, rfl⟩
  have HR := Lib.hid r
  have hrow := r.row
  have hbb := r.bb
  have hfr := r.fr
  rw [hm] at hlen hl hrow ⊢
  have HTh := Lib.hid HT
  clear HT hn r
  have hB2 : base ≤ (w.alloc (.cells #[.bool (n == -1), .slice none 0 0] 46)).heap.size := by
    obtain ⟨cur, hblk⟩ := HR.out.blk
    have := heap_lt hblk
    simp only [World.alloc]; rw [Array.size_push]; omega
  have GR := fun (v' : Value) (w2 : World) (h1 : w2.ownsRow base 46 2 v' (l.length + 1) (flat l A ++ [.bool (n == -1), .slice none 0 0])) (h2 : (w.alloc (.cells #[.bool (n == -1), .slice none 0 0] 46)).grownBy w2 v.ownBlock) h3 => rep_grow (o := .cells #[.bool (n == -1), .slice none 0 0] 46) HR.out h1 h2 h3
  rw [hm] at GR
  replace GR := Lib.hid GR
  generalize hfl : flat l A = fl at *
  clear hfl hm
  rcases hlen with ⟨rfl, rfl⟩ | ⟨g, cap, rfl⟩
  · go_enter Try.func9, Try.ntmps9
    go_wp2_with (first | (go_at_call 15; refine (HTh.out _ HR.out).mono ?_; rintro e w' ⟨rfl, rfl⟩) | (at_builtin; refine wpList_append_freshN rfl (.tmp 47) (.tmp 50) 42 rfl base 46 i46 _ 2 32 Try.underlying42 hi hz0 hz1 hz2 rfl (by decide) _ _ _ rfl (hrow.alloc _) ⟨_, 0, none⟩ 1 1 [.bool (n == -1), .slice none 0 0] rfl rfl (by intro j u hj; match j, hj with | 0, hj => (simp at hj; subst hj; simp [Addr.add]) | 1, hj => (simp at hj; subst hj; simp [Addr.add])) (by intro u hu; simp at hu; rcases hu with rfl | rfl <;> rfl) (by unfold maxLen; omega) (by omega) hB2 ?_; intro v' w2 hown hgrow hfr; obtain ⟨c2, f2⟩ := rep_mid HR.out hgrow; obtain ⟨g', cap', rfl⟩ := own_slice hown (by omega)))
    all_goals go_ret
    all_goals exact ⟨rfl, _, GR.out _ _ (by assumption) (by assumption) (by assumption)⟩
  · go_enter Try.func9, Try.ntmps9
    go_wp2_with (first | (go_at_call 15; refine (HTh.out _ HR.out).mono ?_; rintro e w' ⟨rfl, rfl⟩) | (at_builtin; refine wpList_append_freshN rfl (.tmp 47) (.tmp 50) 42 rfl base 46 i46 _ 2 32 Try.underlying42 hi hz0 hz1 hz2 rfl (by decide) _ _ _ rfl (hrow.alloc _) ⟨_, 0, none⟩ 1 1 [.bool (n == -1), .slice none 0 0] rfl rfl (by intro j u hj; match j, hj with | 0, hj => (simp at hj; subst hj; simp [Addr.add]) | 1, hj => (simp at hj; subst hj; simp [Addr.add])) (by intro u hu; simp at hu; rcases hu with rfl | rfl <;> rfl) (by unfold maxLen; omega) (by omega) hB2 ?_; intro v' w2 hown hgrow hfr; obtain ⟨c2, f2⟩ := rep_mid HR.out hgrow; obtain ⟨g', cap', rfl⟩ := own_slice hown (by omega)))
    all_goals go_ret
    all_goals exact ⟨rfl, _, GR.out _ _ (by assumption) (by assumption) (by assumption)⟩
end Go.Proofs.Ytoicddafonpjhaa
