/- Package cells: what breaking reckons; what a round of it does to the memory. -/
import Derived.Test.YtoicddafonpjhaaKd
namespace Go.Proofs.Ytoicddafonpjhaa
open Go.RowKit Go
set_option linter.unusedVariables false
set_option linter.unusedSimpArgs false
variable {S : Nat → Prop}
/-- what stands on a cell. -/
def abv (l : List Cl) (n : Int) : List Int := (l[n.toNat]?.map Prod.snd).getD []
/-- breaking, off a list of what is to be done (the last one first): so many rounds. -/
def brk : Nat → List Cl → List Int → Nat → List Cl × Nat
  | 0, l, _, k => (l, k)
  | f + 1, l, t, k => if t = [] then (l, k) else if vld l (t.getLast?.getD 0) = true then brk f (l.set (t.getLast?.getD 0).toNat (false, abv l (t.getLast?.getD 0))) (t.dropLast ++ abv l (t.getLast?.getD 0)) (k + 1) else brk f l t.dropLast k
theorem vld_pos {l : List Cl} {n : Int} (h : vld l n = true) : 0 ≤ n ∧ n.toNat < l.length ∧ l[n.toNat]? = some (true, abv l n) := by
  unfold vld at h
  rw [Bool.and_eq_true] at h
  have h0 := of_decide_eq_true h.1
  cases hx : l[n.toNat]? with
  | none => rw [hx] at h; simp at h
  | some x =>
    have hl := (List.getElem?_eq_some_iff.1 hx).1
    rw [hx] at h
    have h2 : x.1 = true := by simpa using h.2
    refine ⟨h0, hl, ?_⟩
    unfold abv
    rw [hx]
    simp only [Option.map_some, Option.getD_some]
    rw [← h2]
theorem flat_set0 (l : List Cl) (A : List Value) (h : A.length = l.length) (i : Nat) (u : Bool) (x : List Int) : flat (l.set i (u, x)) A = (flat l A).set (2 * i) (.bool u) ∨ l.length ≤ i := by
  induction l generalizing A i with
  | nil => right; simp
  | cons y l ih => cases A with
    | nil => exact absurd h (by simp)
    | cons c A => cases i with
      | zero => left; rfl
      | succ i =>
        rcases ih A (by simpa using h) i with k | k
        · left
          simp only [List.set_cons_succ, flat]
          rw [k]
          rfl
        · right; simp; exact k
/-- a cell that breaks, in memory. -/
theorem rep_break {w : World} {base b : Nat} {l : List Cl} {A : List Value} {g cap : Nat} (r : Rep S w base b (.slice (some ⟨g, 0, none⟩) l.length cap) l A) (i : Nat) (u : Bool) (ab : List Int) (hx : l[i]? = some (u, ab)) :
    Rep S (w.setCell ⟨g, i * 2, none⟩ (.bool false)) base b (.slice (some ⟨g, 0, none⟩) l.length cap) (l.set i (false, ab)) A := by
  obtain ⟨hi, hx'⟩ := List.getElem?_eq_some_iff.1 hx
  obtain ⟨cur, hblk⟩ := r.blk
  have hgb : g ≠ b := fun c => own_ne r.row r.blk (by decide) (by rw [c]; rfl)
  have h2 : (w.setCell ⟨g, i * 2, none⟩ (.bool false)).heap[b]? = w.heap[b]? := heap_setCell_other _ _ _ _ (fun c => hgb c.symm)
  refine ⟨r.bb, ⟨cur, by rw [h2]; exact hblk⟩, ?_, ?_, ?_, by simp [r.len], ?_, r.ap, fun k hk => by have := r.qs k hk; simpa [World.setCell] using this, r.qb, r.qv, r.qa⟩
  · rw [World.cell?_of_block (w := w) (a := ⟨b, 0, none⟩) h2]; exact r.cell
  · rw [World.frozen?_of_block (w := w) (a := ⟨b, 0, none⟩) h2]; exact r.fr
  · rw [List.length_set]
    rcases flat_set0 l A r.len i false ab with k | k
    · rw [k, Nat.mul_comm i 2]
      exact (World.ownsRow.stored r.row (2 * i) (.bool false)).1
    · omega
  · intro j h h3
    have h4 : j < l.length := by simpa using h3
    have hj := r.ab j h h4
    have e : (l.set i (false, ab))[j]'h3 = if i = j then (false, ab) else l[j] := by rw [List.getElem_set]
    have e2 : ((l.set i (false, ab))[j]'h3).2 = l[j].2 := by
      rw [e]
      by_cases c : i = j
      · subst c; rw [if_pos rfl, hx']
      · rw [if_neg c]
    rw [e2]
    exact ownsRow_setCell_other hj (a := ⟨g, i * 2, none⟩) (own_ne hj (own_block r.row rfl) (by decide)) _
/-- a row, one shorter. -/
theorem own_shorter {w : World} {base : Nat} {e : TypeId} {g n cap : Nat} {xs : List Value} {x : Value} (h : w.ownsRow base e 1 (.slice (some ⟨g, 0, none⟩) (n + 1) cap) (n + 1) (xs ++ [x])) : w.ownsRow base e 1 (.slice (some ⟨g, 0, none⟩) n cap) n xs := by
  obtain ⟨h1, h2⟩ := h
  rcases h2 with ⟨h2, _⟩ | ⟨g', cap', cur, e1, h3, h4, h5, h6, h7, h8⟩
  · cases h2
  · injection e1 with e1 _ e3
    injection e1 with e1
    injection e1 with e1
    subst e1 e3
    have hl : xs.length = n := by simp at h1; omega
    refine ⟨by simpa using hl, .inr ⟨g, cap, cur, rfl, h3, h4, by omega, h6, h7, ?_⟩⟩
    have := congrArg (List.take n) h8
    rw [List.take_take] at this
    rw [Nat.mul_one]
    rw [show min n ((n + 1) * 1) = n by omega] at this
    rw [this, List.take_append_of_le_length (by omega), List.take_of_length_le (by omega)]
/-- append to a row of the call's own, in the order of the text. -/
theorem wpList_append_fresh {P : Program} {ops : Array Oper} {rest : List Oper} {o : Oper} {a : Act} {w : World} {Q : Exit → Act → World → Prop} (hgd : o.guard = none) (s x : Operand) (t : TypeId)
    (ho : o.op = .call { callee := .builtin .append, args := #[s, x], argTypes := #[t, t] })
    (base : Nat) (e : TypeId) (i : TypeInfo) (z : Value) (bytes : Nat) (ht : P.underlying t = some (.slice e)) (hi : P.info? e = some i) (hz : i.zero = some z)
    (hsize : i.size = 1) (hby : i.bytes = bytes) (hzs : z.cells.size = 1)
    (v : Value) (n : Nat) (xs : List Value) (hs : a.eval s = v) (hown : w.ownsRow base e 1 v n xs)
    (ad : Addr) (m c : Nat) (news : List Value) (hx : a.eval x = .slice (some ad) m c) (hl : news.length = m * 1) (hnews : ∀ j u, news[j]? = some u → w.cell? (ad.add j) = some u) (h1 : ∀ u ∈ news, u.oneCell' = true)
    (h63 : n + m ≤ maxLen) (hbytes : (n + m) * bytes ≤ 140737488355328) (hbase : base ≤ w.heap.size)
    (hK : ∀ v' w', w'.ownsRow base e 1 v' (n + m) (xs ++ news) → w.grownBy w' v.ownBlock → (v'.ownBlock = v.ownBlock ∨ ∀ q, v'.ownBlock = some q → w.heap.size ≤ q) → wpList P ops Q rest (a.put o.dst v') w') : wpList P ops Q (o :: rest) a w :=
  wpList_plain hgd fun _ hk => by
    obtain ⟨v', w', hr, h2, h3, h4⟩ := run_append_fresh (P := P) w base t o.type e i z bytes ht hi hz hsize hby hzs v n xs hown ad m c news hl hnews h1 h63 hbytes hbase
    unfold Oper.wp execOp
    simp only [ho, resolve, invoke, builtin, Sem.run_bind, Sem.run_pure, Result.andThen_ok, List.map_toArray, List.map_cons, List.map_nil, hs, hx, hr]
    exact hk _ _ (hK v' w' h2 h3 h4)
end Go.Proofs.Ytoicddafonpjhaa
