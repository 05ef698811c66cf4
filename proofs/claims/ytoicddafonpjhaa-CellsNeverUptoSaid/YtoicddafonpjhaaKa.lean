/- Package cells: what can be read. -/
import Derived.Test.YtoicddafonpjhaaProg
import Derived.WalkKit
import Derived.Below
import Derived.WalkLawsBesides
import Derived.WalkSpells
import Derived.Deep.DeepFit
import Derived.Lib.Hide
namespace Go.Proofs.Ytoicddafonpjhaa
open Go.RowKit Go
set_option linter.unusedVariables false
set_option linter.unusedSimpArgs false
variable {S : Nat → Prop}
/-- a cell of the machine: whether it is valid, and what stands on it. -/
abbrev Cl := Bool × List Int
/-- the cells of a row of them: each one's own word, then its slice. -/
def flat : List Cl → List Value → List Value
  | [], _ => []
  | x :: l, [] => .bool x.1 :: .slice none 0 0 :: flat l []
  | x :: l, a :: A => .bool x.1 :: a :: flat l A
/-- the cells that a pointer stands for. -/
structure Rep (S : Nat → Prop) (w : World) (base b : Nat) (v : Value) (l : List Cl) (A : List Value) : Prop where
  bb : base ≤ b
  blk : ∃ cur, w.heap[b]? = some (.cells cur 44 (0, 0))
  cell : w.cell? ⟨b, 0, none⟩ = some v
  fr : w.frozen? ⟨b, 0, none⟩ = false
  row : w.ownsRow base 46 2 v l.length (flat l A)
  len : A.length = l.length
  ab : ∀ i, (h : i < A.length) → (h2 : i < l.length) → w.ownsRow base 3 1 A[i] (l[i].2.length) (l[i].2.map (Value.int .i64))
  ap : ∀ i j, (h : i < A.length) → (h2 : j < A.length) → i ≠ j → A[i].ownBlock = none ∨ A[i].ownBlock ≠ A[j].ownBlock
  qs : ∀ k, S k → k < w.heap.size
  qb : ¬ S b
  qv : ∀ k, v.ownBlock = some k → ¬ S k
  qa : ∀ i, (h : i < A.length) → ∀ k, A[i].ownBlock = some k → ¬ S k
/-- below a block nothing turns, nor at those that are spared. -/
structure BelowS (S : Nat → Prop) (B : Nat) (w w' : World) : Prop where
  bel : Below B w w'
  lt : ∀ k, S k → k < w.heap.size
  same : ∀ k, S k → w'.heap[k]? = w.heap[k]?
theorem BelowS.refl (B : Nat) (w : World) (h : ∀ k, S k → k < w.heap.size) : BelowS S B w w := ⟨Below.refl B w, h, fun _ _ => rfl⟩
theorem BelowS.trans {B : Nat} {a b c : World} (h : BelowS S B a b) (k : BelowS S B b c) : BelowS S B a c := ⟨h.bel.trans k.bel, h.lt, fun x hx => (k.same x hx).trans (h.same x hx)⟩
theorem BelowS.drew {B : Nat} {a w : World} (h : BelowS S B a w) : BelowS S B a w.drew := ⟨h.bel.drew, h.lt, h.same⟩
theorem BelowS.now {B : Nat} {a w : World} (h : BelowS S B a w) (k : Nat) (hk : S k) : k < w.heap.size := Nat.lt_of_lt_of_le (h.lt k hk) h.bel.size
theorem BelowS.alloc {B : Nat} {a w : World} (h : BelowS S B a w) (hB : B ≤ w.heap.size) (o : Obj) : BelowS S B a (w.alloc o) := ⟨h.bel.alloc hB o, h.lt, fun k hk => (Below.heap_alloc _ _ _ (h.now k hk)).trans (h.same k hk)⟩
theorem BelowS.setCell {B : Nat} {a w : World} (h : BelowS S B a w) {p : Addr} (hp : B ≤ p.block) (hq : ¬ S p.block) (u : Value) : BelowS S B a (w.setCell p u) := ⟨h.bel.setCell hp u, h.lt, fun k hk => (Below.heap_setCell _ _ _ _ (fun c => hq (c ▸ hk))).trans (h.same k hk)⟩
theorem BelowS.grown {B : Nat} {a w w' : World} {row : Option Nat} (h : BelowS S B a w) (hg : w.grownBy w' row) (hB : B ≤ w.heap.size) (hr : ∀ k, row = some k → B ≤ k) (hq : ∀ k, row = some k → ¬ S k) : BelowS S B a w' :=
  ⟨h.bel.grown hg hB hr, h.lt, fun k hk => (hg.block k (h.now k hk) (fun e => hq k e.symm hk)).trans (h.same k hk)⟩
theorem flat_length (l : List Cl) (A : List Value) : (flat l A).length = l.length * 2 := by
  induction l generalizing A with
  | nil => rfl
  | cons x l ih => cases A <;> simp only [flat, List.length_cons, ih] <;> omega
theorem flat_get (l : List Cl) (A : List Value) (i : Nat) (h : i < l.length) (h2 : i < A.length) : (flat l A)[2 * i]? = some (.bool (l[i].1)) ∧ (flat l A)[2 * i + 1]? = some A[i] := by
  induction l generalizing A i with
  | nil => exact absurd h (by simp)
  | cons x l ih =>
    cases A with
    | nil => exact absurd h2 (by simp)
    | cons a A =>
      cases i with
      | zero => exact ⟨rfl, rfl⟩
      | succ i =>
        obtain ⟨h3, h4⟩ := ih A i (by simp at h; omega) (by simp at h2; omega)
        refine ⟨?_, ?_⟩
        · rw [show 2 * (i + 1) = 2 * i + 1 + 1 by omega]; exact h3
        · rw [show 2 * (i + 1) + 1 = 2 * i + 1 + 1 + 1 by omega]; exact h4
/-- what a row's slice is: nil, or a block of its own. -/
theorem rep_slice {w : World} {base b : Nat} {v : Value} {l : List Cl} {A : List Value} (r : Rep S w base b v l A) : (v = .slice none 0 0 ∧ l.length = 0) ∨ ∃ g cap, v = .slice (some ⟨g, 0, none⟩) l.length cap ∧ l.length ≤ cap ∧ cap ≤ maxLen ∧
    (∀ i, (h : i < l.length) → (h2 : i < A.length) → w.cell? ⟨g, 2 * i, none⟩ = some (.bool (l[i].1)) ∧ w.cell? ⟨g, 2 * i + 1, none⟩ = some A[i]) := by
  obtain ⟨h1, h2⟩ := r.row
  rcases h2 with ⟨h2, h3⟩ | ⟨g, cap, cur, h3, h4, h5, h6, h7, h8, h9⟩
  · exact .inl ⟨h2, h3⟩
  · refine .inr ⟨g, cap, h3, h6, h7, fun i h h2 => ?_⟩
    obtain ⟨f1, f2⟩ := flat_get l A i h h2
    have hc := fun j u hj => World.ownsRow.cells r.row (g := g) (by rw [h3]; rfl) j u hj
    have c1 := hc _ _ f1
    have c2 := hc _ _ f2
    simp only [Addr.add, Nat.zero_add] at c1 c2
    refine ⟨?_, ?_⟩
    · by_cases z : 2 * i = 0
      · rw [if_pos z] at c1; rw [z]; exact c1
      · rw [if_neg z] at c1; exact c1
    · rw [if_neg (by omega)] at c2; exact c2
theorem Count_calls (w : World) (base b : Nat) (v : Value) (l : List Cl) (A : List Value) (r : Rep S w base b v l A) : Calls Try.prog 14 #[.pointer (some ⟨b, 0, none⟩)] w fun e w' => e = .returned (.int .i64 l.length) ∧ w' = w := by
  have hc := r.cell
  rcases rep_slice r with ⟨rfl, h⟩ | ⟨g, cap, rfl, h1, h2, h3⟩
  · rw [h]
    clear r
    go_enter Try.func14, Try.ntmps14
    go_wp2
    go_ret
    exact ⟨rfl, rfl⟩
  · clear r h3
    go_enter Try.func14, Try.ntmps14
    go_wp2
    go_ret
    exact ⟨rfl, rfl⟩
theorem there_calls (w : World) (base b : Nat) (v : Value) (l : List Cl) (A : List Value) (n : Int) (r : Rep S w base b v l A) : Calls Try.prog 15 #[.pointer (some ⟨b, 0, none⟩), .int .i64 n] w fun e w' => e = .returned (.bool (decide (0 ≤ n) && decide (n < l.length))) ∧ w' = w := by
  have hc := r.cell
  rcases rep_slice r with ⟨rfl, h⟩ | ⟨g, cap, rfl, h1, h2, h3⟩
  · rw [h]
    clear r
    by_cases h0 : 0 ≤ n
    · rw [decide_eq_true h0, decide_eq_false (show ¬ n < ((0 : Nat) : Int) by omega)]
      go_enter Try.func15, Try.ntmps15
      go_wp2
      all_goals go_ret
      all_goals refine ⟨?_, rfl⟩
      all_goals show Ending.returned (.bool (decide (n < 0))) = _
      all_goals rw [decide_eq_false (by omega)]; rfl
    · rw [decide_eq_false h0, Bool.false_and]
      go_enter Try.func15, Try.ntmps15
      go_wp2
      all_goals go_ret
      all_goals exact ⟨rfl, rfl⟩
  · clear r h3
    generalize l.length = m at *
    by_cases h0 : 0 ≤ n
    · by_cases h4 : n < m
      · rw [decide_eq_true h0, decide_eq_true h4]
        go_enter Try.func15, Try.ntmps15
        go_wp2
        all_goals go_ret
        all_goals exact ⟨rfl, rfl⟩
      · rw [decide_eq_true h0, decide_eq_false h4]
        go_enter Try.func15, Try.ntmps15
        go_wp2
        all_goals go_ret
        all_goals exact ⟨rfl, rfl⟩
    · rw [decide_eq_false h0, Bool.false_and]
      go_enter Try.func15, Try.ntmps15
      go_wp2
      all_goals go_ret
      all_goals exact ⟨rfl, rfl⟩
/-- is valid. -/
def vld (l : List Cl) (n : Int) : Bool := decide (0 ≤ n) && ((l[n.toNat]?.map Prod.fst).getD false)
theorem vld_in {l : List Cl} {i : Nat} (h : i < l.length) : vld l i = l[i].1 := by
  unfold vld
  rw [Int.toNat_natCast, List.getElem?_eq_getElem h]
  simp
theorem Valid_calls (w : World) (base b : Nat) (v : Value) (l : List Cl) (A : List Value) (n : Int) (r : Rep S w base b v l A) : Calls Try.prog 13 #[.pointer (some ⟨b, 0, none⟩), .int .i64 n] w fun e w' => e = .returned (.bool (vld l n)) ∧ w' = w := by
  have HT := there_calls w base b v l A n r
  have hc := r.cell
  have hlen := r.len
  by_cases h : 0 ≤ n ∧ n < l.length
  · obtain ⟨i, rfl⟩ := Int.eq_ofNat_of_zero_le h.1
    have hi : i < l.length := by omega
    rw [decide_eq_true h.1, decide_eq_true h.2] at HT
    rw [vld_in hi]
    rcases rep_slice r with ⟨_, h'⟩ | ⟨g, cap, rfl, h1, h2, h3⟩
    · omega
    · obtain ⟨c1, c2⟩ := h3 i hi (by omega)
      have hlt : (i : Int) < (l.length : Int) := h.2
      clear r h3 c2 h
      generalize l[i].1 = u at *
      generalize l.length = m at *
      have hmul : 2 * i = i * 2 := Nat.mul_comm _ _
      rw [hmul] at c1
      go_enter Try.func13, Try.ntmps13
      go_wp2_with (first | (go_at_call 15; refine HT.mono ?_; rintro e w' ⟨rfl, rfl⟩))
      all_goals go_ret
      all_goals exact ⟨rfl, rfl⟩
  · have e : vld l n = false := by
      unfold vld
      by_cases h0 : 0 ≤ n
      · have : l.length ≤ n.toNat := by have : ¬ n < l.length := fun k => h ⟨h0, k⟩
                                        omega
        rw [List.getElem?_eq_none this]; simp
      · rw [decide_eq_false h0, Bool.false_and]
    have e2 : (decide (0 ≤ n) && decide (n < (l.length : Int))) = false := by
      by_cases h0 : 0 ≤ n
      · have : ¬ n < l.length := fun k => h ⟨h0, k⟩
        rw [decide_eq_false this, Bool.and_false]
      · rw [decide_eq_false h0, Bool.false_and]
    rw [e2] at HT
    rw [e]
    clear r h e e2 hlen
    go_enter Try.func13, Try.ntmps13
    go_wp2_with (first | (go_at_call 15; refine HT.mono ?_; rintro e w' ⟨rfl, rfl⟩))
    all_goals go_ret
    all_goals exact ⟨rfl, rfl⟩
end Go.Proofs.Ytoicddafonpjhaa
