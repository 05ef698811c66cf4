/- Package cells: every call, by what it answers; the laws' first look. -/
import Derived.Test.YtoicddafonpjhaaKg
namespace Go.Proofs.Ytoicddafonpjhaa
open Go.RowKit Go
set_option linter.unusedVariables false
set_option linter.unusedSimpArgs false
variable {S : Nat → Prop}
/-- these are the cells that a pointer stands for; blocks that they do not lie in are spared. -/
def HasS (S : Nat → Prop) (w : World) (base : Nat) (c : Value) (l : List Cl) : Prop := ∃ b v A, c = .pointer (some ⟨b, 0, none⟩) ∧ Rep S w base b v l A
abbrev Has := HasS (fun _ => False)
theorem own_keep {w w' : World} {base : Nat} {e : TypeId} {s : Nat} {x : Value} {n : Nat} {xs : List Value} (h : ∀ k, x.ownBlock = some k → w'.heap[k]? = w.heap[k]?) (ho : w.ownsRow base e s x n xs) : w'.ownsRow base e s x n xs := by
  obtain ⟨h3, h4⟩ := ho
  refine ⟨h3, ?_⟩
  rcases h4 with h4 | ⟨g, cap, cur, e1, e2, e3, e4⟩
  · exact .inl h4
  · exact .inr ⟨g, cap, cur, e1, e2, by rw [h g (by rw [e1]; rfl)]; exact e3, e4⟩
theorem rep_keep {S' : Nat → Prop} {w w' : World} {base b : Nat} {v : Value} {l : List Cl} {A : List Value} (r : Rep S w base b v l A) (h : ∀ k, k < w.heap.size → w'.heap[k]? = w.heap[k]?) (hS : ∀ k, S' k → k < w'.heap.size ∧ (S k ∨ w.heap.size ≤ k)) : Rep S' w' base b v l A := by
  obtain ⟨cur, hblk⟩ := r.blk
  have h2 := h b (heap_lt hblk)
  have own : ∀ {e : TypeId} {s : Nat} {x : Value} {n : Nat} {xs : List Value}, w.ownsRow base e s x n xs → w'.ownsRow base e s x n xs := fun {e s x n xs} ho => own_keep (fun k hk => h k (ho.lt k hk).2) ho
  refine ⟨r.bb, ⟨cur, by rw [h2]; exact hblk⟩, by rw [World.cell?_of_block (w := w) (a := ⟨b, 0, none⟩) h2]; exact r.cell, by rw [World.frozen?_of_block (w := w) (a := ⟨b, 0, none⟩) h2]; exact r.fr, own r.row, r.len, fun i h h3 => own (r.ab i h h3), r.ap, fun k hk => (hS k hk).1, ?_, ?_, ?_⟩
  · intro k
    rcases (hS b k).2 with h3 | h3
    · exact r.qb h3
    · have := heap_lt hblk; omega
  · intro k hk hk2
    rcases (hS k hk2).2 with h3 | h3
    · exact r.qv k hk h3
    · have := (r.row.lt k hk).2; omega
  · intro i hi k hk hk2
    rcases (hS k hk2).2 with h3 | h3
    · exact r.qa i hi k hk h3
    · have := ((r.ab i hi (by have := r.len; omega)).lt k hk).2; omega
theorem has_more {S' : Nat → Prop} {w w' : World} {base : Nat} {c : Value} {l : List Cl} (r : HasS S w base c l) (h : Below w.heap.size w w') (hS : ∀ k, S' k → k < w'.heap.size ∧ (S k ∨ w.heap.size ≤ k)) : HasS S' w' base c l := by
  obtain ⟨b, v, A, e, r⟩ := r
  exact ⟨b, v, A, e, rep_keep r h.block hS⟩
theorem has_keep {w w' : World} {base : Nat} {c : Value} {l : List Cl} (r : HasS S w base c l) (h : Below w.heap.size w w') : HasS S w' base c l :=
  has_more r h fun k hk => by
    obtain ⟨b, v, A, e, r⟩ := r
    exact ⟨Nat.lt_of_lt_of_le (r.qs k hk) h.size, .inl hk⟩
theorem New_calls (w : World) (base : Nat) (hb : base ≤ w.heap.size) : Calls Try.prog 7 #[] w fun e w' => ∃ b, e = .returned (.pointer (some ⟨b, 0, none⟩)) ∧ Has w' base (.pointer (some ⟨b, 0, none⟩)) [] ∧ Below base w w' := by
  have hbel := fun o => (Below.refl base w).alloc hb o
  have hr : Rep (fun _ => False) (w.alloc (.cells #[.slice none 0 0] 44)) base w.heap.size (.slice none 0 0) [] [] := by
    have h := heap_alloc_new w (.cells #[.slice none 0 0] 44)
    exact ⟨hb, ⟨_, h⟩, by rw [cell_of_row _ _ _ _ _ _ h]; rfl, frozen_of_row _ _ _ _ _ h, World.ownsRow_nil _ _ _ _, rfl, fun i h => absurd h (by simp), fun i j h => absurd h (by simp), fun _ h => h.elim, fun h => h, fun _ _ h => h, fun _ _ _ _ h => h⟩
  have HB := Lib.hid hbel
  have HRr := Lib.hid hr
  clear hbel hr
  go_enter Try.func7, Try.ntmps7
  go_wp2
  go_ret
  exact ⟨_, rfl, ⟨_, _, _, rfl, HRr.out⟩, HB.out _⟩
/-- one made. -/
def mk (l : List Cl) (n : Int) : List Cl := if (decide (0 ≤ n) && decide (n < (l.length : Int))) = true then l.set n.toNat (vld l n, abv l n ++ [(l.length : Int)]) ++ [(vld l n, [])] else l ++ [(n == -1, [])]
theorem MakeS_calls (w : World) (base : Nat) (c : Value) (l : List Cl) (n : Int) (r : HasS S w base c l) (hl : l.length < 1000000) (hal : (abv l n).length < 1000000) :
    Calls Try.prog 9 #[c, .int .i64 n] w fun e w' => e = .returned (.int .i64 l.length) ∧ HasS S w' base c (mk l n) ∧ BelowS S base w w' := by
  obtain ⟨b, v, A, rfl, r⟩ := r
  unfold mk
  by_cases h : (decide (0 ≤ n) && decide (n < (l.length : Int))) = true
  · rw [if_pos h]
    rw [Bool.and_eq_true] at h
    have h0 := of_decide_eq_true h.1
    have h1 := of_decide_eq_true h.2
    obtain ⟨i, rfl⟩ := Int.eq_ofNat_of_zero_le h0
    have hi : i < l.length := by omega
    have hx : l[i]? = some (vld l i, abv l i) := by
      rw [vld_in hi]
      unfold abv
      rw [Int.toNat_natCast, List.getElem?_eq_getElem hi]
      rfl
    refine (Make_on w base b v l A i _ _ r hx hl hal).mono ?_
    rintro e w' ⟨h1, v', A', h2, h3⟩
    exact ⟨h1, ⟨b, v', A', rfl, by rw [Int.toNat_natCast]; exact h2⟩, h3⟩
  · rw [if_neg h]
    rw [Bool.not_eq_true] at h
    refine (Make_bare w base b v l A n r h hl).mono ?_
    rintro e w' ⟨h1, v', h2, h3⟩
    exact ⟨h1, ⟨b, v', _, rfl, h2⟩, h3⟩
theorem Make_calls (w : World) (base : Nat) (c : Value) (l : List Cl) (n : Int) (r : Has w base c l) (hl : l.length < 1000000) (hal : (abv l n).length < 1000000) :
    Calls Try.prog 9 #[c, .int .i64 n] w fun e w' => e = .returned (.int .i64 l.length) ∧ Has w' base c (mk l n) ∧ Below base w w' :=
  (MakeS_calls w base c l n r hl hal).mono fun e w' ⟨h1, h2, h3⟩ => ⟨h1, h2, h3.bel⟩
theorem HValidS (w : World) (base : Nat) (c : Value) (l : List Cl) (n : Int) (r : HasS S w base c l) : Calls Try.prog 13 #[c, .int .i64 n] w fun e w' => e = .returned (.bool (vld l n)) ∧ w' = w := by
  obtain ⟨b, v, A, rfl, r⟩ := r
  exact Valid_calls w base b v l A n r
theorem HCountS (w : World) (base : Nat) (c : Value) (l : List Cl) (r : HasS S w base c l) : Calls Try.prog 14 #[c] w fun e w' => e = .returned (.int .i64 l.length) ∧ w' = w := by
  obtain ⟨b, v, A, rfl, r⟩ := r
  exact Count_calls w base b v l A r
theorem HValid (w : World) (base : Nat) (c : Value) (l : List Cl) (n : Int) (r : Has w base c l) : Calls Try.prog 13 #[c, .int .i64 n] w fun e w' => e = .returned (.bool (vld l n)) ∧ w' = w := HValidS w base c l n r
theorem HCount (w : World) (base : Nat) (c : Value) (l : List Cl) (r : Has w base c l) : Calls Try.prog 14 #[c] w fun e w' => e = .returned (.int .i64 l.length) ∧ w' = w := HCountS w base c l r
theorem HBreakS (w : World) (base : Nat) (c : Value) (l : List Cl) (n : Int) (r : HasS S w base c l) (hl : 1 + load l ≤ 1000000) (hm : l.length < 1000000) (h0 : l ≠ []) :
    Calls Try.prog 12 #[c, .int .i64 n] w fun e w' => e = .returned (.int .i64 (brk (1 + load l) l [n] 0).2) ∧ HasS S w' base c (brk (1 + load l) l [n] 0).1 ∧ BelowS S base w w' := by
  obtain ⟨b, v, A, rfl, r⟩ := r
  rcases rep_slice r with ⟨_, h⟩ | ⟨g, cap, rfl, _⟩
  · exact absurd (List.eq_nil_of_length_eq_zero h) h0
  · refine (Break_calls w base b g cap l A n r hl hm).mono ?_
    rintro e w' ⟨h1, h2, h3⟩
    exact ⟨h1, ⟨b, _, A, rfl, h2⟩, h3⟩
theorem HBreak (w : World) (base : Nat) (c : Value) (l : List Cl) (n : Int) (r : Has w base c l) (hl : 1 + load l ≤ 1000000) (hm : l.length < 1000000) (h0 : l ≠ []) :
    Calls Try.prog 12 #[c, .int .i64 n] w fun e w' => e = .returned (.int .i64 (brk (1 + load l) l [n] 0).2) ∧ Has w' base c (brk (1 + load l) l [n] 0).1 ∧ Below base w w' :=
  (HBreakS w base c l n r hl hm h0).mono fun e w' ⟨h1, h2, h3⟩ => ⟨h1, h2, h3.bel⟩
set_option maxRecDepth 100000 in
theorem alive12 (w : World) : Calls Try.prog 8 #[] w fun e w' => e = .returned (.bool true) ∧ Below w.heap.size w w' := by
  have N := Lib.hid (New_calls w w.heap.size (Nat.le_refl _))
  have M1 := Lib.hid (fun (w1 : World) c r => Make_calls w1 w.heap.size c [] (-1) r (by decide) (by decide))
  have e1 : mk [] (-1) = [(true, [])] := by decide
  have e2 : mk [(true, [])] 0 = [(true, [1]), (true, [])] := by decide
  have e3 : brk (1 + load [(true, [1]), (true, [])]) [(true, [1]), (true, [])] [0] 0 = ([(false, [1]), (false, [])], 2) := by decide
  rw [e1] at M1
  have M2 := Lib.hid (fun (w1 : World) c r => Make_calls w1 w.heap.size c [(true, [])] 0 r (by decide) (by decide))
  rw [e2] at M2
  have V0 := Lib.hid (fun (w1 : World) c r => HValid w1 w.heap.size c [(true, [1]), (true, [])] 0 r)
  have V1 := Lib.hid (fun (w1 : World) c r => HValid w1 w.heap.size c [(true, [1]), (true, [])] 1 r)
  have V2 := Lib.hid (fun (w1 : World) c r => HValid w1 w.heap.size c [(false, [1]), (false, [])] 1 r)
  have BR := Lib.hid (fun (w1 : World) c r => HBreak w1 w.heap.size c [(true, [1]), (true, [])] 0 r (by decide) (by decide) (by decide))
  have CN := Lib.hid (fun (w1 : World) c r => HCount w1 w.heap.size c [(false, [1]), (false, [])] r)
  rw [e3] at BR
  rw [show vld [(true, [1]), (true, [])] 0 = true by decide] at V0
  rw [show vld [(true, [1]), (true, [])] 1 = true by decide] at V1
  rw [show vld [(false, [1]), (false, [])] 1 = false by decide] at V2
  clear e1 e2 e3
  go_enter Try.func8, Try.ntmps8
  go_wp2_with (first | (go_at_call 7; refine N.out.mono ?_; rintro e w1 ⟨b, rfl, hr1, hb1⟩) | (go_at_call 9; with_reducible first | (refine (M1.out _ _ (by assumption)).mono ?_; rintro e w2 ⟨rfl, hr2, hb2⟩) | (refine (M2.out _ _ (by assumption)).mono ?_; rintro e w3 ⟨rfl, hr3, hb3⟩)) | (go_at_call 13; with_reducible first | (refine (V0.out _ _ (by assumption)).mono ?_; rintro e w' ⟨rfl, rfl⟩) | (refine (V1.out _ _ (by assumption)).mono ?_; rintro e w' ⟨rfl, rfl⟩) | (refine (V2.out _ _ (by assumption)).mono ?_; rintro e w' ⟨rfl, rfl⟩)) | (go_at_call 12; refine (BR.out _ _ (by assumption)).mono ?_; rintro e w4 ⟨rfl, hr4, hb4⟩) | (go_at_call 14; refine (CN.out _ _ (by assumption)).mono ?_; rintro e w' ⟨rfl, rfl⟩))
  all_goals go_ret
  all_goals exact ⟨rfl, ((hb1.trans hb2).trans hb3).trans hb4⟩
end Go.Proofs.Ytoicddafonpjhaa
