/- The answer's cells: one made, as a row. -/
import Derived.Test.YtoicddafonpjhaaKk
namespace Go.Proofs.Ytoicddafonpjhaa
open Go.RowKit Go
set_option linter.unusedVariables false
set_option linter.unusedSimpArgs false
theorem Try.info34 : (Try.prog.info? 34).map (fun i => (i.zero, i.size, i.bytes)) = some (some (.agg #[.bool false, .int .i64 0]), 2, 16) := by kernel_rfl
/-- a cell of the answer's: whether it is valid, on which it stands. -/
abbrev Rc := Bool × Int
def rflat : List Rc → List Value
  | [] => []
  | x :: l => .bool x.1 :: .int .i64 x.2 :: rflat l
theorem rflat_length (l : List Rc) : (rflat l).length = l.length * 2 := by
  induction l with
  | nil => rfl
  | cons x l ih => simp only [rflat, List.length_cons, ih]; omega
theorem rflat_get (l : List Rc) (i : Nat) (h : i < l.length) : (rflat l)[i * 2]? = some (.bool (l[i].1)) ∧ (rflat l)[i * 2 + 1]? = some (.int .i64 (l[i].2)) := by
  induction l generalizing i with
  | nil => exact absurd h (by simp)
  | cons x l ih =>
    cases i with
    | zero => exact ⟨rfl, rfl⟩
    | succ i =>
      obtain ⟨h3, h4⟩ := ih i (by simpa using h)
      exact ⟨by rw [show (i + 1) * 2 = i * 2 + 1 + 1 by omega]; exact h3, by rw [show (i + 1) * 2 + 1 = i * 2 + 1 + 1 + 1 by omega]; exact h4⟩
theorem rflat_append (l m : List Rc) : rflat (l ++ m) = rflat l ++ rflat m := by
  induction l with
  | nil => rfl
  | cons x l ih => simp only [List.cons_append, rflat, ih]
theorem rflat_set (l : List Rc) (i : Nat) (u : Bool) (h : i < l.length) : rflat (l.set i (u, l[i].2)) = (rflat l).set (i * 2) (.bool u) := by
  induction l generalizing i with
  | nil => exact absurd h (by simp)
  | cons y l ih => cases i with
    | zero => rfl
    | succ i =>
      simp only [List.set_cons_succ, rflat, List.getElem_cons_succ]
      rw [ih i (by simpa using h), show (i + 1) * 2 = i * 2 + 1 + 1 by omega]
      rfl
theorem rflat_one (l : List Rc) : ∀ u ∈ rflat l, u.oneCell' = true := by
  induction l with
  | nil => intro u h; cases h
  | cons x l ih =>
    intro u h
    simp only [rflat, List.mem_cons] at h
    rcases h with rfl | rfl | h
    · rfl
    · rfl
    · exact ih u h
/-- a row of the answer's: nil, or where its cells lie. -/
theorem rrow_slice {w : World} {base : Nat} {v : Value} {R : List Rc} (r : w.ownsRow base 34 2 v R.length (rflat R)) : (v = .slice none 0 0 ∧ R = []) ∨ ∃ g cap, v = .slice (some ⟨g, 0, none⟩) R.length cap ∧ R.length ≤ cap ∧
    (∀ i, (h : i < R.length) → w.cell? ⟨g, i * 2, none⟩ = some (.bool (R[i].1)) ∧ w.cell? ⟨g, i * 2 + 1, none⟩ = some (.int .i64 (R[i].2)) ∧ w.frozen? ⟨g, i * 2, none⟩ = false) ∧
    (∀ j u, (rflat R)[j]? = some u → w.cell? ((⟨g, 0, none⟩ : Addr).add j) = some u) := by
  rcases r.2 with ⟨h2, h3⟩ | ⟨g, cap, cur, h3, h4, h5, h6, h7, h8, h9⟩
  · exact .inl ⟨h2, List.eq_nil_of_length_eq_zero h3⟩
  · refine .inr ⟨g, cap, h3, h6, fun i h => ?_, fun j u hj => World.ownsRow.cells r (g := g) (by rw [h3]; rfl) j u hj⟩
    obtain ⟨f1, f2⟩ := rflat_get R i h
    have c1 := World.ownsRow.cells r (g := g) (by rw [h3]; rfl) _ _ f1
    have c2 := World.ownsRow.cells r (g := g) (by rw [h3]; rfl) _ _ f2
    simp only [Addr.add, Nat.zero_add] at c1 c2
    refine ⟨?_, ?_, frozen_of_row w g _ cur 34 h5⟩
    · by_cases z : i * 2 = 0
      · rw [if_pos z] at c1; rw [z]; exact c1
      · rw [if_neg z] at c1; exact c1
    · rw [if_neg (by omega)] at c2; exact c2
/-- is valid. -/
def rvl (R : List Rc) (n : Int) : Bool := decide (0 ≤ n) && ((R[n.toNat]?.map Prod.fst).getD false)
theorem rvl_in {R : List Rc} {i : Nat} (h : i < R.length) : rvl R i = R[i].1 := by
  unfold rvl
  rw [Int.toNat_natCast, List.getElem?_eq_getElem h]
  simp
def rinr (R : List Rc) (n : Int) : Bool := decide (0 ≤ n) && decide (n < (R.length : Int))
/-- one made. -/
def rmk (R : List Rc) (n : Int) : List Rc := R ++ [(if rinr R n = true then rvl R n else n == -1, n)]
theorem own_empty (w : World) : (w.alloc (.cells #[] 34)).ownsRow w.heap.size 34 2 (.slice (some ⟨w.heap.size, 0, none⟩) 0 0) 0 [] :=
  ⟨rfl, .inr ⟨w.heap.size, 0, #[], rfl, Nat.le_refl _, heap_alloc_new w _, Nat.le_refl _, by unfold maxLen; omega, rfl, rfl⟩⟩
set_option maxRecDepth 100000 in
set_option maxHeartbeats 4000000 in
theorem rMake_walk (w : World) (g cap m : Nat) (n : Int) (u : Bool) (fl : List Value) (hl : m < 1000000) (HL : fl.length = m * 2) (HO : ∀ u ∈ fl, u.oneCell' = true) (hcap : m ≤ cap)
    (hsrc : ∀ j x, fl[j]? = some x → (w.alloc (.cells #[] 34)).cell? ((⟨g, 0, none⟩ : Addr).add j) = some x)
    (hread : (∃ i : Nat, n = i ∧ i < m ∧ w.cell? ⟨g, i * 2, none⟩ = some (.bool u)) ∨ (¬ (0 ≤ n ∧ n < m) ∧ u = (n == -1))) :
    Calls Try.prog 10 #[.slice (some ⟨g, 0, none⟩) m cap, .int .i64 n] w fun e w' => ∃ v', e = .returned v' ∧ w'.ownsRow w.heap.size 34 2 v' (m + 1) (fl ++ [.bool u, .int .i64 n]) ∧ Below w.heap.size w w' := by
  obtain ⟨i34, hi, hz0, hz1, hz2⟩ := info_parts Try.info34
  have O1 := Lib.hid (own_empty w)
  have B1 := Lib.hid ((Below.refl w.heap.size w).alloc (Nat.le_refl _) (.cells #[] 34))
  have SR := Lib.hid hsrc
  have HLh := Lib.hid HL
  have HOh := Lib.hid HO
  clear hsrc HL HO
  rcases hread with ⟨i, rfl, hi1, hc⟩ | ⟨hn, rfl⟩
  · have hi2 : (i : Int) < m := by omega
    go_enter Try.func10, Try.ntmps10
    go_wp2_with (first | (at_builtin; first | (refine wpList_append_freshN rfl (.tmp 22) (.tmp 23) 25 rfl w.heap.size 34 i34 _ 2 16 Try.underlying25 hi hz0 hz1 hz2 rfl (by decide) _ _ _ rfl O1.out ⟨g, 0, none⟩ m cap fl rfl HLh.out SR.out HOh.out (by unfold maxLen; omega) (by omega) B1.out.size ?_; intro v1 w1 hown hgrow _; replace hgrow := Lib.hid (B1.out.grown hgrow B1.out.size (fun q hq => (O1.out.lt q hq).1)); rw [Nat.zero_add, List.nil_append] at hown) | (refine wpList_append_freshN rfl (.tmp 25) (.tmp 29) 25 rfl w.heap.size 34 i34 _ 2 16 Try.underlying25 hi hz0 hz1 hz2 rfl (by decide) _ m fl rfl (hown.alloc _) ⟨_, 0, none⟩ 1 1 [.bool u, .int .i64 i] rfl rfl (by intro j u hj; match j, hj with | 0, hj => (simp at hj; subst hj; simp [Addr.add]) | 1, hj => (simp at hj; subst hj; simp [Addr.add])) (by intro u hu; simp at hu; rcases hu with rfl | rfl <;> rfl) (by unfold maxLen; omega) (by omega) (by have := hgrow.out.size; simp only [World.alloc]; rw [Array.size_push]; omega) ?_; intro v2 w2 hown2 hgrow2 _)))
    all_goals go_ret
    all_goals exact ⟨_, rfl, hown2, (hgrow.out.alloc hgrow.out.size _).grown hgrow2 (by have := hgrow.out.size; simp only [World.alloc]; rw [Array.size_push]; omega) (fun q hq => (hown.lt q hq).1)⟩
  · by_cases h0 : 0 ≤ n
    · have h1 : ¬ n < m := fun c => hn ⟨h0, c⟩
      clear hn
      go_enter Try.func10, Try.ntmps10
      go_wp2_with (first | (at_builtin; first | (refine wpList_append_freshN rfl (.tmp 22) (.tmp 23) 25 rfl w.heap.size 34 i34 _ 2 16 Try.underlying25 hi hz0 hz1 hz2 rfl (by decide) _ _ _ rfl O1.out ⟨g, 0, none⟩ m cap fl rfl HLh.out SR.out HOh.out (by unfold maxLen; omega) (by omega) B1.out.size ?_; intro v1 w1 hown hgrow _; replace hgrow := Lib.hid (B1.out.grown hgrow B1.out.size (fun q hq => (O1.out.lt q hq).1)); rw [Nat.zero_add, List.nil_append] at hown) | (refine wpList_append_freshN rfl (.tmp 25) (.tmp 29) 25 rfl w.heap.size 34 i34 _ 2 16 Try.underlying25 hi hz0 hz1 hz2 rfl (by decide) _ m fl rfl (hown.alloc _) ⟨_, 0, none⟩ 1 1 [.bool (n == -1), .int .i64 n] rfl rfl (by intro j u hj; match j, hj with | 0, hj => (simp at hj; subst hj; simp [Addr.add]) | 1, hj => (simp at hj; subst hj; simp [Addr.add])) (by intro u hu; simp at hu; rcases hu with rfl | rfl <;> rfl) (by unfold maxLen; omega) (by omega) (by have := hgrow.out.size; simp only [World.alloc]; rw [Array.size_push]; omega) ?_; intro v2 w2 hown2 hgrow2 _)))
      all_goals go_ret
      all_goals exact ⟨_, rfl, hown2, (hgrow.out.alloc hgrow.out.size _).grown hgrow2 (by have := hgrow.out.size; simp only [World.alloc]; rw [Array.size_push]; omega) (fun q hq => (hown.lt q hq).1)⟩
    · clear hn
      go_enter Try.func10, Try.ntmps10
      go_wp2_with (first | (at_builtin; first | (refine wpList_append_freshN rfl (.tmp 22) (.tmp 23) 25 rfl w.heap.size 34 i34 _ 2 16 Try.underlying25 hi hz0 hz1 hz2 rfl (by decide) _ _ _ rfl O1.out ⟨g, 0, none⟩ m cap fl rfl HLh.out SR.out HOh.out (by unfold maxLen; omega) (by omega) B1.out.size ?_; intro v1 w1 hown hgrow _; replace hgrow := Lib.hid (B1.out.grown hgrow B1.out.size (fun q hq => (O1.out.lt q hq).1)); rw [Nat.zero_add, List.nil_append] at hown) | (refine wpList_append_freshN rfl (.tmp 25) (.tmp 29) 25 rfl w.heap.size 34 i34 _ 2 16 Try.underlying25 hi hz0 hz1 hz2 rfl (by decide) _ m fl rfl (hown.alloc _) ⟨_, 0, none⟩ 1 1 [.bool (n == -1), .int .i64 n] rfl rfl (by intro j u hj; match j, hj with | 0, hj => (simp at hj; subst hj; simp [Addr.add]) | 1, hj => (simp at hj; subst hj; simp [Addr.add])) (by intro u hu; simp at hu; rcases hu with rfl | rfl <;> rfl) (by unfold maxLen; omega) (by omega) (by have := hgrow.out.size; simp only [World.alloc]; rw [Array.size_push]; omega) ?_; intro v2 w2 hown2 hgrow2 _)))
      all_goals go_ret
      all_goals exact ⟨_, rfl, hown2, (hgrow.out.alloc hgrow.out.size _).grown hgrow2 (by have := hgrow.out.size; simp only [World.alloc]; rw [Array.size_push]; omega) (fun q hq => (hown.lt q hq).1)⟩
set_option maxRecDepth 100000 in
set_option maxHeartbeats 4000000 in
theorem rMake_nil (w : World) (n : Int) :
    Calls Try.prog 10 #[.slice none 0 0, .int .i64 n] w fun e w' => ∃ v', e = .returned v' ∧ w'.ownsRow w.heap.size 34 2 v' 1 [.bool (n == -1), .int .i64 n] ∧ Below w.heap.size w w' := by
  obtain ⟨i34, hi, hz0, hz1, hz2⟩ := info_parts Try.info34
  have O1 := Lib.hid (own_empty w)
  have B1 := Lib.hid ((Below.refl w.heap.size w).alloc (Nat.le_refl _) (.cells #[] 34))
  by_cases h0 : 0 ≤ n
  · have h1 : ¬ n < 0 := by omega
    go_enter Try.func10, Try.ntmps10
    go_wp2_with (first | (at_builtin; first | (refine wpList_append_freshN rfl (.tmp 25) (.tmp 29) 25 rfl w.heap.size 34 i34 _ 2 16 Try.underlying25 hi hz0 hz1 hz2 rfl (by decide) _ 0 [] rfl (O1.out.alloc _) ⟨_, 0, none⟩ 1 1 [.bool (n == -1), .int .i64 n] rfl rfl (by intro j u hj; match j, hj with | 0, hj => (simp at hj; subst hj; simp [Addr.add]) | 1, hj => (simp at hj; subst hj; simp [Addr.add])) (by intro u hu; simp at hu; rcases hu with rfl | rfl <;> rfl) (by unfold maxLen; omega) (by omega) (by have := B1.out.size; simp only [World.alloc] at *; rw [Array.size_push]; omega) ?_; intro v2 w2 hown2 hgrow2 _)))
    all_goals go_ret
    all_goals exact ⟨_, rfl, hown2, (B1.out.alloc B1.out.size _).grown hgrow2 (by have := B1.out.size; simp only [World.alloc] at *; rw [Array.size_push]; omega) (fun q hq => (O1.out.lt q hq).1)⟩
  · go_enter Try.func10, Try.ntmps10
    go_wp2_with (first | (at_builtin; first | (refine wpList_append_freshN rfl (.tmp 25) (.tmp 29) 25 rfl w.heap.size 34 i34 _ 2 16 Try.underlying25 hi hz0 hz1 hz2 rfl (by decide) _ 0 [] rfl (O1.out.alloc _) ⟨_, 0, none⟩ 1 1 [.bool (n == -1), .int .i64 n] rfl rfl (by intro j u hj; match j, hj with | 0, hj => (simp at hj; subst hj; simp [Addr.add]) | 1, hj => (simp at hj; subst hj; simp [Addr.add])) (by intro u hu; simp at hu; rcases hu with rfl | rfl <;> rfl) (by unfold maxLen; omega) (by omega) (by have := B1.out.size; simp only [World.alloc] at *; rw [Array.size_push]; omega) ?_; intro v2 w2 hown2 hgrow2 _)))
    all_goals go_ret
    all_goals exact ⟨_, rfl, hown2, (B1.out.alloc B1.out.size _).grown hgrow2 (by have := B1.out.size; simp only [World.alloc] at *; rw [Array.size_push]; omega) (fun q hq => (O1.out.lt q hq).1)⟩
theorem rMake_calls (w : World) (base : Nat) (v : Value) (R : List Rc) (n : Int) (r : w.ownsRow base 34 2 v R.length (rflat R)) (hl : R.length < 1000000) :
    Calls Try.prog 10 #[v, .int .i64 n] w fun e w' => ∃ v', e = .returned v' ∧ w'.ownsRow w.heap.size 34 2 v' (rmk R n).length (rflat (rmk R n)) ∧ Below w.heap.size w w' := by
  have hlen : (rmk R n).length = R.length + 1 := by unfold rmk; simp
  obtain ⟨u, hu⟩ : ∃ u, (if rinr R n = true then rvl R n else n == -1) = u := ⟨_, rfl⟩
  have RM : rflat (rmk R n) = rflat R ++ [.bool u, .int .i64 n] := by unfold rmk; rw [hu, rflat_append]; rfl
  rw [hlen, RM]
  rcases rrow_slice r with ⟨rfl, rfl⟩ | ⟨g, cap, rfl, hcap, hall, hsrc⟩
  · have hu : u = (n == -1) := by rw [← hu, if_neg]; unfold rinr; simp
    subst hu
    exact rMake_nil w n
  · refine rMake_walk w g cap R.length n u (rflat R) hl (rflat_length R) (rflat_one R) hcap (fun j x hj => World.ownsRow.cells (r.alloc (.cells #[] 34)) (g := g) rfl j x hj) ?_
    by_cases h : rinr R n = true
    · left
      rw [if_pos h] at hu
      unfold rinr at h
      rw [Bool.and_eq_true] at h
      obtain ⟨i, rfl⟩ := Int.eq_ofNat_of_zero_le (of_decide_eq_true h.1)
      have hii : i < R.length := by have := of_decide_eq_true h.2; omega
      rw [rvl_in hii] at hu
      exact ⟨i, rfl, hii, by rw [← hu]; exact (hall i hii).1⟩
    · right
      rw [if_neg h] at hu
      refine ⟨fun c => h ?_, hu.symm⟩
      unfold rinr
      rw [decide_eq_true c.1, decide_eq_true c.2]; rfl
end Go.Proofs.Ytoicddafonpjhaa
