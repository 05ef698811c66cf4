/- Fuse: what the groups cover. -/
import Derived.Test.YtblkedhkkhppnaaDm
namespace Go.Proofs.Ytblkedhkkhppnaa
open Go.RowKit Go
set_option linter.unusedVariables false
set_option linter.unusedSimpArgs false
theorem grp_mem (J : Int → Bool) (C : List En) : ∀ (f k : Nat) (e : Tr), e ∈ grp J C f k → ∃ i : Nat, k ≤ i ∧ i < C.length ∧ e = ⟨i, (gat J C i).2, (gat J C i).1⟩ := by
  intro f
  induction f with
  | zero => intro k e h; cases h
  | succ f ih =>
    intro k e h
    rw [grp] at h
    by_cases hk : k < C.length
    · rw [if_pos hk] at h
      rcases List.mem_cons.1 h with rfl | h
      · exact ⟨k, Nat.le_refl _, hk, rfl⟩
      · obtain ⟨i, h1, h2, h3⟩ := ih _ e h
        exact ⟨i, by omega, h2, h3⟩
    · rw [if_neg hk] at h; cases h
theorem grps_mem {J : Int → Bool} {C : List En} {e : Tr} (h : e ∈ grps J C) : ∃ i : Nat, i < C.length ∧ e = ⟨i, (gat J C i).2, (gat J C i).1⟩ := by
  obtain ⟨i, _, h2, h3⟩ := grp_mem J C _ _ e h
  exact ⟨i, h2, h3⟩
theorem grp_cov (J : Int → Bool) (C : List En) (x : Nat) (hx : x < C.length) : ∀ (f k j : Nat), k ≤ x → C.length ≤ f + k → ∃ i e, fnd3 x (grp J C f k) j = some (i, e) := by
  intro f
  induction f with
  | zero => intro k j h1 h2; omega
  | succ f ih =>
    intro k j h1 h2
    have hk : k < C.length := by omega
    obtain ⟨g1, g2, g3⟩ := gat_bd J C k hk
    rw [grp, if_pos hk, fnd3]
    by_cases hin : inG x ⟨k, (gat J C k).2, (gat J C k).1⟩ = true
    · rw [if_pos hin]; exact ⟨j, _, rfl⟩
    · rw [if_neg hin]
      have : ¬ (x : Int) - k < (gat J C k).2 := by
        intro c
        apply hin
        simp [inG]
        omega
      exact ih _ _ (by omega) (by omega)
theorem fnd3_out {L : List Tr} {x : Int} (h : ∀ e ∈ L, inG x e = false) : ∀ k, fnd3 x L k = none := by
  induction L with
  | nil => intro k; rfl
  | cons a L ih =>
    intro k
    rw [fnd3, if_neg (by rw [h a (List.mem_cons_self ..)]; decide)]
    exact ih (fun e he => h e (List.mem_cons_of_mem _ he)) _
theorem cov_in (J : Int → Bool) (C : List En) (x : Int) (h0 : 0 ≤ x) (h1 : x < C.length) : ∃ (i : Nat) (e : Tr), fnd3 x (grps J C) 0 = some (i, e) ∧ (grps J C)[i]? = some e ∧ 0 ≤ e.x ∧ e.x ≤ x ∧ x - e.x < e.y ∧ e.x ≤ 140737488351232 + C.length := by
  obtain ⟨n, rfl⟩ : ∃ n : Nat, x = n := ⟨x.toNat, by omega⟩
  obtain ⟨i, e, h⟩ := grp_cov J C n (by omega) C.length 0 0 (Nat.zero_le _) (by omega)
  obtain ⟨_, h2, h3⟩ := fnd3_some h
  simp only [Nat.sub_zero] at h2
  obtain ⟨k, h4, h5⟩ := grps_mem (List.mem_of_getElem? h2)
  simp [inG] at h3
  refine ⟨i, e, h, h2, by rw [h5]; simp, h3.1, h3.2, by rw [h5]; simp; omega⟩
theorem cov_out (J : Int → Bool) (C : List En) (x : Int) (h : x < 0 ∨ (C.length : Int) ≤ x) : fnd3 x (grps J C) 0 = none := by
  apply fnd3_out
  intro e he
  obtain ⟨k, h4, rfl⟩ := grps_mem he
  obtain ⟨g1, g2, g3⟩ := gat_bd J C k h4
  obtain ⟨_, _, s3⟩ := span_bd J C.length k h4
  simp only [inG, Bool.and_eq_false_iff, decide_eq_false_iff_not]
  rcases h with h | h
  · left; omega
  · right; omega
theorem grps_pos {J : Int → Bool} {C : List En} : ∀ e ∈ grps J C, 0 ≤ e.x := by
  intro e he
  obtain ⟨k, h4, rfl⟩ := grps_mem he
  simp
end Go.Proofs.Ytblkedhkkhppnaa
