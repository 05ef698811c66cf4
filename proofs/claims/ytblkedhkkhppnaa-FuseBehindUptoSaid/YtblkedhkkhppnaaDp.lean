/- Fuse: instructions behind the end. -/
import Derived.Test.YtblkedhkkhppnaaDo
namespace Go.Proofs.Ytblkedhkkhppnaa
open Go.RowKit Go
set_option linter.unusedVariables false
set_option linter.unusedSimpArgs false
/-- an instruction that does not jump. -/
def calm (e : En) : Bool := !(e.s == 57) && !(e.s == 58) && !(e.s == 59)
theorem jmp1_calm {e : En} (h : calm e = true) : jmp1 e = [] := by
  unfold calm at h
  simp at h
  unfold jmp1
  rw [if_neg h.1.1, if_neg (by rintro (h1 | h1); exact h.1.2 h1; exact h.2 h1)]
theorem jmp_calm (C M : List En) : jmp (C ++ M.filter calm) = jmp C := by
  unfold jmp
  rw [List.flatMap_append]
  have : (M.filter calm).flatMap jmp1 = [] := by
    rw [List.flatMap_eq_nil_iff]
    intro e he
    exact jmp1_calm (List.mem_filter.1 he).2
  rw [this, List.append_nil]
theorem gat_more (J : Int → Bool) (C M : List En) (k : Nat) (h : k + 3 ≤ C.length) : gat J (C ++ M) k = gat J C k := by
  have hs : span J (C ++ M).length k = span J C.length k := by
    unfold span
    rw [List.length_append]
    have e1 : (k + 1 < C.length + M.length) = (k + 1 < C.length) := by apply propext; constructor <;> intro _ <;> omega
    have e2 : (k + 2 < C.length + M.length) = (k + 2 < C.length) := by apply propext; constructor <;> intro _ <;> omega
    simp only [e1, e2]
  obtain ⟨s1, s2, s3⟩ := span_bd J C.length k (by omega)
  unfold gat
  rw [hs, List.drop_append_of_le_length (by omega), List.take_append_of_le_length (by rw [List.length_drop]; omega)]
theorem grp_more (J : Int → Bool) (C M : List En) : ∀ (i f f' k : Nat), (C ++ M).length ≤ f' + k → i + 2 < (grp J C f k).length → (grp J (C ++ M) f' k)[i]? = (grp J C f k)[i]? := by
  intro i
  induction i with
  | zero =>
    intro f f' k hf h
    cases f with
    | zero => simp [grp] at h
    | succ f =>
      by_cases hk : k < C.length
      · have hl := grp_len J C (f + 1) k (by omega)
        have h3 : k + 3 ≤ C.length := by omega
        cases f' with
        | zero => rw [List.length_append] at hf; omega
        | succ f' =>
          rw [grp, grp, if_pos (by rw [List.length_append]; omega), if_pos hk, gat_more J C M k h3]
          rfl
      · rw [grp, if_neg hk] at h; simp at h
  | succ i ih =>
    intro f f' k hf h
    cases f with
    | zero => simp [grp] at h
    | succ f =>
      by_cases hk : k < C.length
      · have hl := grp_len J C (f + 1) k (by omega)
        have h3 : k + 3 ≤ C.length := by omega
        obtain ⟨g1, g2, g3⟩ := gat_bd J C k hk
        cases f' with
        | zero => rw [List.length_append] at hf; omega
        | succ f' =>
          rw [grp, if_pos hk] at h
          rw [grp, grp, if_pos (by rw [List.length_append]; omega), if_pos hk, gat_more J C M k h3]
          simp only [List.getElem?_cons_succ]
          simp only [List.length_cons] at h
          exact ih f f' _ (by omega) (by omega)
      · rw [grp, if_neg hk] at h; simp at h
theorem grps_more (J : Int → Bool) (C M : List En) (i : Nat) (h : i + 2 < (grps J C).length) : (grps J (C ++ M))[i]? = (grps J C)[i]? :=
  grp_more J C M i _ _ 0 (by omega) h
end Go.Proofs.Ytblkedhkkhppnaa
