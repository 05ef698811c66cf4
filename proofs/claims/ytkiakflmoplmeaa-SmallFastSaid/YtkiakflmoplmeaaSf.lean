/- The walks through package soft: sums, differences. -/
import Derived.Test.YtkiakflmoplmeaaSe
namespace Go.Proofs.Ytkiakflmoplmeaa
open Go.RowKit Fp
set_option linter.unusedVariables false
set_option linter.unusedSimpArgs false
set_option maxRecDepth 100000 in
theorem Add_lt (a b : Int) (w : World) (ha : U64 a) (hb : U64 b) (c1 : isNaN a = false) (c2 : isNaN b = false) (c3 : isInf a = false) (c4 : isInf b = false) (c5 : isZ a = false) (c6 : isZ b = false) (hs : decide (sz a < sz b) = true) (hle : oexp a ≤ oexp b) :
    Calls Try.prog 24 #[.int .u64 a, .int .u64 b] w fun e w' => e = .returned (.int .u64 (addG (ngb b) (oman b) (oexp b) (ngb a) (oman a) (oexp a))) ∧ Below w.heap.size w w' := by
  obtain ⟨he0, he1⟩ := oexp_bd ha
  obtain ⟨hf0, hf1⟩ := oexp_bd hb
  have hu := oman_u64 a
  have hv := oman_u64 b
  go_enter Try.func24, Try.ntmps24
  go_wp2_with (first | (go_at_call 44; refine (isNaN_calls _ _).mono ?_; rintro e w' ⟨rfl, rfl⟩) | (go_at_call 45; refine (isInf_calls _ _).mono ?_; rintro e w' ⟨rfl, rfl⟩) | (go_at_call 46; refine (zero_calls _ _).mono ?_; rintro e w' ⟨rfl, rfl⟩) | (go_at_call 47; refine (open_calls _ _ (by assumption)).mono ?_; rintro e w' ⟨rfl, rfl⟩) | (go_at_call 48; refine (sized_calls _ _).mono ?_; rintro e w' ⟨rfl, rfl⟩) | (go_at_call 49; refine (add_calls _ _ _ _ _ _ _ hv hu (by omega) (by omega) (by omega) (by omega)).mono ?_; rintro e w1 ⟨rfl, hb1⟩))
  go_ret
  exact ⟨rfl, below_via hb1 (by repeat (first | exact Below.refl _ _ | apply below_alloc | apply below_drewN | apply below_drew))⟩
set_option maxRecDepth 100000 in
theorem Add_ge (a b : Int) (w : World) (ha : U64 a) (hb : U64 b) (c1 : isNaN a = false) (c2 : isNaN b = false) (c3 : isInf a = false) (c4 : isInf b = false) (c5 : isZ a = false) (c6 : isZ b = false) (hs : decide (sz a < sz b) = false) (hle : oexp b ≤ oexp a) :
    Calls Try.prog 24 #[.int .u64 a, .int .u64 b] w fun e w' => e = .returned (.int .u64 (addG (ngb a) (oman a) (oexp a) (ngb b) (oman b) (oexp b))) ∧ Below w.heap.size w w' := by
  obtain ⟨he0, he1⟩ := oexp_bd ha
  obtain ⟨hf0, hf1⟩ := oexp_bd hb
  have hu := oman_u64 a
  have hv := oman_u64 b
  go_enter Try.func24, Try.ntmps24
  go_wp2_with (first | (go_at_call 44; refine (isNaN_calls _ _).mono ?_; rintro e w' ⟨rfl, rfl⟩) | (go_at_call 45; refine (isInf_calls _ _).mono ?_; rintro e w' ⟨rfl, rfl⟩) | (go_at_call 46; refine (zero_calls _ _).mono ?_; rintro e w' ⟨rfl, rfl⟩) | (go_at_call 47; refine (open_calls _ _ (by assumption)).mono ?_; rintro e w' ⟨rfl, rfl⟩) | (go_at_call 48; refine (sized_calls _ _).mono ?_; rintro e w' ⟨rfl, rfl⟩) | (go_at_call 49; refine (add_calls _ _ _ _ _ _ _ hu hv (by omega) (by omega) (by omega) (by omega)).mono ?_; rintro e w1 ⟨rfl, hb1⟩))
  go_ret
  exact ⟨rfl, below_via hb1 (by repeat (first | exact Below.refl _ _ | apply below_alloc | apply below_drewN | apply below_drew))⟩
set_option maxRecDepth 100000 in
theorem Add_calls (a b : Int) (w : World) (ha : U64 a) (hb : U64 b) (m1 : isZ a = false → isZ b = false → isInf a = false → isInf b = false → isNaN a = false → isNaN b = false → (sz a < sz b → oexp a ≤ oexp b) ∧ (¬ sz a < sz b → oexp b ≤ oexp a)) :
    Calls Try.prog 24 #[.int .u64 a, .int .u64 b] w fun e w' => e = .returned (.int .u64 (AddG a b)) ∧ Below w.heap.size w w' := by
  by_cases hs : isNaN a = false ∧ isNaN b = false ∧ isInf a = false ∧ isInf b = false ∧ isZ a = false ∧ isZ b = false
  · obtain ⟨c1, c2, c3, c4, c5, c6⟩ := hs
    obtain ⟨m2, m3⟩ := m1 c5 c6 c3 c4 c1 c2
    have E : AddG a b = if sz a < sz b then addG (ngb b) (oman b) (oexp b) (ngb a) (oman a) (oexp a) else addG (ngb a) (oman a) (oexp a) (ngb b) (oman b) (oexp b) := by simp [AddG, c1, c2, c3, c4, c5, c6]
    rw [E]
    by_cases hl : sz a < sz b
    · rw [if_pos hl]; exact Add_lt a b w ha hb c1 c2 c3 c4 c5 c6 (decide_eq_true hl) (m2 hl)
    · rw [if_neg hl]; exact Add_ge a b w ha hb c1 c2 c3 c4 c5 c6 (decide_eq_false hl) (m3 hl)
  · have HS := Lib.hid hs
    clear hs m1
    have E0 : ∃ x, Go.bits .xor .u64 a 9223372036854775808 = x := ⟨_, rfl⟩
    unfold AddG
    obtain ⟨x, E0⟩ := E0
    rw [E0]
    have E1 : ∃ y, Go.bits .and .u64 a b = y := ⟨_, rfl⟩
    obtain ⟨y, E1⟩ := E1
    rw [E1]
    have HG : ∃ g, addG (ngb b) (oman b) (oexp b) (ngb a) (oman a) (oexp a) = g := ⟨_, rfl⟩
    obtain ⟨g, HG⟩ := HG
    have HK : ∃ g, addG (ngb a) (oman a) (oexp a) (ngb b) (oman b) (oexp b) = g := ⟨_, rfl⟩
    obtain ⟨k, HK⟩ := HK
    rw [HG, HK]
    clear HG HK
    cases n1 : isNaN a
    · cases n2 : isNaN b
      · cases n3 : isInf a
        · cases n4 : isInf b <;> cases n5 : isZ a <;> cases n6 : isZ b
          all_goals first
            | (exfalso; exact HS.out ⟨n1, n2, n3, n4, n5, n6⟩)
            | (clear HS
               go_enter Try.func24, Try.ntmps24
               go_wp2_with (first | (go_at_call 44; refine (isNaN_calls _ _).mono ?_; rintro e w' ⟨rfl, rfl⟩) | (go_at_call 45; refine (isInf_calls _ _).mono ?_; rintro e w' ⟨rfl, rfl⟩) | (go_at_call 46; refine (zero_calls _ _).mono ?_; rintro e w' ⟨rfl, rfl⟩))
               go_ret
               exact ⟨rfl, Below.refl _ _⟩)
        · cases n7 : (b == x) <;> cases n4 : isInf b <;> cases n5 : isZ a <;> cases n6 : isZ b
          all_goals
            clear HS
            go_enter Try.func24, Try.ntmps24
            go_wp2_with (first | (go_at_call 44; refine (isNaN_calls _ _).mono ?_; rintro e w' ⟨rfl, rfl⟩) | (go_at_call 45; refine (isInf_calls _ _).mono ?_; rintro e w' ⟨rfl, rfl⟩) | (go_at_call 46; refine (zero_calls _ _).mono ?_; rintro e w' ⟨rfl, rfl⟩))
            go_ret
            exact ⟨rfl, Below.refl _ _⟩
      · clear HS
        go_enter Try.func24, Try.ntmps24
        go_wp2_with (first | (go_at_call 44; refine (isNaN_calls _ _).mono ?_; rintro e w' ⟨rfl, rfl⟩) | (go_at_call 45; refine (isInf_calls _ _).mono ?_; rintro e w' ⟨rfl, rfl⟩) | (go_at_call 46; refine (zero_calls _ _).mono ?_; rintro e w' ⟨rfl, rfl⟩))
        go_ret
        exact ⟨rfl, Below.refl _ _⟩
    · clear HS
      go_enter Try.func24, Try.ntmps24
      go_wp2_with (first | (go_at_call 44; refine (isNaN_calls _ _).mono ?_; rintro e w' ⟨rfl, rfl⟩) | (go_at_call 45; refine (isInf_calls _ _).mono ?_; rintro e w' ⟨rfl, rfl⟩) | (go_at_call 46; refine (zero_calls _ _).mono ?_; rintro e w' ⟨rfl, rfl⟩))
      go_ret
      exact ⟨rfl, Below.refl _ _⟩
end Go.Proofs.Ytkiakflmoplmeaa
