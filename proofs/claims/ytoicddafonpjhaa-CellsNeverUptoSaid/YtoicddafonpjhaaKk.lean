/- Package cells: Break where there are none. -/
import Derived.Test.YtoicddafonpjhaaKh
namespace Go.Proofs.Ytoicddafonpjhaa
open Go.RowKit Go
set_option linter.unusedVariables false
set_option linter.unusedSimpArgs false
variable {S : Nat → Prop}
set_option maxRecDepth 100000 in
set_option maxHeartbeats 4000000 in
theorem Break_nil (w : World) (base b : Nat) (n : Int) (r : Rep S w base b (.slice none 0 0) [] []) :
    Calls Try.prog 12 #[.pointer (some ⟨b, 0, none⟩), .int .i64 n] w fun e w' => e = .returned (.int .i64 0) ∧ Below w.heap.size w w' := by
  have VL := fun w1 (r1 : Rep S w1 base b (.slice none 0 0) [] []) => Valid_calls w1 base b _ [] [] n r1
  have hv : vld [] n = false := by unfold vld; simp
  rw [hv] at VL
  clear hv
  have RA := rep_alloc r (.cells #[.int .i64 n] 3)
  have hbel : Below w.heap.size w (w.alloc (.cells #[.int .i64 n] 3)) := (Below.refl _ w).alloc (Nat.le_refl _) _
  have hcell : (w.alloc (.cells #[.int .i64 n] 3)).cell? ⟨w.heap.size, 0, none⟩ = some (.int .i64 n) := cell_of_row _ _ _ _ _ _ (heap_alloc_new w _)
  obtain ⟨wa, hwa⟩ : ∃ wa, w.alloc (.cells #[.int .i64 n] 3) = wa := ⟨_, rfl⟩
  have K := Lib.hid (show (Rep S wa base b (.slice none 0 0) [] [] ∧ Below w.heap.size w wa) ∧ wa.cell? ⟨w.heap.size, 0, none⟩ = some (.int .i64 n) by rw [← hwa]; exact ⟨⟨RA, hbel⟩, hcell⟩)
  have WA := Lib.hid hwa
  replace VL := Lib.hid VL
  clear RA hbel hcell r hwa
  go_enter Try.func12, Try.ntmps12
  go_wp2
  go_step3
  go_wp2
  go_step3
  go_wp2
  go_loopg [5, 6] 1 (fun f c tv wr => c = .int .i64 0 ∧ tv = .slice (some ⟨w.heap.size, 0, none⟩) f 1 ∧ (f = 0 ∨ f = 1) ∧ (Rep S wr base b (.slice none 0 0) [] [] ∧ Below w.heap.size w wr) ∧ wr.cell? ⟨w.heap.size, 0, none⟩ = some (.int .i64 n))
  case atStart => rw [WA.out]; exact ⟨rfl, rfl, .inr rfl, K.out⟩
  case round =>
    obtain ⟨rfl, rfl, hf, KR, hc⟩ := hrel
    have KRh := Lib.hid KR
    clear KR
    rcases hf with rfl | rfl
    · go_wp2
      rw [Exit.noGoto_ret]
      go_ret
      exact ⟨rfl, KRh.out.2⟩
    · have KD := Lib.hid (rep_drew KRh.out.1)
      go_wp2
      go_region
      have V := Lib.hid (VL.out _ KD.out)
      go_wp2_with (first | (go_at_call 13; refine V.out.mono ?_; rintro e w' ⟨rfl, rfl⟩))
      go_roundg 0
      case measure => omega
      case rel => exact ⟨rfl, rfl, .inl rfl, ⟨KD.out, KRh.out.2.drew⟩, hc⟩
theorem HBreakA (w : World) (base : Nat) (c : Value) (l : List Cl) (n : Int) (r : HasS S w base c l) (hl : 1 + load l ≤ 1000000) (hm : l.length < 1000000) :
    Calls Try.prog 12 #[c, .int .i64 n] w fun e w' => e = .returned (.int .i64 (brk (1 + load l) l [n] 0).2) ∧ HasS S w' base c (brk (1 + load l) l [n] 0).1 ∧ BelowS S base w w' := by
  by_cases h0 : l = []
  · subst h0
    have e : brk (1 + load []) [] [n] 0 = ([], 0) := by
      have := brk_out (f := 0) (l := []) (t := []) (x := n) (k := 0) (by unfold vld; simp)
      rw [List.nil_append] at this
      show brk (0 + 1) [] [n] 0 = _
      rw [this, brk_nil]
    rw [e]
    obtain ⟨b, v, A, rfl, r⟩ := r
    have hA : A = [] := List.eq_nil_of_length_eq_zero r.len
    subst hA
    rcases rep_slice r with ⟨rfl, _⟩ | ⟨g, cap, rfl, _⟩
    · have hb : base ≤ w.heap.size := by obtain ⟨cur, hblk⟩ := r.blk; have := heap_lt hblk; have := r.bb; omega
      refine (Break_nil w base b n r).mono ?_
      rintro e w' ⟨rfl, h⟩
      exact ⟨rfl, has_keep ⟨b, _, [], rfl, r⟩ h, h.mono hb, r.qs, fun k hk => h.block k (r.qs k hk)⟩
    · refine (Break_calls w base b g cap [] [] n r hl hm).mono ?_
      rintro e' w' ⟨h1, h2, h3⟩
      rw [e] at h1 h2
      exact ⟨h1, ⟨b, _, [], rfl, h2⟩, h3⟩
  · exact HBreakS w base c l n r hl hm h0
end Go.Proofs.Ytoicddafonpjhaa
