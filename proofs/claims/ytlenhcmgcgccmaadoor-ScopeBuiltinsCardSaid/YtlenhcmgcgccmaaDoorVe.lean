/- Scope: alive. -/
import Derived.Test.YtlenhcmgcgccmaaDoorVd
namespace Go.Proofs.YtlenhcmgcgccmaaDoor
open Go.RowKit Go
set_option linter.unusedVariables false
set_option linter.unusedSimpArgs false
def aliveN : Tr := .node 3 3 ⟨#[112, 114, 105, 110, 116]⟩ 0 ⟨#[]⟩ []
def aliveX : Tr := .node 46 0 ⟨#[]⟩ 0 ⟨#[]⟩ [aliveN]
def aliveT : Tr := .node 47 0 ⟨#[]⟩ 0 ⟨#[]⟩ [aliveX]
theorem alive_right : rightP aliveT = true := by kernel_rfl
theorem alive_res : resP aliveT = .ok ⟨[⟨0, -1, 0, 0⟩], [], [⟨3, -1⟩]⟩ := by kernel_rfl
theorem alive_kids (w : World) (U : World) (hU : (((w.alloc (.cells #[.int .i64 3, .int .i64 3, .string ⟨#[112, 114, 105, 110, 116]⟩, .int .u64 0, .string ⟨#[]⟩, .slice none 0 0] 31)).alloc (.cells #[.int .i64 46, .int .i64 0, .string ⟨#[]⟩, .int .u64 0, .string ⟨#[]⟩, .slice (some ⟨w.heap.size, 0, none⟩) 1 1] 31)).alloc (.cells #[.int .i64 47, .int .i64 0, .string ⟨#[]⟩, .int .u64 0, .string ⟨#[]⟩, .slice (some ⟨w.heap.size + 1, 0, none⟩) 1 1] 31)) = U) : KidsAt U (w.heap.size + 1 + 1 + 1) (.slice (some ⟨w.heap.size + 1, 0, none⟩) 1 1) aliveT.kids := by
  have b0 : Blk U w.heap.size 31 #[.int .i64 3, .int .i64 3, .string ⟨#[112, 114, 105, 110, 116]⟩, .int .u64 0, .string ⟨#[]⟩, .slice none 0 0] := by rw [← hU]; exact ((Blk.new _ _ _).alloc _).alloc _
  have b1 : Blk U (w.heap.size + 1) 31 #[.int .i64 46, .int .i64 0, .string ⟨#[]⟩, .int .u64 0, .string ⟨#[]⟩, .slice (some ⟨w.heap.size, 0, none⟩) 1 1] := by rw [← hU]; have h1 := Blk.new (w.alloc (.cells #[.int .i64 3, .int .i64 3, .string ⟨#[112, 114, 105, 110, 116]⟩, .int .u64 0, .string ⟨#[]⟩, .slice none 0 0] 31)) 31 #[.int .i64 46, .int .i64 0, .string ⟨#[]⟩, .int .u64 0, .string ⟨#[]⟩, .slice (some ⟨w.heap.size, 0, none⟩) 1 1]; rw [size_alloc] at h1; exact h1.alloc _
  have one : ∀ {q : Nat} {t : Tr} {kv : Value}, Blk U q 31 (t.cells kv) → q < w.heap.size + 1 + 1 + 1 → t.wf1 → KidsAt U (w.heap.size + 1 + 1 + 1) kv t.kids → KidsAt U (w.heap.size + 1 + 1 + 1) (.slice (some ⟨q, 0, none⟩) 1 1) [t] := fun {q t kv} hb hq hw hk =>
    .some_ q 0 1 [t] (fun _ => kv) hq (Nat.le_refl _) (by unfold maxLen; omega) (by simp) (fun i x hi => by
      rcases i with _ | i
      · simp at hi; subst hi; intro j u hj; show U.cell? ⟨q, 0 + 0 * 6 + j, none⟩ = some u; rw [show 0 + 0 * 6 + j = j by omega]; exact (hb.cell j).trans hj
      · simp at hi) (fun i x hi => by
      rcases i with _ | i
      · simp at hi; subst hi; exact hw
      · simp at hi) (fun i x hi => by
      rcases i with _ | i
      · simp at hi; subst hi; exact hk
      · simp at hi)
  have h0 : KidsAt U (w.heap.size + 1 + 1 + 1) (.slice (some ⟨w.heap.size, 0, none⟩) 1 1) [aliveN] := one (t := aliveN) (kv := .slice none 0 0) b0 (by omega) ⟨by kernel_rfl, by show 5 ≤ maxLen; unfold maxLen; omega⟩ (.nil none 0 (by unfold maxLen; omega))
  exact one (t := aliveX) b1 (by omega) ⟨by kernel_rfl, Nat.zero_le _⟩ h0
set_option maxRecDepth 100000 in
set_option maxHeartbeats 8000000 in
theorem alive_calls (w : World) (htab : Lib.TabIs Tryd.prog w "strings.asciiSpace" .u8 Lib.asciiSpaceTab) :
    Calls Tryd.prog 10 #[] w fun e w' => e = .returned (.bool true) ∧ Below w.heap.size w w' := by
  obtain ⟨U, hU⟩ : ∃ U, (((w.alloc (.cells #[.int .i64 3, .int .i64 3, .string ⟨#[112, 114, 105, 110, 116]⟩, .int .u64 0, .string ⟨#[]⟩, .slice none 0 0] 31)).alloc (.cells #[.int .i64 46, .int .i64 0, .string ⟨#[]⟩, .int .u64 0, .string ⟨#[]⟩, .slice (some ⟨w.heap.size, 0, none⟩) 1 1] 31)).alloc (.cells #[.int .i64 47, .int .i64 0, .string ⟨#[]⟩, .int .u64 0, .string ⟨#[]⟩, .slice (some ⟨w.heap.size + 1, 0, none⟩) 1 1] 31)) = U := ⟨_, rfl⟩
  have W1 : Below w.heap.size w U := by rw [← hU]; exact below_alloc (below_alloc (below_alloc (Below.refl _ _)))
  have hsz : U.heap.size = w.heap.size + 1 + 1 + 1 := by rw [← hU]; simp only [size_alloc]
  have hkU := alive_kids w U hU
  have b2 : Blk U (w.heap.size + 1 + 1) 31 #[.int .i64 47, .int .i64 0, .string ⟨#[]⟩, .int .u64 0, .string ⟨#[]⟩, .slice (some ⟨w.heap.size + 1, 0, none⟩) 1 1] := by rw [← hU]; have h1 := Blk.new ((w.alloc (.cells #[.int .i64 3, .int .i64 3, .string ⟨#[112, 114, 105, 110, 116]⟩, .int .u64 0, .string ⟨#[]⟩, .slice none 0 0] 31)).alloc (.cells #[.int .i64 46, .int .i64 0, .string ⟨#[]⟩, .int .u64 0, .string ⟨#[]⟩, .slice (some ⟨w.heap.size, 0, none⟩) 1 1] 31)) 31 #[.int .i64 47, .int .i64 0, .string ⟨#[]⟩, .int .u64 0, .string ⟨#[]⟩, .slice (some ⟨w.heap.size + 1, 0, none⟩) 1 1]; simp only [size_alloc] at h1; exact h1
  have ht := (tabl_of htab).on W1
  have RS := Lib.hid (show Calls Tryd.prog 13 #[.agg #[.int .i64 47, .int .i64 0, .string ⟨#[]⟩, .int .u64 0, .string ⟨#[]⟩, .slice (some ⟨w.heap.size + 1, 0, none⟩) 1 1]] U fun e w' => ∃ A1 x1 A2 x2 g x3, e = .returned (.tuple #[.agg #[.slice A1 1 x1, .slice A2 0 x2, .slice (some ⟨g, 0, none⟩) 1 x3], .int .i64 0, .int .i64 0]) ∧ Below U.heap.size U w' ∧ g < w'.heap.size ∧ w'.cell? ⟨g, 1, none⟩ = some (.int .i64 (-1)) ∧ 1 ≤ x3 from (show Calls Tryd.prog 13 #[.agg #[.int .i64 47, .int .i64 0, .string ⟨#[]⟩, .int .u64 0, .string ⟨#[]⟩, .slice (some ⟨w.heap.size + 1, 0, none⟩) 1 1]] U (ResR U aliveT) from resolve_calls U (w.heap.size + 1 + 1 + 1) aliveT (.slice (some ⟨w.heap.size + 1, 0, none⟩) 1 1) ht.here (by omega) hkU).mono fun e w' hh => by
    obtain ⟨h1, h2, _⟩ := hh
    obtain ⟨sv, vv, uv, rfl, r1, r2, r3⟩ := h2 _ alive_res
    obtain ⟨A1, x1, rfl⟩ := own_is_slice r1
    obtain ⟨A2, x2, rfl⟩ := own_is_slice r2
    obtain ⟨g, x3, rfl, _, hg, hx, _⟩ := own_some r3 (show 0 < 1 by omega)
    exact ⟨A1, x1, A2, x2, g, x3, rfl, h1, hg, (own_cell r3 (k := 1) (u := .int .i64 (-1)) rfl).1, hx⟩)
  have RC := Lib.hid (fun v (b : Below U.heap.size U v) => show Calls Tryd.prog 19 #[.agg #[.int .i64 47, .int .i64 0, .string ⟨#[]⟩, .int .u64 0, .string ⟨#[]⟩, .slice (some ⟨w.heap.size + 1, 0, none⟩) 1 1]] v (fun e w' => e = .returned (.bool (rightP aliveT)) ∧ Below v.heap.size v w') from right_calls v (w.heap.size + 1 + 1 + 1) aliveT (.slice (some ⟨w.heap.size + 1, 0, none⟩) 1 1) (ht.on (b.mono W1.size)).here (by have := b.size; omega) (hkU.under (b.mono (by omega))))
  have KX := Lib.hid (fun v (b : Below U.heap.size U v) => show Blk v (w.heap.size + 1 + 1) 31 #[.int .i64 47, .int .i64 0, .string ⟨#[]⟩, .int .u64 0, .string ⟨#[]⟩, .slice (some ⟨w.heap.size + 1, 0, none⟩) 1 1] from b2.below b b2.lt)
  have HW1 := Lib.hid W1
  have BC := Lib.hid builtins_calls
  rw [alive_right] at RC
  clear W1 hkU b2 ht htab hsz
  subst hU
  go_enter Tryd.func10, Tryd.ntmps10
  go_wp2_with (first | (go_at_call 13; (with_reducible refine RS.out.mono ?_); rintro e v1 ⟨A1, x1, A2, x2, g, x3, rfl, g1, g2, g3, g4⟩; have k2 := KX.out _ g1; have a0 := k2.cell 0; have a1 := k2.cell 1; have a2 := k2.cell 2; have a3 := k2.cell 3; have a4 := k2.cell 4; have a5 := k2.cell 5; simp only [List.getElem?_toArray, List.getElem?_cons_succ, List.getElem?_cons_zero] at a0 a1 a2 a3 a4 a5; have l2 := k2.lt; have m2 : v1.heap.size ≠ w.heap.size + 1 + 1 := (by omega); have m3 : v1.heap.size ≠ g := (by omega); have g4' : (1 : Int) ≤ (x3 : Int) := (by omega); have G1 := Lib.hid g1; have RC1 := Lib.hid (RC.out (v1.alloc (.cells #[.slice A1 1 x1, .slice A2 0 x2, .slice (some ⟨g, 0, none⟩) 1 x3] 36)) (g1.alloc g1.size _)); have BN := Lib.hid (Blk.new v1 36 #[.slice A1 1 x1, .slice A2 0 x2, .slice (some ⟨g, 0, none⟩) 1 x3]); have C3 := Lib.hid (show (v1.alloc (.cells #[.slice A1 1 x1, .slice A2 0 x2, .slice (some ⟨g, 0, none⟩) 1 x3] 36)).cell? ⟨g, 1, none⟩ = some (.int .i64 (-1)) from ((Below.refl v1.heap.size v1).alloc (Nat.le_refl _) _ |>.cell (p := ⟨g, 1, none⟩) g2).trans g3); have LG := Lib.hid g2; clear g1 k2) | (go_at_call 19; (with_reducible refine RC1.out.mono ?_); rintro e v2 ⟨rfl, b2⟩; have bn := BN.out.below b2 BN.out.lt; have z0 := bn.cell 0; have z1 := bn.cell 1; have z2 := bn.cell 2; have z3 := (b2.cell (p := ⟨g, 1, none⟩) (by have := LG.out; rw [size_alloc]; show g < v1.heap.size + 1; omega)).trans C3.out; simp only [List.getElem?_toArray, List.getElem?_cons_succ, List.getElem?_cons_zero] at z0 z1 z2; have B2 := Lib.hid b2; clear b2 bn) | (go_at_call 8; (with_reducible refine (BC.out _).mono ?_); rintro e v3 ⟨rfl, rfl⟩))
  go_ret
  have h1 : Below w.heap.size w (v1.alloc (.cells #[.slice A1 1 x1, .slice A2 0 x2, .slice (some ⟨g, 0, none⟩) 1 x3] 36)) := below_alloc (HW1.out.trans (G1.out.mono HW1.out.size))
  exact ⟨rfl, below_alloc (h1.trans (B2.out.mono h1.size))⟩
end Go.Proofs.YtlenhcmgcgccmaaDoor
