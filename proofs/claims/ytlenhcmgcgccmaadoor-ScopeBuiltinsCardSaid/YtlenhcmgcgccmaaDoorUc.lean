/- Scope: fail; find, of whatever name. -/
import Derived.Test.YtlenhcmgcgccmaaDoorSa
import Derived.Test.YtlenhcmgcgccmaaDoorUb
import Derived.WalkLawsBesides
namespace Go.Proofs.YtlenhcmgcgccmaaDoor
open Go.RowKit Go.Shelf Go
set_option linter.unusedVariables false
set_option linter.unusedSimpArgs false
/-- how a failing call ends. -/
def bad (c : Er) : Ending := .panicked [{ v := .iface 58 (.agg #[.int .i64 c.1, .int .i64 c.2]), recovered := false }]
theorem fail_calls (w : World) (a c : Int) : Calls Tryd.prog 39 #[.int .i64 a, .int .i64 c] w fun e w' => e = bad (a, c) ∧ w' = w := by
  unfold bad
  go_enter Tryd.func39, Tryd.ntmps39
  go_wp2
  exact ⟨rfl, rfl, rfl⟩
attribute [local go_sem] Oper.semAt_some
set_option maxRecDepth 100000 in
set_option maxHeartbeats 4000000 in
theorem find_all (w : World) (p : Nat) (ws vars us : Value) (fn : Value) (ls lp : Value) (b off len cap : Nat) (name : ByteArray) (at_ : Int) (vs : Nat → Value) (ent : Nat → Int × Bool) (hreach : len ≤ 140737488351232)
    (hw : Blk w p 64 #[ws, vars, us, .slice (some ⟨b, off, none⟩) len cap, fn, ls, lp]) (hb : b < w.heap.size) (hc : ∀ j, j < len → w.cell? ⟨b, off + j, none⟩ = some (vs j))
    (hlook : ∀ k W, Below w.heap.size w W → (Instr.lookup 78 (vs k) (.string name) true).run Tryd.prog W = .ok (.tuple #[.int .i64 (ent k).1, .bool (ent k).2]) W) :
    Calls Tryd.prog 71 #[.pointer (some ⟨p, 0, none⟩), .string name, .int .i64 at_] w fun e w' => Below w.heap.size w w' ∧
      ((∃ k, k < len ∧ (ent (len - 1 - k)).2 = true ∧ (∀ j, j < k → (ent (len - 1 - j)).2 = false) ∧ e = .returned (.int .i64 (ent (len - 1 - k)).1)) ∨ ((∀ j, j < len → (ent (len - 1 - j)).2 = false) ∧ (bi name).2 = true ∧ e = .returned (.int .i64 (-1))) ∨ ((∀ j, j < len → (ent (len - 1 - j)).2 = false) ∧ (bi name).2 = false ∧ e = bad (at_, 73))) := by
  refine (callsIn_wide (n := 6)).1 ?_
  refine callsIn_of_wp_marks Tryd.func71 rfl trivial ?_ rfl
  simp only [Tryd.ntmps71, List.size_toArray, List.length_cons, List.length_nil, Nat.reduceAdd, Nat.reduceSub, Array.replicate_succ, Array.replicate_zero, List.push_toArray, List.append_toArray, List.nil_append, List.cons_append]
  have hp := hw.lt
  have c3 := hw.cell 3
  simp only [List.getElem?_toArray, List.getElem?_cons_succ, List.getElem?_cons_zero] at c3
  have n1 : w.heap.size ≠ p := by omega
  have n2 : w.heap.size + 1 ≠ p := by omega
  gi_wp2_with (first | (refine ⟨trivial, ?_⟩; gi_at_call 75; refine (back_in Fence.wide _ trivial rfl _ _ _ _).mono ?_; rintro e w' ⟨rfl, rfl⟩) | (gi_at_call 75; refine (back_in Fence.wide _ trivial rfl _ _ _ _).mono ?_; rintro e w' ⟨rfl, rfl⟩))
  obtain ⟨W0, hW0⟩ : ∃ W0, ((w.alloc (.cells #[.string name] 9)).alloc (.cells #[.int .i64 0] 3)).alloc (.cells #[.slice (some ⟨b, off, none⟩) len cap] 61) = W0 := ⟨_, rfl⟩
  have hs0 : W0.heap.size = w.heap.size + 3 := by rw [← hW0]; simp
  have hB0 : Blk W0 w.heap.size 9 #[.string name] := by rw [← hW0]; exact ((Blk.new w 9 #[.string name]).alloc _).alloc _
  have hB1 : Blk W0 (w.heap.size + 1) 3 #[.int .i64 0] := by
    rw [← hW0]; have := (Blk.new (w.alloc (.cells #[.string name] 9)) 3 #[.int .i64 0]).alloc (.cells #[.slice (some ⟨b, off, none⟩) len cap] 61); rwa [World.size_alloc] at this
  have hB2 : Blk W0 (w.heap.size + 1 + 1) 61 #[.slice (some ⟨b, off, none⟩) len cap] := by
    rw [← hW0]; have := Blk.new ((w.alloc (.cells #[.string name] 9)).alloc (.cells #[.int .i64 0] 3)) 61 #[.slice (some ⟨b, off, none⟩) len cap]; rwa [World.size_alloc, World.size_alloc] at this
  have hbw : Below w.heap.size w W0 := by
    rw [← hW0]; exact (((Below.refl _ w).alloc (Nat.le_refl _) _).alloc (by simp) _).alloc (by simp; omega) _
  rw [hW0]
  refine wpIn_rangeFunc_ownF rfl (by omega) (gf := 77) (lb := #[.pointer (some ⟨w.heap.size + 1 + 1, 0, none⟩)]) rfl trivial (enters_of Tryd.func77 (by kernel_rfl) rfl)
    (back_stops Fence.wide _ trivial rfl (by omega) (w.heap.size + 1 + 1) W0.heap.size b off len cap vs hreach (by omega) (by omega) W0 (Nat.le_refl _) (hB2.cell 0) (fun j hj => (hbw.cell (p := ⟨b, off + j, none⟩) hb).trans (hc j hj))) belowK_t (belowK_b (Nat.le_refl _)) (Below.refl _ _) (fun _ => rfl)
    (fun pre W => ((∀ y ∈ pre, (ent y).2 = false) ∧ W.cell? ⟨w.heap.size, 0, none⟩ = some (.string name) ∧ W.cell? ⟨w.heap.size + 1, 0, none⟩ = some (.int .i64 0) ∧ W.frozen? ⟨w.heap.size + 1, 0, none⟩ = false) ∧ Below w.heap.size w W)
    (fun c pre W => (c = .ret ∧ (∃ init x, pre = init ++ [x] ∧ (∀ y ∈ init, (ent y).2 = false) ∧ (ent x).2 = true ∧ W.cell? ⟨w.heap.size + 1, 0, none⟩ = some (.int .i64 (ent x).1))) ∧ Below w.heap.size w W)
    (OwnFrom.and (Own.from (fun s A B row hs hg hr => ⟨hs.1, cell_kept hs.2.1 hg hr, cell_kept hs.2.2.1 hg hr, (frozen_kept hs.2.2.1 hg hr).trans hs.2.2.2⟩) _) (ownFrom_below (Nat.le_refl _) (by omega)))
    (fun c => OwnFrom.and (Own.from (fun s A B row hs hg hr => ⟨hs.1, by obtain ⟨init, x, h1, h2, h3, h4⟩ := hs.2; exact ⟨init, x, h1, h2, h3, cell_kept h4 hg hr⟩⟩) _) (ownFrom_below (Nat.le_refl _) (by omega)))
    ⟨⟨by simp, hB0.cell 0, hB1.cell 0, hB1.frozen 0⟩, hbw⟩
    (fun x => { tmps := #[.pointer (some ⟨p, 0, none⟩), .string name, .int .i64 at_, undef, .pointer (some ⟨w.heap.size, 0, none⟩), undef, .pointer (some ⟨w.heap.size + 1, 0, none⟩), undef, vs x, undef, undef, undef, undef, .pointer (some ⟨p, 0, none⟩), .pointer (some ⟨p, 0, none⟩), .pointer (some ⟨p, 3, none⟩), .slice (some ⟨b, off, none⟩) len cap, .func (.func 77) #[] #[.pointer (some ⟨w.heap.size + 1 + 1, 0, none⟩)], .int .i64 x, vs x, undef, undef, undef, undef, undef, undef, undef, undef, undef, undef, undef, undef, undef, undef, undef, undef, undef], defers := [] }) ?assign ?body ?done ?stop
  case assign =>
    intro l x W K hK
    gi_wp2
    exact hK
  case body =>
    rintro l pre x W ⟨⟨hp0, hcw, hcr, hfr⟩, hbl⟩ _
    have hl := hlook x W hbl
    have hle : w.heap.size ≤ W.heap.size := hbl.size
    generalize hex : ent x = ex at hl
    obtain ⟨v, ok⟩ := ex
    simp only at hl
    cases ok
    · gi_wp2
      exact ⟨KeepsOthers.refl _, Below.refl _ _, ⟨fun y hy => by
        rcases List.mem_append.1 hy with e | e
        · exact hp0 y e
        · simp at e; subst e; rw [hex], hcw, hcr, hfr⟩, hbl⟩
    · gi_wp2
      exact ⟨KeepsOthers.setCell _ _ _, ⟨rfl, pre, x, rfl, hp0, by rw [hex], by rw [hex]; exact World.cell?_setCell_same' _ _ _ (by rw [hcr]; rfl)⟩, hbl.setCell (p := ⟨w.heap.size + 1, 0, none⟩) (by simp) _⟩
  case done =>
    rintro D ys W hD rfl ⟨⟨hp0, hcw, hcr, hfr⟩, hbl⟩ hK
    have BC := builtin_calls W name
    cases hbi : (bi name).2
    · rw [hbi] at BC
      have BC := Lib.hid BC
      have KN := Lib.hid (fun (w1 : World) (hw1 : w1 = W.alloc (.cells namesV 9)) => show (w1.cell? ⟨w.heap.size + 1, 0, none⟩ = some (.int .i64 0) ∧ w1.frozen? ⟨w.heap.size + 1, 0, none⟩ = false) ∧ w1.heap[D]? = some (.deferred (some [])) ∧ Below w.heap.size w w1 from by
        subst hw1
        exact ⟨⟨cell_kept hcr (World.grownBy_alloc W _ none) (fun r e => by cases e), (frozen_kept hcr (World.grownBy_alloc W _ none) (fun r e => by cases e)).trans hfr⟩, (Below.heap_alloc W _ D (Array.getElem?_eq_some_iff.1 hK).1).trans hK, hbl.alloc hbl.size _⟩)
      gi_wp2_with (refine ⟨trivial, ?_⟩; gi_at_call 11; refine (callsIn_wide.2 BC.out).mono ?_; rintro e w1 ⟨rfl, hw1⟩; obtain ⟨⟨hcr1, hfr1⟩, hK1, hb1⟩ := KN.out w1 hw1; clear hw1)
      refine ⟨trivial, ?_⟩
      gi_at_call 39
      refine (callsIn_wide.2 (fail_calls w1 at_ 73)).mono ?_
      rintro e w2 ⟨rfl, rfl⟩
      unfold bad
      gi_wp2
      refine ⟨by simp, .inl ⟨_, _, rfl, run_takeDeferred hK1, ?_⟩⟩
      have hbf := hb1.trans (belowK_b (w := w) (Nat.le_refl _) _ D _ (.deferred none) (by omega) hK1 rfl rfl)
      exact ⟨hbf, .inr (.inr ⟨fun j hj => hp0 _ (List.mem_map.2 ⟨j, by simpa using hj, rfl⟩), hbi, rfl⟩)⟩
    · rw [hbi] at BC
      have BC := Lib.hid BC
      have KN := Lib.hid (fun (w1 : World) (hw1 : w1 = W.alloc (.cells namesV 9)) => show (w1.cell? ⟨w.heap.size + 1, 0, none⟩ = some (.int .i64 0) ∧ w1.frozen? ⟨w.heap.size + 1, 0, none⟩ = false) ∧ w1.heap[D]? = some (.deferred (some [])) ∧ Below w.heap.size w w1 from by
        subst hw1
        exact ⟨⟨cell_kept hcr (World.grownBy_alloc W _ none) (fun r e => by cases e), (frozen_kept hcr (World.grownBy_alloc W _ none) (fun r e => by cases e)).trans hfr⟩, (Below.heap_alloc W _ D (Array.getElem?_eq_some_iff.1 hK).1).trans hK, hbl.alloc hbl.size _⟩)
      gi_wp2_with (refine ⟨trivial, ?_⟩; gi_at_call 11; refine (callsIn_wide.2 BC.out).mono ?_; rintro e w1 ⟨rfl, hw1⟩; obtain ⟨⟨hcr1, hfr1⟩, hK1, hb1⟩ := KN.out w1 hw1; clear hw1)
      have hK' := (KeepsOthers.setCell w1 ⟨w.heap.size + 1, 0, none⟩ (.int .i64 (-1))).same D _ hK1 rfl
      refine ⟨by simp, .inl ⟨_, _, rfl, run_takeDeferred hK', ?_⟩⟩
      have hc5 := cell_kept (World.cell?_setCell_same' w1 ⟨w.heap.size + 1, 0, none⟩ (.int .i64 (-1)) (by rw [hcr1]; rfl)) (grownBy_putObj' _ D (.deferred none)) (fun r e => by cases e; exact ⟨_, hK', rfl⟩)
      have hbf := (hb1.setCell (p := ⟨w.heap.size + 1, 0, none⟩) (by simp) (.int .i64 (-1))).trans (belowK_b (w := w) (Nat.le_refl _) _ D _ (.deferred none) (by omega) hK' rfl rfl)
      refine ⟨.int .i64 (-1), ?_, hbf, (.inr (.inl ⟨fun j hj => hp0 _ (List.mem_map.2 ⟨j, by simpa using hj, rfl⟩), hbi, rfl⟩))⟩
      simp [results, Tryd.f71, go_sem, hc5]
  case stop =>
    rintro D c pre W hD ⟨k, hk, rfl⟩ ⟨⟨rfl, init, x, hpre, hin, hex, hcr⟩, hbl⟩ hK
    gi_wp2
    refine ⟨by simp, .inl ⟨_, _, rfl, run_takeDeferred hK, ?_⟩⟩
    have hc5 := cell_kept hcr (grownBy_putObj' _ D (.deferred none)) (fun r e => by cases e; exact ⟨_, hK, rfl⟩)
    have hbf := hbl.trans (belowK_b (w := w) (Nat.le_refl _) _ D _ (.deferred none) (by omega) hK rfl rfl)
    have hk0 : 0 < k := by
      rcases k with _ | k
      · simp [came] at hpre
      · omega
    obtain ⟨k, rfl⟩ : ∃ k', k = k' + 1 := ⟨k - 1, by omega⟩
    rw [came_succ] at hpre
    obtain ⟨e1, e2⟩ := List.append_inj' hpre rfl
    obtain rfl : len - 1 - k = x := by simpa using e2
    refine ⟨.int .i64 (ent (len - 1 - k)).1, ?_, hbf, .inl ⟨k, by omega, hex, fun j hj => hin _ (by rw [← e1]; exact List.mem_map.2 ⟨j, by simpa using hj, rfl⟩), rfl⟩⟩
    simp [results, Tryd.f71, go_sem, hc5]
end Go.Proofs.YtlenhcmgcgccmaaDoor
