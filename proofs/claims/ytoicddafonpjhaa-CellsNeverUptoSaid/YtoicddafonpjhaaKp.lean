/- The script, opened: as the form hands it over. -/
import Derived.Test.YtoicddafonpjhaaRows
import Derived.Test.YtoicddafonpjhaaKo
import Derived.ProofKit
import Derived.OpenShut
import Derived.JoinedCond
import Derived.Carry
import Derived.Deep.SlicePairs
namespace Go.Proofs.Ytoicddafonpjhaa
open Go.ChangeShapes Go.WideShapes Go.ChangeAt Go.RowKit Go.Deep Go
set_option linter.unusedVariables false
set_option linter.unusedSimpArgs false
theorem Try.laidOut : laidOutB Try.prog = true := by kernel_rfl
theorem one_le_bulk {H : Type} (d : DataW H) : 1 ≤ Rows.uptoBulk d := by
  cases d with
  | lit l => cases l <;> simp [Rows.uptoBulk]
  | nil => simp [Rows.uptoBulk]
  | ptr d => simp [Rows.uptoBulk]
  | slice elems spare => simp [Rows.uptoBulk]
  | agg parts => simp [Rows.uptoBulk]
  | iface t d => simp [Rows.uptoBulk]
  | map entries => simp [Rows.uptoBulk]
  | held h => simp [Rows.uptoBulk]
theorem pairs_bulk {H : Type} (D0 D1 : Nat → DataW H) (l : List Nat) : 3 * l.length ≤ Rows.uptoBulkAll (l.map fun i => .agg [D0 i, D1 i]) := by
  induction l with
  | nil => simp [Rows.uptoBulkAll]
  | cons x l ih =>
    have h0 := one_le_bulk (D0 x)
    have h1 := one_le_bulk (D1 x)
    simp only [List.map_cons, List.length_cons, Rows.uptoBulkAll, Rows.uptoBulk]
    omega
theorem open_script {H : Type} {enc : TypeId × Value → H} {W : World} {base : Nat} {v0 : Value} {d0 : DataW H} {p0 : List MemPlace} (hv : Value.okWide Try.prog W .any base 22 v0)
    (h0 : DataW.Trod enc Try.prog W 0 (fun _ => true) true 22 v0 d0 p0) (hb : Rows.uptoBulk d0 ≤ 1048576) :
    (∃ a cap, v0 = .slice a 0 cap) ∨ ∃ (b off n cap : Nat) (K N : Nat → Int), v0 = .slice (some ⟨b, off, none⟩) n cap ∧ n ≤ 349525 ∧ Script W b off n cap K N := by
  obtain ⟨a, len, cap, rfl⟩ := okWide_slice Try.underlying22 hv
  obtain ⟨fuel, h⟩ := h0
  rcases open_slice_pairs Try.underlying22 Try.underlying28 (by kernel_rfl) rfl rfl (by kernel_rfl) (by kernel_rfl) (cs := [.slice a len cap]) h with ⟨hc, hx⟩ | ⟨a', len', cap', m, k, V0, V1, D0, D1, P0, P1, hc, _, hl, hm, hmm, hx, hall⟩
  · simp only [List.cons.injEq, and_true] at hc
    exact .inl ⟨none, 0, hc⟩
  · simp only [List.cons.injEq, and_true] at hc
    injection hc with e1 e2 e3
    subst e1 e2 e3
    simp only [if_true] at hmm
    subst hmm
    simp only [Prod.mk.injEq] at hx
    obtain ⟨rfl, rfl⟩ := hx
    have hint : ∀ i, ∃ q : Int × Int, i < m → V0 i = .int .i64 q.1 ∧ V1 i = .int .i64 q.2 := fun i => by
      by_cases hi : i < m
      · obtain ⟨x, hx, _⟩ := DataW.trod_int Try.underlying3 (hall i hi).2.2.1
        obtain ⟨y, hy, _⟩ := DataW.trod_int Try.underlying3 (hall i hi).2.2.2
        exact ⟨(x, y), fun _ => ⟨by simpa using hx, by simpa using hy⟩⟩
      · exact ⟨(0, 0), fun h => absurd h hi⟩
    have hK := Classical.axiomOfChoice hint
    obtain ⟨q, hq⟩ := hK
    have hbk : 3 * len ≤ 1048576 := by
      have := pairs_bulk D0 D1 (List.range len)
      simp only [Rows.uptoBulk, List.length_range] at hb this
      omega
    by_cases hz : len = 0
    · subst hz
      exact .inl ⟨_, _, rfl⟩
    · right
      obtain ⟨b, off, sp⟩ := a'
      have hsp : sp = none := by simpa [Addr.add] using World.cell?_spot (hall 0 (by omega)).1
      subst hsp
      have sp : ∀ j, (⟨b, off, none⟩ : Addr).add j = ⟨b, off + j, none⟩ := fun j => by
        simp only [Addr.add]; split <;> simp_all
      refine ⟨b, off, len, m, fun i => (q i).1, fun i => (q i).2, rfl, by omega, hl, ?_, ?_, ?_⟩
      · intro _
        have := World.block_lt_of_cell? W _ (hall 0 (by omega)).1
        rw [sp] at this
        exact this
      · intro i hi
        rw [← sp, (hall i (by omega)).1, (hq i (by omega)).1]
      · intro i hi
        rw [Nat.add_assoc, ← sp, (hall i (by omega)).2.1, (hq i (by omega)).2]
end Go.Proofs.Ytoicddafonpjhaa
