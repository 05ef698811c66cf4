/- Caches: the arguments, opened. -/
import Derived.Test.YthkmmbalodedkaaCh
import Derived.Test.YthkmmbalodedkaaRows
import Derived.ProofKit
import Derived.OpenShut
import Derived.JoinedOf
import Derived.Carry
import Derived.SizedLaws
namespace Go.Proofs.Ythkmmbalodedkaa
open Go.ChangeShapes Go.WideShapes Go.ChangeAt Go.RowKit Go.Deep Go
set_option linter.unusedVariables false
set_option linter.unusedSimpArgs false
theorem bytes26 : Try.prog.bytesOf 26 = 32 := by kernel_rfl
theorem bytes3 : Try.prog.bytesOf 3 = 8 := by kernel_rfl
theorem cells26 : Try.prog.cellsOf 26 = 4 := by kernel_rfl
theorem open_entries {H : Type} {enc : TypeId × Value → H} {w : World} {spare : Nat → Bool} {held : Bool} {fuel : Nat} {v : Value} {x : DataW H × List MemPlace} (h : DataW.trod enc Try.prog w 0 spare held fuel 22 [v] = some x)
    (hz : ∀ n ∈ x.1.weights Try.prog 22, n ≤ reachBytes) : ∃ A n c L, v = .slice A n c ∧ Reads w w.heap.size 4 A n (ef L) ∧ n * 32 ≤ 140737488351232 := by
  have he : ∃ fs, Try.prog.underlying 26 = some (.struct fs) ∧ fs.size = 4 ∧ ∀ j, j < 4 → ∃ f, fs[j]? = some f ∧ f.type = 3 := by
    have hf : (match Try.prog.underlying 26 with | some (.struct fs) => fs.toList.map (fun f => f.type) | _ => []) = [3, 3, 3, 3] := by kernel_rfl
    split at hf
    · rename_i fs hfs
      have hl := congrArg List.length hf
      simp at hl
      refine ⟨fs, hfs, hl, fun j hj => ?_⟩
      have hj2 : j < fs.size := by omega
      refine ⟨fs[j], by simp [hj2], ?_⟩
      have := congrArg (fun l => l[j]?) hf
      simp only [List.getElem?_map, Array.getElem?_toList] at this
      rw [Array.getElem?_eq_getElem hj2] at this
      match j, hj with
      | 0, _ => simpa using this
      | 1, _ => simpa using this
      | 2, _ => simpa using this
      | 3, _ => simpa using this
    · simp at hf
  obtain ⟨fs, hfs, hsz, hty⟩ := he
  have hone : oneCellFields Try.prog fs = true := by
    have : (match Try.prog.underlying 26 with | some (.struct fs) => oneCellFields Try.prog fs | _ => false) = true := by kernel_rfl
    rw [hfs] at this; exact this
  rcases open_slice_fields Try.underlying22 hfs hone (by rw [cells26, hsz]) h with ⟨h1, h2⟩ | ⟨a, len, cap, m, D, Pl, hcs, hb, hlc, hcm, hm, hx, hi⟩
  · simp only [List.cons.injEq, and_true] at h1
    exact ⟨none, 0, 0, [], h1, Reads.none_, by omega⟩
  · simp only [List.cons.injEq, and_true] at hcs
    have hlm : len ≤ m := by rw [hm]; split <;> omega
    have hE : ∀ i, ∃ e : En, i < len → (∀ j u, (ef [e])[j]? = some u → w.cell? (a.add (i * 4 + j)) = some u) := by
      intro i
      by_cases hil : i < len
      · obtain ⟨ys, n, _, _, _, hf⟩ := hi i (by omega)
        have hget : ∀ j, j < 4 → ∃ z : Int, w.cell? (a.add (i * 4 + j)) = some (.int .i64 z) := by
          intro j hj
          obtain ⟨f, hfj, hft⟩ := hty j hj
          obtain ⟨v', y, hc, _, ht⟩ := hf j f hfj
          rw [hft] at ht
          obtain ⟨z, hz, _⟩ := DataW.trod_int Try.underlying3 ht
          simp only [List.cons.injEq, and_true] at hz
          rw [hsz, hz] at hc
          exact ⟨z, hc⟩
        obtain ⟨z0, g0⟩ := hget 0 (by omega)
        obtain ⟨z1, g1⟩ := hget 1 (by omega)
        obtain ⟨z2, g2⟩ := hget 2 (by omega)
        obtain ⟨z3, g3⟩ := hget 3 (by omega)
        refine ⟨⟨z0, z1, z2, z3⟩, fun _ j u hj => ?_⟩
        match j, hj with
        | 0, hj => simp [ef] at hj; subst hj; exact g0
        | 1, hj => simp [ef] at hj; subst hj; exact g1
        | 2, hj => simp [ef] at hj; subst hj; exact g2
        | 3, hj => simp [ef] at hj; subst hj; exact g3
        | j + 4, hj => simp [ef] at hj
      · exact ⟨⟨0, 0, 0, 0⟩, fun h => absurd h hil⟩
    obtain ⟨E, hE⟩ := Classical.axiomOfChoice hE
    have hflat : ∀ (len' : Nat) (j : Nat) (u : Value), len' ≤ len → (ef ((List.range len').map E))[j]? = some u → w.cell? (a.add j) = some u := by
      intro len'
      induction len' with
      | zero => intro j u _ hj; simp [ef] at hj
      | succ k ih =>
        intro j u hk hj
        rw [List.range_succ, List.map_append, ef_append, List.map_singleton] at hj
        by_cases hjk : j < k * 4
        · rw [List.getElem?_append_left (by rw [ef_length]; simp; omega)] at hj
          exact ih j u (by omega) hj
        · rw [List.getElem?_append_right (by rw [ef_length]; simp; omega), ef_length] at hj
          simp only [List.length_map, List.length_range] at hj
          have := hE k (by omega) _ _ hj
          rwa [show k * 4 + (j - k * 4) = j by omega] at this
    refine ⟨some a, len, cap, (List.range len).map E, hcs, ⟨by rw [ef_length]; simp, fun hn => ⟨a, rfl, ?_, fun j u hj => hflat len j u (Nat.le_refl _) hj⟩⟩, ?_⟩
    · have h0 := hE 0 hn 0 _ rfl
      have := World.block_lt_of_cell? w _ h0
      rwa [block_of_add] at this
    · rw [hx] at hz
      have := hz ((len + (m - len)) * 32) (by simp [DataW.weights, Try.underlying22, bytes26])
      unfold reachBytes at this
      omega
theorem open_intsR {H : Type} {enc : TypeId × Value → H} {w : World} {spare : Nat → Bool} {held : Bool} {fuel : Nat} {v : Value} {x : DataW H × List MemPlace} (h : DataW.trod enc Try.prog w 0 spare held fuel 27 [v] = some x)
    (hz : ∀ n ∈ x.1.weights Try.prog 27, n ≤ reachBytes) : ∃ A n c, ∃ l : List Int, v = .slice A n c ∧ Reads w w.heap.size 1 A n (l.map (Value.int .i64)) ∧ n * 8 ≤ 140737488351232 := by
  rcases open_slice1 Try.underlying27 (by kernel_rfl) h with ⟨h1, h2⟩ | ⟨a, len, cap, m, n, V, D, Pl, hcs, hb, hlc, hcm, hm, hx, hi⟩
  · simp only [List.cons.injEq, and_true] at h1
    exact ⟨none, 0, 0, [], h1, Reads.none_, by omega⟩
  · simp only [List.cons.injEq, and_true] at hcs
    have hlm : len ≤ m := by rw [hm]; split <;> omega
    have hE : ∀ i, ∃ e : Int, i < len → w.cell? (a.add i) = some (.int .i64 e) := by
      intro i
      by_cases hil : i < len
      · obtain ⟨hc, ht⟩ := hi i (by omega)
        obtain ⟨z, hz, _⟩ := DataW.trod_int Try.underlying3 ht
        simp only [List.cons.injEq, and_true] at hz
        rw [hz] at hc
        exact ⟨z, fun _ => hc⟩
      · exact ⟨0, fun h => absurd h hil⟩
    obtain ⟨E, hE⟩ := Classical.axiomOfChoice hE
    refine ⟨some a, len, cap, (List.range len).map E, hcs, ⟨by simp, fun hn => ⟨a, rfl, ?_, fun j u hj => ?_⟩⟩, ?_⟩
    · have h0 := hE 0 hn
      have := World.block_lt_of_cell? w _ h0
      rwa [block_of_add] at this
    · have hj' := List.getElem?_eq_some_iff.1 hj
      obtain ⟨h1, h2⟩ := hj'
      simp at h1 h2
      rw [← h2]
      exact hE j h1
    · rw [hx] at hz
      have := hz ((len + (m - len)) * 8) (by simp [DataW.weights, Try.underlying27, bytes3])
      unfold reachBytes at this
      omega
theorem open_site {H : Type} {enc : TypeId × Value → H} {w : World} {b0 : Nat} {spare : Nat → Bool} {held : Bool} {v : Value} {d : DataW H} {p : List MemPlace} (hv : Value.okWide Try.prog w .any b0 24 v) (h : DataW.Trod enc Try.prog w 0 spare held 24 v d p)
    (hz : ∀ n ∈ d.weights Try.prog 24, n ≤ reachBytes) : ∃ st A n c L, v = siteV st A n c ∧ Reads w w.heap.size 4 A n (ef L) ∧ n * 32 ≤ 140737488351232 := by
  obtain ⟨v0, v1, y0, y1, n, rfl, rfl, rfl, h0, h1⟩ := Joins.open_agg2 Try.underlying24 (by kernel_rfl) (by kernel_rfl) hv h
  obtain ⟨x, hx, _⟩ := DataW.trod_int Try.underlying3 h0
  simp only [List.cons.injEq, and_true] at hx
  subst hx
  obtain ⟨A, m, c, L, hv1, hr, hm⟩ := open_entries h1 (fun k hk => hz k (by simp only [DataW.weights, Try.underlying24]; simp only [List.map_cons, List.map_nil, DataW.weightsEach, List.append_nil, List.mem_append]; exact .inr hk))
  subst hv1
  exact ⟨x, A, m, c, L, rfl, hr, hm⟩
theorem open_entry {H : Type} {enc : TypeId × Value → H} {w : World} {b0 : Nat} {spare : Nat → Bool} {held : Bool} {v : Value} {d : DataW H} {p : List MemPlace} (hv : Value.okWide Try.prog w .any b0 26 v) (h : DataW.Trod enc Try.prog w 0 spare held 26 v d p) : ∃ e : En, v = e.v := by
  obtain ⟨v0, v1, v2, v3, y0, y1, y2, y3, n, rfl, rfl, rfl, h0, h1, h2, h3⟩ := Joins.open_agg4 Try.underlying26 (by kernel_rfl) (by kernel_rfl) hv h
  obtain ⟨x0, hx0, _⟩ := DataW.trod_int Try.underlying3 h0
  obtain ⟨x1, hx1, _⟩ := DataW.trod_int Try.underlying3 h1
  obtain ⟨x2, hx2, _⟩ := DataW.trod_int Try.underlying3 h2
  obtain ⟨x3, hx3, _⟩ := DataW.trod_int Try.underlying3 h3
  simp only [List.cons.injEq, and_true] at hx0 hx1 hx2 hx3
  subst hx0 hx1 hx2 hx3
  exact ⟨⟨x0, x1, x2, x3⟩, rfl⟩
end Go.Proofs.Ythkmmbalodedkaa
