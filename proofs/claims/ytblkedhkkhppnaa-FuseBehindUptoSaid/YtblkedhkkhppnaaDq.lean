/- Fuse: the arguments, opened by their bulk. -/
import Derived.Test.YtblkedhkkhppnaaDp
namespace Go.Proofs.Ytblkedhkkhppnaa
open Go.ChangeShapes Go.WideShapes Go.ChangeAt Go.RowKit Go.Deep Go.Joins Go
set_option linter.unusedVariables false
set_option linter.unusedSimpArgs false
theorem bulk_pos {H : Type} (d : DataW H) : 1 ≤ Rows.uptoBulk d := by
  cases d with
  | lit l => cases l <;> simp [Rows.uptoBulk]
  | _ => simp [Rows.uptoBulk]
theorem bulk_all {H : Type} (l : List (DataW H)) : l.length ≤ Rows.uptoBulkAll l := by
  induction l with
  | nil => simp [Rows.uptoBulkAll]
  | cons a l ih => have := bulk_pos a; simp only [Rows.uptoBulkAll, List.length_cons]; omega
theorem bulk_slice {H : Type} (n : Nat) (l m : List (DataW H)) (h : l.length = n) : n ≤ Rows.uptoBulk (.slice l m) := by
  have := bulk_all l
  simp only [Rows.uptoBulk]; omega
theorem open_code0 {H : Type} {enc : TypeId × Value → H} {w : World} {spare : Nat → Bool} {held : Bool} {fuel : Nat} {v : Value} {x : DataW H × List MemPlace} (h : DataW.trod enc Try.prog w 0 spare held fuel 22 [v] = some x) : ∃ A n c L, v = .slice A n c ∧ Reads w w.heap.size 4 A n (ef L) ∧ n ≤ Rows.uptoBulk x.1 ∧ n ≤ c ∧ c ≤ 9223372036854775807 := by
  have he : ∃ fs, Try.prog.underlying 38 = some (.struct fs) ∧ fs.size = 4 ∧ ∀ j, j < 4 → ∃ f, fs[j]? = some f ∧ f.type = 3 := by
    have hf : (match Try.prog.underlying 38 with | some (.struct fs) => fs.toList.map (fun f => f.type) | _ => []) = [3, 3, 3, 3] := by kernel_rfl
    split at hf
    · rename_i fs hfs
      have hl := congrArg List.length hf
      simp at hl
      refine ⟨fs, hfs, hl, fun j hj => ?_⟩
      have hj2 : j < fs.size := by omega
      refine ⟨fs[j], by simp [hj2], ?_⟩
      have := congrArg (fun l => l[j]?) hf
      simp only [List.getElem?_map, Array.getElem?_toList] at this
      rw [Array.getElem?_eq_getElem hj2] at this
      match j, hj with
      | 0, _ => simpa using this
      | 1, _ => simpa using this
      | 2, _ => simpa using this
      | 3, _ => simpa using this
    · simp at hf
  obtain ⟨fs, hfs, hsz, hty⟩ := he
  have hone : oneCellFields Try.prog fs = true := by
    have : (match Try.prog.underlying 38 with | some (.struct fs) => oneCellFields Try.prog fs | _ => false) = true := by kernel_rfl
    rw [hfs] at this; exact this
  rcases open_slice_fields Try.underlying22 hfs hone (by rw [cells38, hsz]) h with ⟨h1, h2⟩ | ⟨a, len, cap, m, D, Pl, hcs, hb, hlc, hcm, hm, hx, hi⟩
  · simp only [List.cons.injEq, and_true] at h1
    exact ⟨none, 0, 0, [], h1, Reads.none_, Nat.zero_le _, by omega, by omega⟩
  · simp only [List.cons.injEq, and_true] at hcs
    have hlm : len ≤ m := by rw [hm]; split <;> omega
    have hE : ∀ i, ∃ e : En, i < len → (∀ j u, (ef [e])[j]? = some u → w.cell? (a.add (i * 4 + j)) = some u) := by
      intro i
      by_cases hil : i < len
      · obtain ⟨ys, n, _, _, _, hf⟩ := hi i (by omega)
        have hget : ∀ j, j < 4 → ∃ z : Int, w.cell? (a.add (i * 4 + j)) = some (.int .i64 z) := by
          intro j hj
          obtain ⟨f, hfj, hft⟩ := hty j hj
          obtain ⟨v', y, hc, _, ht⟩ := hf j f hfj
          rw [hft] at ht
          obtain ⟨z, hz, _⟩ := DataW.trod_int Try.underlying3 ht
          simp only [List.cons.injEq, and_true] at hz
          rw [hsz, hz] at hc
          exact ⟨z, hc⟩
        obtain ⟨z0, g0⟩ := hget 0 (by omega)
        obtain ⟨z1, g1⟩ := hget 1 (by omega)
        obtain ⟨z2, g2⟩ := hget 2 (by omega)
        obtain ⟨z3, g3⟩ := hget 3 (by omega)
        refine ⟨⟨z0, z1, z2, z3⟩, fun _ j u hj => ?_⟩
        match j, hj with
        | 0, hj => simp [ef] at hj; subst hj; exact g0
        | 1, hj => simp [ef] at hj; subst hj; exact g1
        | 2, hj => simp [ef] at hj; subst hj; exact g2
        | 3, hj => simp [ef] at hj; subst hj; exact g3
        | j + 4, hj => simp [ef] at hj
      · exact ⟨⟨0, 0, 0, 0⟩, fun h => absurd h hil⟩
    obtain ⟨E, hE⟩ := Classical.axiomOfChoice hE
    have hflat : ∀ (len' : Nat) (j : Nat) (u : Value), len' ≤ len → (ef ((List.range len').map E))[j]? = some u → w.cell? (a.add j) = some u := by
      intro len'
      induction len' with
      | zero => intro j u _ hj; simp [ef] at hj
      | succ k ih =>
        intro j u hk hj
        rw [List.range_succ, List.map_append, ef_append, List.map_singleton] at hj
        by_cases hjk : j < k * 4
        · rw [List.getElem?_append_left (by rw [ef_length]; simp; omega)] at hj
          exact ih j u (by omega) hj
        · rw [List.getElem?_append_right (by rw [ef_length]; simp; omega), ef_length] at hj
          simp only [List.length_map, List.length_range] at hj
          have := hE k (by omega) _ _ hj
          rwa [show k * 4 + (j - k * 4) = j by omega] at this
    refine ⟨some a, len, cap, (List.range len).map E, hcs, ⟨by rw [ef_length]; simp, fun hn => ⟨a, rfl, ?_, fun j u hj => hflat len j u (Nat.le_refl _) hj⟩⟩, ?_, hlc, by unfold maxLen at hcm; omega⟩
    · have h0 := hE 0 hn 0 _ rfl
      have := World.block_lt_of_cell? w _ h0
      rwa [block_of_add] at this
    · rw [hx]; exact bulk_slice _ _ _ (by simp)
theorem open_hand0 {H : Type} {enc : TypeId × Value → H} {w : World} {spare : Nat → Bool} {held : Bool} {fuel : Nat} {v : Value} {x : DataW H × List MemPlace} (h : DataW.trod enc Try.prog w 0 spare held fuel 25 [v] = some x) : ∃ A n c L, v = .slice A n c ∧ Reads w w.heap.size 3 A n (tf L) ∧ n ≤ Rows.uptoBulk x.1 ∧ n ≤ c ∧ c ≤ 9223372036854775807 := by
  have he : ∃ fs, Try.prog.underlying 50 = some (.struct fs) ∧ fs.size = 3 ∧ ∀ j, j < 3 → ∃ f, fs[j]? = some f ∧ f.type = 3 := by
    have hf : (match Try.prog.underlying 50 with | some (.struct fs) => fs.toList.map (fun f => f.type) | _ => []) = [3, 3, 3] := by kernel_rfl
    split at hf
    · rename_i fs hfs
      have hl := congrArg List.length hf
      simp at hl
      refine ⟨fs, hfs, hl, fun j hj => ?_⟩
      have hj2 : j < fs.size := by omega
      refine ⟨fs[j], by simp [hj2], ?_⟩
      have := congrArg (fun l => l[j]?) hf
      simp only [List.getElem?_map, Array.getElem?_toList] at this
      rw [Array.getElem?_eq_getElem hj2] at this
      match j, hj with
      | 0, _ => simpa using this
      | 1, _ => simpa using this
      | 2, _ => simpa using this
    · simp at hf
  obtain ⟨fs, hfs, hsz, hty⟩ := he
  have hone : oneCellFields Try.prog fs = true := by
    have : (match Try.prog.underlying 50 with | some (.struct fs) => oneCellFields Try.prog fs | _ => false) = true := by kernel_rfl
    rw [hfs] at this; exact this
  rcases open_slice_fields Try.underlying25 hfs hone (by rw [cells50, hsz]) h with ⟨h1, h2⟩ | ⟨a, len, cap, m, D, Pl, hcs, hb, hlc, hcm, hm, hx, hi⟩
  · simp only [List.cons.injEq, and_true] at h1
    exact ⟨none, 0, 0, [], h1, Reads.none_, Nat.zero_le _, by omega, by omega⟩
  · simp only [List.cons.injEq, and_true] at hcs
    have hlm : len ≤ m := by rw [hm]; split <;> omega
    have hE : ∀ i, ∃ e : Tr, i < len → (∀ j u, (tf [e])[j]? = some u → w.cell? (a.add (i * 3 + j)) = some u) := by
      intro i
      by_cases hil : i < len
      · obtain ⟨ys, n, _, _, _, hf⟩ := hi i (by omega)
        have hget : ∀ j, j < 3 → ∃ z : Int, w.cell? (a.add (i * 3 + j)) = some (.int .i64 z) := by
          intro j hj
          obtain ⟨f, hfj, hft⟩ := hty j hj
          obtain ⟨v', y, hc, _, ht⟩ := hf j f hfj
          rw [hft] at ht
          obtain ⟨z, hz, _⟩ := DataW.trod_int Try.underlying3 ht
          simp only [List.cons.injEq, and_true] at hz
          rw [hsz, hz] at hc
          exact ⟨z, hc⟩
        obtain ⟨z0, g0⟩ := hget 0 (by omega)
        obtain ⟨z1, g1⟩ := hget 1 (by omega)
        obtain ⟨z2, g2⟩ := hget 2 (by omega)
        refine ⟨⟨z0, z1, z2⟩, fun _ j u hj => ?_⟩
        match j, hj with
        | 0, hj => simp [tf] at hj; subst hj; exact g0
        | 1, hj => simp [tf] at hj; subst hj; exact g1
        | 2, hj => simp [tf] at hj; subst hj; exact g2
        | j + 3, hj => simp [tf] at hj
      · exact ⟨⟨0, 0, 0⟩, fun h => absurd h hil⟩
    obtain ⟨E, hE⟩ := Classical.axiomOfChoice hE
    have hflat : ∀ (len' : Nat) (j : Nat) (u : Value), len' ≤ len → (tf ((List.range len').map E))[j]? = some u → w.cell? (a.add j) = some u := by
      intro len'
      induction len' with
      | zero => intro j u _ hj; simp [tf] at hj
      | succ k ih =>
        intro j u hk hj
        rw [List.range_succ, List.map_append, tf_append, List.map_singleton] at hj
        by_cases hjk : j < k * 3
        · rw [List.getElem?_append_left (by rw [tf_length]; simp; omega)] at hj
          exact ih j u (by omega) hj
        · rw [List.getElem?_append_right (by rw [tf_length]; simp; omega), tf_length] at hj
          simp only [List.length_map, List.length_range] at hj
          have := hE k (by omega) _ _ hj
          rwa [show k * 3 + (j - k * 3) = j by omega] at this
    refine ⟨some a, len, cap, (List.range len).map E, hcs, ⟨by rw [tf_length]; simp, fun hn => ⟨a, rfl, ?_, fun j u hj => hflat len j u (Nat.le_refl _) hj⟩⟩, ?_, hlc, by unfold maxLen at hcm; omega⟩
    · have h0 := hE 0 hn 0 _ rfl
      have := World.block_lt_of_cell? w _ h0
      rwa [block_of_add] at this
    · rw [hx]; exact bulk_slice _ _ _ (by simp)
theorem open_funcU {H : Type} {enc : TypeId × Value → H} {w : World} {b0 : Nat} {spare : Nat → Bool} {held : Bool} {v : Value} {d : DataW H} {p : List MemPlace} (hv : Value.okWide Try.prog w .any b0 27 v) (h : DataW.Trod enc Try.prog w 0 spare held 27 v d p)
    (hz : Rows.uptoBulk d ≤ 1048576) : ∃ (h : Hd) (C : List En) (T : List Tr), v = h.v ∧ h.Is w C T ∧ h.nc ≤ h.cc ∧ h.cc ≤ 9223372036854775807 ∧ h.nc ≤ 1048576 := by
  obtain ⟨v0, v1, v2, v3, v4, v5, v6, v7, y0, y1, y2, y3, y4, y5, y6, y7, n, rfl, rfl, h0, h1, h2, h3, h4, h5, h6, h7⟩ := open_agg8 Try.underlying27 (by kernel_rfl) (by kernel_rfl) hv h
  obtain ⟨s, hs, _⟩ := DataW.trod_string Try.underlying9 h0
  obtain ⟨x1, hx1, _⟩ := DataW.trod_int Try.underlying3 h1
  obtain ⟨x2, hx2, _⟩ := DataW.trod_int Try.underlying3 h2
  obtain ⟨x3, hx3, _⟩ := DataW.trod_bool Try.underlying4 h3
  simp only [List.cons.injEq, and_true] at hs hx1 hx2 hx3
  subst hs hx1 hx2 hx3
  simp only [Rows.uptoBulk, Rows.uptoBulkAll] at hz
  obtain ⟨A, m, c, L, hv1, hr, hm, hc1, hc2⟩ := open_code0 h4
  obtain ⟨A5, m5, c5, hv5⟩ := open_any Try.underlying23 h5
  obtain ⟨A6, m6, c6, hv6⟩ := open_any Try.underlying24 h6
  obtain ⟨A7, m7, c7, L7, hv7, hr7, hm7, _, _⟩ := open_hand0 h7
  subst hv1 hv5 hv6 hv7
  exact ⟨⟨s, x1, x2, x3, A, m, c, A5, m5, c5, A6, m6, c6, A7, m7, c7⟩, L, L7, rfl, ⟨hr, hr7, by show m * 32 ≤ _; omega, by show m7 * 24 ≤ _; omega⟩, hc1, hc2, by show m ≤ _; omega⟩
end Go.Proofs.Ytblkedhkkhppnaa
