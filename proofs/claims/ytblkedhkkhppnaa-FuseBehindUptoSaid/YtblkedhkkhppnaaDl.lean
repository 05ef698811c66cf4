/- Fuse: the arguments, opened. -/
import Derived.Test.YtblkedhkkhppnaaDk
import Derived.Test.YtblkedhkkhppnaaRows
import Derived.ProofKit
import Derived.OpenShut
import Derived.JoinedOf
import Derived.Carry
import Derived.SizedLaws
namespace Go.Proofs.Ytblkedhkkhppnaa
open Go.ChangeShapes Go.WideShapes Go.ChangeAt Go.RowKit Go.Deep Go.Joins Go
set_option linter.unusedVariables false
set_option linter.unusedSimpArgs false
theorem bytes38 : Try.prog.bytesOf 38 = 32 := by kernel_rfl
theorem cells38 : Try.prog.cellsOf 38 = 4 := by kernel_rfl
theorem bytes50 : Try.prog.bytesOf 50 = 24 := by kernel_rfl
theorem cells50 : Try.prog.cellsOf 50 = 3 := by kernel_rfl
theorem open_code {H : Type} {enc : TypeId × Value → H} {w : World} {spare : Nat → Bool} {held : Bool} {fuel : Nat} {v : Value} {x : DataW H × List MemPlace} (h : DataW.trod enc Try.prog w 0 spare held fuel 22 [v] = some x)
    (hz : ∀ n ∈ x.1.weights Try.prog 22, n ≤ reachBytes) : ∃ A n c L, v = .slice A n c ∧ Reads w w.heap.size 4 A n (ef L) ∧ n * 32 ≤ 140737488351232 ∧ n ≤ c ∧ c ≤ 9223372036854775807 := by
  have he : ∃ fs, Try.prog.underlying 38 = some (.struct fs) ∧ fs.size = 4 ∧ ∀ j, j < 4 → ∃ f, fs[j]? = some f ∧ f.type = 3 := by
    have hf : (match Try.prog.underlying 38 with | some (.struct fs) => fs.toList.map (fun f => f.type) | _ => []) = [3, 3, 3, 3] := by kernel_rfl
    split at hf
    · rename_i fs hfs
      have hl := congrArg List.length hf
      simp at hl
      refine ⟨fs, hfs, hl, fun j hj => ?_⟩
      have hj2 : j < fs.size := by omega
      refine ⟨fs[j], by simp [hj2], ?_⟩
      have := congrArg (fun l => l[j]?) hf
      simp only [List.getElem?_map, Array.getElem?_toList] at this
      rw [Array.getElem?_eq_getElem hj2] at this
      match j, hj with
      | 0, _ => simpa using this
      | 1, _ => simpa using this
      | 2, _ => simpa using this
      | 3, _ => simpa using this
    · simp at hf
  obtain ⟨fs, hfs, hsz, hty⟩ := he
  have hone : oneCellFields Try.prog fs = true := by
    have : (match Try.prog.underlying 38 with | some (.struct fs) => oneCellFields Try.prog fs | _ => false) = true := by kernel_rfl
    rw [hfs] at this; exact this
  rcases open_slice_fields Try.underlying22 hfs hone (by rw [cells38, hsz]) h with ⟨h1, h2⟩ | ⟨a, len, cap, m, D, Pl, hcs, hb, hlc, hcm, hm, hx, hi⟩
  · simp only [List.cons.injEq, and_true] at h1
    exact ⟨none, 0, 0, [], h1, Reads.none_, by omega, by omega, by omega⟩
  · simp only [List.cons.injEq, and_true] at hcs
    have hlm : len ≤ m := by rw [hm]; split <;> omega
    have hE : ∀ i, ∃ e : En, i < len → (∀ j u, (ef [e])[j]? = some u → w.cell? (a.add (i * 4 + j)) = some u) := by
      intro i
      by_cases hil : i < len
      · obtain ⟨ys, n, _, _, _, hf⟩ := hi i (by omega)
        have hget : ∀ j, j < 4 → ∃ z : Int, w.cell? (a.add (i * 4 + j)) = some (.int .i64 z) := by
          intro j hj
          obtain ⟨f, hfj, hft⟩ := hty j hj
          obtain ⟨v', y, hc, _, ht⟩ := hf j f hfj
          rw [hft] at ht
          obtain ⟨z, hz, _⟩ := DataW.trod_int Try.underlying3 ht
          simp only [List.cons.injEq, and_true] at hz
          rw [hsz, hz] at hc
          exact ⟨z, hc⟩
        obtain ⟨z0, g0⟩ := hget 0 (by omega)
        obtain ⟨z1, g1⟩ := hget 1 (by omega)
        obtain ⟨z2, g2⟩ := hget 2 (by omega)
        obtain ⟨z3, g3⟩ := hget 3 (by omega)
        refine ⟨⟨z0, z1, z2, z3⟩, fun _ j u hj => ?_⟩
        match j, hj with
        | 0, hj => simp [ef] at hj; subst hj; exact g0
        | 1, hj => simp [ef] at hj; subst hj; exact g1
        | 2, hj => simp [ef] at hj; subst hj; exact g2
        | 3, hj => simp [ef] at hj; subst hj; exact g3
        | j + 4, hj => simp [ef] at hj
      · exact ⟨⟨0, 0, 0, 0⟩, fun h => absurd h hil⟩
    obtain ⟨E, hE⟩ := Classical.axiomOfChoice hE
    have hflat : ∀ (len' : Nat) (j : Nat) (u : Value), len' ≤ len → (ef ((List.range len').map E))[j]? = some u → w.cell? (a.add j) = some u := by
      intro len'
      induction len' with
      | zero => intro j u _ hj; simp [ef] at hj
      | succ k ih =>
        intro j u hk hj
        rw [List.range_succ, List.map_append, ef_append, List.map_singleton] at hj
        by_cases hjk : j < k * 4
        · rw [List.getElem?_append_left (by rw [ef_length]; simp; omega)] at hj
          exact ih j u (by omega) hj
        · rw [List.getElem?_append_right (by rw [ef_length]; simp; omega), ef_length] at hj
          simp only [List.length_map, List.length_range] at hj
          have := hE k (by omega) _ _ hj
          rwa [show k * 4 + (j - k * 4) = j by omega] at this
    refine ⟨some a, len, cap, (List.range len).map E, hcs, ⟨by rw [ef_length]; simp, fun hn => ⟨a, rfl, ?_, fun j u hj => hflat len j u (Nat.le_refl _) hj⟩⟩, ?_, hlc, by unfold maxLen at hcm; omega⟩
    · have h0 := hE 0 hn 0 _ rfl
      have := World.block_lt_of_cell? w _ h0
      rwa [block_of_add] at this
    · rw [hx] at hz
      have := hz ((len + (m - len)) * 32) (by simp [DataW.weights, Try.underlying22, bytes38])
      unfold reachBytes at this
      omega
theorem open_hand {H : Type} {enc : TypeId × Value → H} {w : World} {spare : Nat → Bool} {held : Bool} {fuel : Nat} {v : Value} {x : DataW H × List MemPlace} (h : DataW.trod enc Try.prog w 0 spare held fuel 25 [v] = some x)
    (hz : ∀ n ∈ x.1.weights Try.prog 25, n ≤ reachBytes) : ∃ A n c L, v = .slice A n c ∧ Reads w w.heap.size 3 A n (tf L) ∧ n * 24 ≤ 140737488351232 ∧ n ≤ c ∧ c ≤ 9223372036854775807 := by
  have he : ∃ fs, Try.prog.underlying 50 = some (.struct fs) ∧ fs.size = 3 ∧ ∀ j, j < 3 → ∃ f, fs[j]? = some f ∧ f.type = 3 := by
    have hf : (match Try.prog.underlying 50 with | some (.struct fs) => fs.toList.map (fun f => f.type) | _ => []) = [3, 3, 3] := by kernel_rfl
    split at hf
    · rename_i fs hfs
      have hl := congrArg List.length hf
      simp at hl
      refine ⟨fs, hfs, hl, fun j hj => ?_⟩
      have hj2 : j < fs.size := by omega
      refine ⟨fs[j], by simp [hj2], ?_⟩
      have := congrArg (fun l => l[j]?) hf
      simp only [List.getElem?_map, Array.getElem?_toList] at this
      rw [Array.getElem?_eq_getElem hj2] at this
      match j, hj with
      | 0, _ => simpa using this
      | 1, _ => simpa using this
      | 2, _ => simpa using this
    · simp at hf
  obtain ⟨fs, hfs, hsz, hty⟩ := he
  have hone : oneCellFields Try.prog fs = true := by
    have : (match Try.prog.underlying 50 with | some (.struct fs) => oneCellFields Try.prog fs | _ => false) = true := by kernel_rfl
    rw [hfs] at this; exact this
  rcases open_slice_fields Try.underlying25 hfs hone (by rw [cells50, hsz]) h with ⟨h1, h2⟩ | ⟨a, len, cap, m, D, Pl, hcs, hb, hlc, hcm, hm, hx, hi⟩
  · simp only [List.cons.injEq, and_true] at h1
    exact ⟨none, 0, 0, [], h1, Reads.none_, by omega, by omega, by omega⟩
  · simp only [List.cons.injEq, and_true] at hcs
    have hlm : len ≤ m := by rw [hm]; split <;> omega
    have hE : ∀ i, ∃ e : Tr, i < len → (∀ j u, (tf [e])[j]? = some u → w.cell? (a.add (i * 3 + j)) = some u) := by
      intro i
      by_cases hil : i < len
      · obtain ⟨ys, n, _, _, _, hf⟩ := hi i (by omega)
        have hget : ∀ j, j < 3 → ∃ z : Int, w.cell? (a.add (i * 3 + j)) = some (.int .i64 z) := by
          intro j hj
          obtain ⟨f, hfj, hft⟩ := hty j hj
          obtain ⟨v', y, hc, _, ht⟩ := hf j f hfj
          rw [hft] at ht
          obtain ⟨z, hz, _⟩ := DataW.trod_int Try.underlying3 ht
          simp only [List.cons.injEq, and_true] at hz
          rw [hsz, hz] at hc
          exact ⟨z, hc⟩
        obtain ⟨z0, g0⟩ := hget 0 (by omega)
        obtain ⟨z1, g1⟩ := hget 1 (by omega)
        obtain ⟨z2, g2⟩ := hget 2 (by omega)
        refine ⟨⟨z0, z1, z2⟩, fun _ j u hj => ?_⟩
        match j, hj with
        | 0, hj => simp [tf] at hj; subst hj; exact g0
        | 1, hj => simp [tf] at hj; subst hj; exact g1
        | 2, hj => simp [tf] at hj; subst hj; exact g2
        | j + 3, hj => simp [tf] at hj
      · exact ⟨⟨0, 0, 0⟩, fun h => absurd h hil⟩
    obtain ⟨E, hE⟩ := Classical.axiomOfChoice hE
    have hflat : ∀ (len' : Nat) (j : Nat) (u : Value), len' ≤ len → (tf ((List.range len').map E))[j]? = some u → w.cell? (a.add j) = some u := by
      intro len'
      induction len' with
      | zero => intro j u _ hj; simp [tf] at hj
      | succ k ih =>
        intro j u hk hj
        rw [List.range_succ, List.map_append, tf_append, List.map_singleton] at hj
        by_cases hjk : j < k * 3
        · rw [List.getElem?_append_left (by rw [tf_length]; simp; omega)] at hj
          exact ih j u (by omega) hj
        · rw [List.getElem?_append_right (by rw [tf_length]; simp; omega), tf_length] at hj
          simp only [List.length_map, List.length_range] at hj
          have := hE k (by omega) _ _ hj
          rwa [show k * 3 + (j - k * 3) = j by omega] at this
    refine ⟨some a, len, cap, (List.range len).map E, hcs, ⟨by rw [tf_length]; simp, fun hn => ⟨a, rfl, ?_, fun j u hj => hflat len j u (Nat.le_refl _) hj⟩⟩, ?_, hlc, by unfold maxLen at hcm; omega⟩
    · have h0 := hE 0 hn 0 _ rfl
      have := World.block_lt_of_cell? w _ h0
      rwa [block_of_add] at this
    · rw [hx] at hz
      have := hz ((len + (m - len)) * 24) (by simp [DataW.weights, Try.underlying25, bytes50])
      unfold reachBytes at this
      omega
section
variable {H : Type} {enc : TypeId × Value → H} {P : Program} {w : World} {base : Nat} {spare : Nat → Bool} {held : Bool}
theorem open_agg8 {r : Reach} {b0 : Nat} {t : TypeId} {f0 f1 f2 f3 f4 f5 f6 f7 : Field} {v : Value} {d : DataW H} {p : List MemPlace} (hs : P.underlying t = some (.struct #[f0, f1, f2, f3, f4, f5, f6, f7])) (hone : oneCellFields P #[f0, f1, f2, f3, f4, f5, f6, f7] = true) (hC : P.cellsOf t = 8)
    (hv : Value.okWide P w r b0 t v) (h : DataW.Trod enc P w base spare held t v d p) :
    ∃ (v0 v1 v2 v3 v4 v5 v6 v7 : Value) (y0 y1 y2 y3 y4 y5 y6 y7 : DataW H × List MemPlace) (n : Nat), v = .agg #[v0, v1, v2, v3, v4, v5, v6, v7] ∧ d = .agg [y0.1, y1.1, y2.1, y3.1, y4.1, y5.1, y6.1, y7.1] ∧
      DataW.trod enc P w base spare held n f0.type [v0] = some y0 ∧ DataW.trod enc P w base spare held n f1.type [v1] = some y1 ∧ DataW.trod enc P w base spare held n f2.type [v2] = some y2 ∧ DataW.trod enc P w base spare held n f3.type [v3] = some y3 ∧ DataW.trod enc P w base spare held n f4.type [v4] = some y4 ∧ DataW.trod enc P w base spare held n f5.type [v5] = some y5 ∧ DataW.trod enc P w base spare held n f6.type [v6] = some y6 ∧ DataW.trod enc P w base spare held n f7.type [v7] = some y7 := by
  obtain ⟨cs, rfl, hsz⟩ := okWide_struct hs hv
  obtain ⟨l⟩ := cs
  match l, hsz.trans hC with
  | [c0, c1, c2, c3, c4, c5, c6, c7], _ =>
    obtain ⟨fuel, hf⟩ := h
    obtain ⟨xs, n, _, hx, _, hlen, hg⟩ := DataW.trod_struct hs hf
    obtain ⟨o0, k0⟩ := hone_of hone 0 f0 rfl
    obtain ⟨o1, k1⟩ := hone_of hone 1 f1 rfl
    obtain ⟨o2, k2⟩ := hone_of hone 2 f2 rfl
    obtain ⟨o3, k3⟩ := hone_of hone 3 f3 rfl
    obtain ⟨o4, k4⟩ := hone_of hone 4 f4 rfl
    obtain ⟨o5, k5⟩ := hone_of hone 5 f5 rfl
    obtain ⟨o6, k6⟩ := hone_of hone 6 f6 rfl
    obtain ⟨o7, k7⟩ := hone_of hone 7 f7 rfl
    match xs, hlen with
    | [y0, y1, y2, y3, y4, y5, y6, y7], _ =>
      simp only [Prod.mk.injEq] at hx
      exact ⟨c0, c1, c2, c3, c4, c5, c6, c7, y0, y1, y2, y3, y4, y5, y6, y7, n, rfl, by simpa using hx.1, by simpa [Value.cells, o0, k0] using hg 0 f0 rfl, by simpa [Value.cells, o1, k1] using hg 1 f1 rfl, by simpa [Value.cells, o2, k2] using hg 2 f2 rfl, by simpa [Value.cells, o3, k3] using hg 3 f3 rfl, by simpa [Value.cells, o4, k4] using hg 4 f4 rfl, by simpa [Value.cells, o5, k5] using hg 5 f5 rfl, by simpa [Value.cells, o6, k6] using hg 6 f6 rfl, by simpa [Value.cells, o7, k7] using hg 7 f7 rfl⟩
end
theorem open_any {H : Type} {enc : TypeId × Value → H} {w : World} {spare : Nat → Bool} {held : Bool} {fuel : Nat} {t e : TypeId} {v : Value} {x : DataW H × List MemPlace} (ht : Try.prog.underlying t = some (.slice e)) (h : DataW.trod enc Try.prog w 0 spare held fuel t [v] = some x) : ∃ A n c, v = .slice A n c := by
  rcases open_slice ht h with ⟨h1, _⟩ | ⟨a, len, cap, m, n, D, Pl, hcs, _⟩
  · simp only [List.cons.injEq, and_true] at h1; exact ⟨_, _, _, h1⟩
  · simp only [List.cons.injEq, and_true] at hcs; exact ⟨_, _, _, hcs⟩
/-- a function that came in. -/
theorem open_func {H : Type} {enc : TypeId × Value → H} {w : World} {b0 : Nat} {spare : Nat → Bool} {held : Bool} {v : Value} {d : DataW H} {p : List MemPlace} (hv : Value.okWide Try.prog w .any b0 27 v) (h : DataW.Trod enc Try.prog w 0 spare held 27 v d p)
    (hz : ∀ n ∈ d.weights Try.prog 27, n ≤ reachBytes) : ∃ (h : Hd) (C : List En) (T : List Tr), v = h.v ∧ h.Is w C T ∧ h.nc ≤ h.cc ∧ h.cc ≤ 9223372036854775807 := by
  obtain ⟨v0, v1, v2, v3, v4, v5, v6, v7, y0, y1, y2, y3, y4, y5, y6, y7, n, rfl, rfl, h0, h1, h2, h3, h4, h5, h6, h7⟩ := open_agg8 Try.underlying27 (by kernel_rfl) (by kernel_rfl) hv h
  obtain ⟨s, hs, _⟩ := DataW.trod_string Try.underlying9 h0
  obtain ⟨x1, hx1, _⟩ := DataW.trod_int Try.underlying3 h1
  obtain ⟨x2, hx2, _⟩ := DataW.trod_int Try.underlying3 h2
  obtain ⟨x3, hx3, _⟩ := DataW.trod_bool Try.underlying4 h3
  simp only [List.cons.injEq, and_true] at hs hx1 hx2 hx3
  subst hs hx1 hx2 hx3
  have hw : ∀ k, (k ∈ y4.1.weights Try.prog 22 ∨ k ∈ y7.1.weights Try.prog 25) → k ≤ reachBytes := by
    intro k hk
    apply hz k
    simp only [DataW.weights, Try.underlying27]
    simp only [List.map_cons, List.map_nil, DataW.weightsEach, List.append_nil, List.mem_append]
    rcases hk with hk | hk
    · exact .inr (.inr (.inr (.inr (.inl hk))))
    · exact .inr (.inr (.inr (.inr (.inr (.inr (.inr hk))))))
  obtain ⟨A, m, c, L, hv1, hr, hm, hc1, hc2⟩ := open_code h4 (fun k hk => hw k (.inl hk))
  obtain ⟨A5, m5, c5, hv5⟩ := open_any Try.underlying23 h5
  obtain ⟨A6, m6, c6, hv6⟩ := open_any Try.underlying24 h6
  obtain ⟨A7, m7, c7, L7, hv7, hr7, hm7, _, _⟩ := open_hand h7 (fun k hk => hw k (.inr hk))
  subst hv1 hv5 hv6 hv7
  exact ⟨⟨s, x1, x2, x3, A, m, c, A5, m5, c5, A6, m6, c6, A7, m7, c7⟩, L, L7, rfl, ⟨hr, hr7, hm, hm7⟩, hc1, hc2⟩
end Go.Proofs.Ytblkedhkkhppnaa
