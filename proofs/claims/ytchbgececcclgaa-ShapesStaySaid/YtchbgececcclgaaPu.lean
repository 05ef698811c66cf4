/- Shapes: the arguments, opened. -/
import Derived.Test.YtchbgececcclgaaPt
import Derived.Test.YtchbgececcclgaaRows
import Derived.ProofKit
import Derived.OpenShut
import Derived.JoinedOf
import Derived.Carry
import Derived.SizedLaws
namespace Go.Proofs.Ytchbgececcclgaa
open Go.ChangeShapes Go.WideShapes Go.ChangeAt Go.RowKit Go.Deep Go.Joins Go
set_option linter.unusedVariables false
set_option linter.unusedSimpArgs false
theorem bulk_pos {H : Type} (d : DataW H) : 1 ≤ Rows.uptoBulk d := by
  cases d with
  | lit l => cases l <;> simp [Rows.uptoBulk]
  | _ => simp [Rows.uptoBulk]
theorem bulk_all {H : Type} (l : List (DataW H)) : l.length ≤ Rows.uptoBulkAll l := by
  induction l with
  | nil => simp [Rows.uptoBulkAll]
  | cons a l ih => have := bulk_pos a; simp only [Rows.uptoBulkAll, List.length_cons]; omega
theorem bulk_slice {H : Type} (n : Nat) (l m : List (DataW H)) (h : l.length = n) : n ≤ Rows.uptoBulk (.slice l m) := by
  have := bulk_all l
  simp only [Rows.uptoBulk]; omega
theorem bulk_six {H : Type} (l : List (DataW H)) (h : ∀ y ∈ l, 6 ≤ Rows.uptoBulk y) : l.length * 6 ≤ Rows.uptoBulkAll l := by
  induction l with
  | nil => simp
  | cons a l ih =>
    have h1 := h a (by simp)
    have h2 := ih (fun y hy => h y (by simp [hy]))
    simp only [Rows.uptoBulkAll, List.length_cons]; omega
def opv (o : Opp) : List Value := [.int .i64 o.kind, .int .i64 o.shape, .int .i64 o.flags, .int .u64 o.proto, .string o.key]
theorem opv_len (o : Opp) : (opv o).length = 5 := rfl
theorem bytes25 : Try.prog.bytesOf 25 = 48 := by kernel_rfl
theorem cells25 : Try.prog.cellsOf 25 = 5 := by kernel_rfl
theorem fields25 : (match Try.prog.underlying 25 with | some (.struct fs) => fs.toList.map (fun f => (f.type, f.offset)) | _ => []) = [(3, 0), (3, 1), (3, 2), (23, 3), (9, 4)] := by kernel_rfl
theorem struct25 : ∃ fs, Try.prog.underlying 25 = some (.struct fs) ∧ fs.size = 5 ∧ ∀ j, j < 5 → ∃ f, fs[j]? = some f ∧ f.type = [3, 3, 3, 23, 9][j]! ∧ f.offset = j := by
  have hf := fields25
  split at hf
  · rename_i fs hfs
    have hl := congrArg List.length hf
    simp at hl
    refine ⟨fs, hfs, hl, fun j hj => ?_⟩
    have hj2 : j < fs.size := by omega
    refine ⟨fs[j], by simp [hj2], ?_⟩
    have := congrArg (fun l => l[j]?) hf
    simp only [List.getElem?_map, Array.getElem?_toList] at this
    rw [Array.getElem?_eq_getElem hj2] at this
    match j, hj with
    | 0, _ => simpa using this
    | 1, _ => simpa using this
    | 2, _ => simpa using this
    | 3, _ => simpa using this
    | 4, _ => simpa using this
  · simp at hf
section
variable {H : Type} {enc : TypeId × Value → H} {w : World} {spare : Nat → Bool} {held : Bool}
/-- five cells that read as a call. -/
theorem op_cells {n : Nat} {c0 c1 c2 c3 c4 : Value} {y0 y1 y2 y3 y4 : DataW H × List MemPlace} (h0 : DataW.trod enc Try.prog w 0 spare held n 3 [c0] = some y0) (h1 : DataW.trod enc Try.prog w 0 spare held n 3 [c1] = some y1) (h2 : DataW.trod enc Try.prog w 0 spare held n 3 [c2] = some y2) (h3 : DataW.trod enc Try.prog w 0 spare held n 23 [c3] = some y3) (h4 : DataW.trod enc Try.prog w 0 spare held n 9 [c4] = some y4) :
    ∃ o : Opp, o.Ok ∧ opv o = [c0, c1, c2, c3, c4] := by
  obtain ⟨z0, e0, _, w0⟩ := DataW.trod_int Try.underlying3 h0
  obtain ⟨z1, e1, _, w1⟩ := DataW.trod_int Try.underlying3 h1
  obtain ⟨z2, e2, _, w2⟩ := DataW.trod_int Try.underlying3 h2
  obtain ⟨z3, e3, _, w3⟩ := DataW.trod_int Try.underlying23 h3
  obtain ⟨z4, e4, _, w4⟩ := DataW.trod_string Try.underlying9 h4
  simp only [List.cons.injEq, and_true] at e0 e1 e2 e3 e4
  exact ⟨⟨z0, z1, z2, z3, z4⟩, ⟨w1, w2, w3, w4⟩, by rw [e0, e1, e2, e3, e4]; rfl⟩
theorem open_ops {fuel : Nat} {v : Value} {x : DataW H × List MemPlace} (h : DataW.trod enc Try.prog w 0 spare held fuel 22 [v] = some x) : ∃ (A : Option Addr) (n c : Nat) (Os : List Opp), v = .slice A n c ∧ Reads w w.heap.size 5 A n (Os.flatMap opv) ∧ (∀ o ∈ Os, o.Ok) ∧ n * 6 ≤ Rows.uptoBulk x.1 ∧ n ≤ 9223372036854775807 := by
  obtain ⟨fs, hfs, hsz, hty⟩ := struct25
  have hone : oneCellFields Try.prog fs = true := by
    have : (match Try.prog.underlying 25 with | some (.struct fs) => oneCellFields Try.prog fs | _ => false) = true := by kernel_rfl
    rw [hfs] at this; exact this
  rcases open_slice_fields Try.underlying22 hfs hone (by rw [cells25, hsz]) h with ⟨h1, h2⟩ | ⟨a, len, cap, m, D, Pl, hcs, hb, hlc, hcm, hm, hx, hi⟩
  · simp only [List.cons.injEq, and_true] at h1
    exact ⟨none, 0, 0, [], h1, Reads.none_, by simp, Nat.zero_le _, by omega⟩
  · simp only [List.cons.injEq, and_true] at hcs
    have hlm : len ≤ m := by rw [hm]; split <;> omega
    have hE : ∀ i, ∃ o : Opp, i < len → o.Ok ∧ (∀ j u, (opv o)[j]? = some u → w.cell? (a.add (i * 5 + j)) = some u) := by
      intro i
      by_cases hil : i < len
      · obtain ⟨ys, n, _, _, _, hf⟩ := hi i (by omega)
        have hg : ∀ j, j < 5 → ∃ v' y, w.cell? (a.add (i * 5 + j)) = some v' ∧ DataW.trod enc Try.prog w 0 spare held n [3, 3, 3, 23, 9][j]! [v'] = some y := by
          intro j hj
          obtain ⟨f, hfj, hft, _⟩ := hty j hj
          obtain ⟨v', y, hc, _, ht⟩ := hf j f hfj
          rw [hft] at ht
          rw [hsz] at hc
          exact ⟨v', y, hc, ht⟩
        obtain ⟨c0, y0, k0, t0⟩ := hg 0 (by omega)
        obtain ⟨c1, y1, k1, t1⟩ := hg 1 (by omega)
        obtain ⟨c2, y2, k2, t2⟩ := hg 2 (by omega)
        obtain ⟨c3, y3, k3, t3⟩ := hg 3 (by omega)
        obtain ⟨c4, y4, k4, t4⟩ := hg 4 (by omega)
        obtain ⟨o, ho, hv⟩ := op_cells t0 t1 t2 t3 t4
        refine ⟨o, fun _ => ⟨ho, fun j u hj => ?_⟩⟩
        rw [hv] at hj
        match j, hj with
        | 0, hj => simp at hj; subst hj; exact k0
        | 1, hj => simp at hj; subst hj; exact k1
        | 2, hj => simp at hj; subst hj; exact k2
        | 3, hj => simp at hj; subst hj; exact k3
        | 4, hj => simp at hj; subst hj; exact k4
        | j + 5, hj => simp at hj
      · exact ⟨⟨0, 0, 0, 0, ⟨#[]⟩⟩, fun h => absurd h hil⟩
    obtain ⟨E, hE⟩ := Classical.axiomOfChoice hE
    have hflat : ∀ (len' : Nat) (j : Nat) (u : Value), len' ≤ len → (((List.range len').map E).flatMap opv)[j]? = some u → w.cell? (a.add j) = some u := by
      intro len'
      induction len' with
      | zero => intro j u _ hj; simp at hj
      | succ k ih =>
        intro j u hk hj
        rw [List.range_succ, List.map_append, List.flatMap_append, List.map_singleton] at hj
        by_cases hjk : j < k * 5
        · rw [List.getElem?_append_left (by rw [flt_length opv_len]; simp; omega)] at hj
          exact ih j u (by omega) hj
        · rw [List.getElem?_append_right (by rw [flt_length opv_len]; simp; omega), flt_length opv_len] at hj
          simp only [List.length_map, List.length_range, List.flatMap_singleton] at hj
          have := (hE k (by omega)).2 _ _ hj
          rwa [show k * 5 + (j - k * 5) = j by omega] at this
    refine ⟨some a, len, cap, (List.range len).map E, hcs, ⟨by rw [flt_length opv_len]; simp, fun hn => ⟨a, rfl, ?_, fun j u hj => hflat len j u (Nat.le_refl _) hj⟩⟩, ?_, ?_, by unfold maxLen at hcm; omega⟩
    · have h0 := (hE 0 hn).2 0 _ rfl
      have := World.block_lt_of_cell? w _ h0
      rwa [block_of_add] at this
    · intro o ho
      obtain ⟨i, hi, rfl⟩ := List.mem_map.1 ho
      exact (hE i (List.mem_range.1 hi)).1
    · rw [hx]
      have hd : ∀ y ∈ (List.range len).map D, 6 ≤ Rows.uptoBulk y := by
        intro y hy
        obtain ⟨i, hi2, rfl⟩ := List.mem_map.1 hy
        obtain ⟨ys, n, hD, _, hyl, _⟩ := hi i (by have := List.mem_range.1 hi2; omega)
        rw [hD]
        have := bulk_all (ys.map (·.1))
        simp only [Rows.uptoBulk, List.length_map] at this ⊢
        omega
      have := bulk_six _ hd
      simp only [Rows.uptoBulk, List.length_map, List.length_range] at this ⊢
      omega
/-- an array of two calls. -/
theorem open_two {r : Reach} {b0 : Nat} {v : Value} {d : DataW H} {p : List MemPlace} (hv : Value.okWide Try.prog w r b0 26 v) (h : DataW.Trod enc Try.prog w 0 spare held 26 v d p) :
    ∃ a b : Opp, a.Ok ∧ b.Ok ∧ v = .agg #[.int .i64 a.kind, .int .i64 a.shape, .int .i64 a.flags, .int .u64 a.proto, .string a.key, .int .i64 b.kind, .int .i64 b.shape, .int .i64 b.flags, .int .u64 b.proto, .string b.key] := by
  obtain ⟨fs, hfs, hsz, hty⟩ := struct25
  have hc26 : Try.prog.cellsOf 26 = 10 := by kernel_rfl
  obtain ⟨cs, rfl, hcz⟩ : ∃ cs, v = .agg cs ∧ cs.size = Try.prog.cellsOf 26 := by
    unfold Value.okWide at hv
    rw [Try.underlying26] at hv
    obtain ⟨cs, h1, h2, _⟩ := hv
    exact ⟨cs, h1, h2⟩
  rw [hc26] at hcz
  obtain ⟨fuel, hf⟩ := h
  obtain ⟨xs, m, _, _, _, hxl, hg⟩ := DataW.trod_array Try.underlying26 hf
  obtain ⟨l⟩ := cs
  match l, hcz with
  | [c0, c1, c2, c3, c4, d0, d1, d2, d3, d4], _ =>
    have q : ∀ (l : List Value) (x : DataW H × List MemPlace) (e0 e1 e2 e3 e4 : Value), l = [e0, e1, e2, e3, e4] → DataW.trod enc Try.prog w 0 spare held m 25 l = some x → ∃ o : Opp, o.Ok ∧ opv o = [e0, e1, e2, e3, e4] := by
      intro l x e0 e1 e2 e3 e4 hl ht
      subst hl
      obtain ⟨ys, n, _, _, _, hyl, hfl⟩ := DataW.trod_struct hfs ht
      have hcell : ∀ t : Nat, t = 3 ∨ t = 23 ∨ t = 9 → Try.prog.cellsOf t = 1 := by
        rintro t (rfl | rfl | rfl) <;> kernel_rfl
      have hone : ∀ j, j < 5 → ∃ y, DataW.trod enc Try.prog w 0 spare held n [3, 3, 3, 23, 9][j]! (([e0, e1, e2, e3, e4].drop j).take 1) = some y := by
        intro j hj
        obtain ⟨f, hfj, hft, hfo⟩ := hty j hj
        have := hfl j f hfj
        rw [hft, hfo] at this
        rw [hcell _ (by match j, hj with | 0, _ => simp | 1, _ => simp | 2, _ => simp | 3, _ => simp | 4, _ => simp)] at this
        exact ⟨ys[j]'(by omega), by rw [this]; exact List.getElem?_eq_getElem _⟩
      obtain ⟨y0, t0⟩ := hone 0 (by omega)
      obtain ⟨y1, t1⟩ := hone 1 (by omega)
      obtain ⟨y2, t2⟩ := hone 2 (by omega)
      obtain ⟨y3, t3⟩ := hone 3 (by omega)
      obtain ⟨y4, t4⟩ := hone 4 (by omega)
      exact op_cells t0 t1 t2 t3 t4
    have g0 := hg 0 (by omega)
    have g1 := hg 1 (by omega)
    rw [cells25] at g0 g1
    have x0 : xs[0]? = some (xs[0]'(by omega)) := List.getElem?_eq_getElem _
    have x1 : xs[1]? = some (xs[1]'(by omega)) := List.getElem?_eq_getElem _
    rw [x0] at g0
    rw [x1] at g1
    obtain ⟨a, ha, ea⟩ := q _ _ c0 c1 c2 c3 c4 rfl g0
    obtain ⟨b, hb, eb⟩ := q _ _ d0 d1 d2 d3 d4 rfl g1
    simp only [opv, List.cons.injEq, and_true] at ea eb
    obtain ⟨rfl, rfl, rfl, rfl, rfl⟩ := ea
    obtain ⟨rfl, rfl, rfl, rfl, rfl⟩ := eb
    exact ⟨a, b, ha, hb, rfl⟩
theorem open_i64 {v : Value} {d : DataW H} {p : List MemPlace} (h : DataW.Trod enc Try.prog w 0 spare held 3 v d p) (hv : v.cells.toList = [v]) : ∃ n, v = .int .i64 n ∧ okF n := by
  obtain ⟨fuel, hf⟩ := h
  rw [hv] at hf
  obtain ⟨n, e, _, hw⟩ := DataW.trod_int Try.underlying3 hf
  simp only [List.cons.injEq, and_true] at e
  exact ⟨n, e, hw⟩
end
end Go.Proofs.Ytchbgececcclgaa
