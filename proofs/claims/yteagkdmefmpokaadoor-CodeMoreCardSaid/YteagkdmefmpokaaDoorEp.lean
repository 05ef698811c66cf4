/- Code: the arguments, opened. -/
import Derived.Test.YteagkdmefmpokaaDoorEo
import Derived.OpenShut
import Derived.JoinedOf
import Derived.Carry
import Derived.SizedLaws
namespace Go.Proofs.YteagkdmefmpokaaDoor
open Go.ChangeShapes Go.WideShapes Go.ChangeAt Go.RowKit Go.Deep Go.Joins Go
set_option linter.unusedVariables false
set_option linter.unusedSimpArgs false
theorem weightsAll_mem {H : Type} {P : Program} {e : TypeId} : ∀ {l : List (DataW H)} {d : DataW H}, d ∈ l → ∀ n ∈ d.weights P e, n ∈ DataW.weightsAll P e l
  | x :: l, d, h, n, hn => by
    simp only [DataW.weightsAll, List.mem_append]
    rcases List.mem_cons.1 h with rfl | h
    · exact .inl hn
    · exact .inr (weightsAll_mem h n hn)
/-- a slice of structs that came in, element by element. -/
theorem open_rows {α : Type} (cf : α → List Value) (sz : Nat) (d0 : α) (Q : α → Prop) {H : Type} {enc : TypeId × Value → H} {P : Program} {w : World} {spare : Nat → Bool} {held : Bool} {fuel : Nat} {t e : TypeId} {fs : Array Field} {v : Value} {x : DataW H × List MemPlace}
    (ht : P.underlying t = some (.slice e)) (he : P.underlying e = some (.struct fs)) (hone : oneCellFields P fs = true) (hC : P.cellsOf e = fs.size) (hs : fs.size = sz) (h0 : 0 < sz) (hcf : ∀ e, (cf e).length = sz)
    (h : DataW.trod enc P w 0 spare held fuel t [v] = some x) (hz : ∀ n ∈ x.1.weights P t, n ≤ reachBytes)
    (hel : ∀ (a : Addr) (i : Nat) (ys : List (DataW H × List MemPlace)) (n : Nat), (∀ k ∈ (DataW.agg (ys.map (·.1)) : DataW H).weights P e, k ≤ reachBytes) →
      (∀ (j : Nat) (f : Field), fs[j]? = some f → ∃ (v : Value) (y : DataW H × List MemPlace), w.cell? (a.add (i * sz + j)) = some v ∧ ys[j]? = some y ∧ DataW.trod enc P w 0 spare held n f.type [v] = some y) →
      ∃ e : α, Q e ∧ ∀ j u, (cf e)[j]? = some u → w.cell? (a.add (i * sz + j)) = some u) :
    ∃ (A : Option Addr) (n c : Nat) (L : List α), v = .slice A n c ∧ Reads w w.heap.size sz A n (L.flatMap cf) ∧ (∀ e ∈ L, Q e) ∧ n * P.bytesOf e ≤ reachBytes ∧ n ≤ c ∧ c ≤ maxLen := by
  rcases open_slice_fields ht he hone hC h with ⟨h1, h2⟩ | ⟨a, len, cap, m, D, Pl, hcs, hb, hlc, hcm, hm, hx, hi⟩
  · simp only [List.cons.injEq, and_true] at h1
    exact ⟨none, 0, 0, [], h1, Reads.none_, (by simp), by simp, Nat.le_refl _, by unfold maxLen; omega⟩
  · simp only [List.cons.injEq, and_true] at hcs
    have hlm : len ≤ m := by rw [hm]; split <;> omega
    have hE : ∀ i, ∃ e : α, i < len → (Q e ∧ ∀ j u, (cf e)[j]? = some u → w.cell? (a.add (i * sz + j)) = some u) := by
      intro i
      by_cases hil : i < len
      · obtain ⟨ys, n, hD, _, hyl, hf⟩ := hi i (by omega)
        obtain ⟨e, he1, he2⟩ := hel a i ys n (by
          intro k hk
          apply hz k
          rw [hx]
          simp only [DataW.weights, ht, List.mem_cons, List.mem_append]
          refine .inr (.inl (weightsAll_mem (d := D i) (List.mem_map_of_mem (List.mem_range.2 hil)) k (by rw [hD]; exact hk)))) (by
          intro j f hj
          have := hf j f hj
          rwa [hs] at this)
        exact ⟨e, fun _ => ⟨he1, he2⟩⟩
      · exact ⟨d0, fun h => absurd h hil⟩
    obtain ⟨E, hE⟩ := Classical.axiomOfChoice hE
    have hlen : ∀ k, (((List.range k).map E).flatMap cf).length = k * sz := by
      intro k
      induction k with
      | zero => simp
      | succ k ih => rw [List.range_succ, List.map_append, List.flatMap_append, List.length_append, ih]; simp [hcf, Nat.add_mul]
    have hflat : ∀ (len' : Nat) (j : Nat) (u : Value), len' ≤ len → (((List.range len').map E).flatMap cf)[j]? = some u → w.cell? (a.add j) = some u := by
      intro len'
      induction len' with
      | zero => intro j u _ hj; simp at hj
      | succ k ih =>
        intro j u hk hj
        rw [List.range_succ, List.map_append, List.flatMap_append, List.map_singleton, List.flatMap_singleton] at hj
        by_cases hjk : j < k * sz
        · rw [List.getElem?_append_left (by rw [hlen]; exact hjk)] at hj
          exact ih j u (by omega) hj
        · rw [List.getElem?_append_right (by rw [hlen]; omega), hlen] at hj
          have := (hE k (by omega)).2 _ _ hj
          rwa [show k * sz + (j - k * sz) = j by omega] at this
    refine ⟨some a, len, cap, (List.range len).map E, hcs, ⟨hlen len, fun hn => ⟨a, rfl, ?_, fun j u hj => hflat len j u (Nat.le_refl _) hj⟩⟩, ?_, ?_, hlc, hcm⟩
    · have h1 : 0 < (((List.range len).map E).flatMap cf).length := by rw [hlen]; exact Nat.mul_pos hn h0
      have h2 := hflat len 0 _ (Nat.le_refl _) (List.getElem?_eq_getElem h1)
      have := World.block_lt_of_cell? w _ h2
      rwa [block_of_add] at this
    · intro e hemem
      obtain ⟨i, hi1, rfl⟩ := List.mem_map.1 hemem
      exact (hE i (List.mem_range.1 hi1)).1
    · rw [hx] at hz
      have := hz ((len + (m - len)) * P.bytesOf e) (by simp [DataW.weights, ht])
      exact Nat.le_trans (Nat.mul_le_mul_right _ (by omega)) this
theorem ef_flat (L : List En) : L.flatMap En.cs = ef L := by
  induction L with
  | nil => rfl
  | cons x L ih => rw [List.flatMap_cons, ih]; rfl
def Tr.cs (e : Tr) : List Value := [.int .i64 e.x, .int .i64 e.y, .int .i64 e.z]
theorem tf_flat (L : List Tr) : L.flatMap Tr.cs = tf L := by
  induction L with
  | nil => rfl
  | cons x L ih => rw [List.flatMap_cons, ih]; rfl
def Cn.cs (e : Cn) : List Value := [.bool e.t, .int .u64 e.n, .string e.s]
theorem kf_flat (L : List Cn) : L.flatMap Cn.cs = kf L := by
  induction L with
  | nil => rfl
  | cons x L ih => rw [List.flatMap_cons, ih]; rfl
def Cp.cs (e : Cp) : List Value := [.bool e.f, .int .i64 e.i]
theorem pf_flat (L : List Cp) : L.flatMap Cp.cs = pf L := by
  induction L with
  | nil => rfl
  | cons x L ih => rw [List.flatMap_cons, ih]; rfl
theorem hf_flat (L : List Fn) : L.flatMap (fun F => hdf F.hd) = hf L := by
  induction L with
  | nil => rfl
  | cons x L ih => rw [List.flatMap_cons, ih]; rfl
/-- a struct's fields, by their types. -/
theorem fields_of {P : Program} {e : TypeId} {ts : List TypeId} (h : (match P.underlying e with | some (.struct fs) => some (fs.toList.map (·.type), oneCellFields P fs) | _ => none) = some (ts, true)) :
    ∃ fs : Array Field, P.underlying e = some (.struct fs) ∧ fs.size = ts.length ∧ oneCellFields P fs = true ∧ ∀ (j : Nat) (t : TypeId), ts[j]? = some t → ∃ f : Field, fs[j]? = some f ∧ f.type = t := by
  split at h
  · rename_i fs hfs
    simp only [Option.some.injEq, Prod.mk.injEq] at h
    obtain ⟨h1, h2⟩ := h
    subst h1
    refine ⟨fs, hfs, by simp, h2, fun j t hj => ?_⟩
    rw [List.getElem?_map, Array.getElem?_toList] at hj
    obtain ⟨f, hf, rfl⟩ := Option.map_eq_some_iff.1 hj
    exact ⟨f, hf, rfl⟩
  · cases h
section
variable {H : Type} {enc : TypeId × Value → H} {w : World} {spare : Nat → Bool} {held : Bool} {n : Nat} {v : Value} {y : DataW H × List MemPlace}
theorem int_at (h : DataW.trod enc Tryd.prog w 0 spare held n 3 [v] = some y) : ∃ z : Int, v = .int .i64 z ∧ z ≤ 9223372036854775807 ∧ -9223372036854775808 ≤ z := by
  obtain ⟨z, hz, _, hw⟩ := DataW.trod_int Tryd.underlying3 h
  simp only [List.cons.injEq, and_true] at hz
  have : z ≤ 9223372036854775807 ∧ -9223372036854775808 ≤ z := by simp [Lit.wf, IntKind.min, IntKind.max, IntKind.bits, IntKind.signed] at hw; omega
  exact ⟨z, hz, this⟩
theorem u64_at (h : DataW.trod enc Tryd.prog w 0 spare held n 41 [v] = some y) : ∃ z : Int, v = .int .u64 z := by
  obtain ⟨z, hz, _, hw⟩ := DataW.trod_int Tryd.underlying41 h
  simp only [List.cons.injEq, and_true] at hz
  exact ⟨z, hz⟩
theorem bool_at (h : DataW.trod enc Tryd.prog w 0 spare held n 4 [v] = some y) : ∃ z : Bool, v = .bool z := by
  obtain ⟨z, hz, _⟩ := DataW.trod_bool Tryd.underlying4 h
  simp only [List.cons.injEq, and_true] at hz
  exact ⟨z, hz⟩
theorem str_at (h : DataW.trod enc Tryd.prog w 0 spare held n 9 [v] = some y) : ∃ z : ByteArray, v = .string z := by
  obtain ⟨z, hz, _⟩ := DataW.trod_string Tryd.underlying9 h
  simp only [List.cons.injEq, and_true] at hz
  exact ⟨z, hz⟩
end
def En.W (e : En) : Prop := e.h ≤ 9223372036854775807 ∧ e.o ≤ 9223372036854775807 ∧ e.c ≤ 9223372036854775807
theorem bytes38 : Tryd.prog.bytesOf 38 = 32 := by kernel_rfl
theorem bytes49 : Tryd.prog.bytesOf 49 = 24 := by kernel_rfl
theorem bytes43 : Tryd.prog.bytesOf 43 = 32 := by kernel_rfl
theorem bytes52 : Tryd.prog.bytesOf 52 = 16 := by kernel_rfl
theorem bytes36 : Tryd.prog.bytesOf 36 = 136 := by kernel_rfl
section
variable {H : Type} {enc : TypeId × Value → H} {w : World} {spare : Nat → Bool} {held : Bool} {fuel : Nat} {v : Value} {x : DataW H × List MemPlace}
theorem open_code (h : DataW.trod enc Tryd.prog w 0 spare held fuel 31 [v] = some x) (hz : ∀ n ∈ x.1.weights Tryd.prog 31, n ≤ reachBytes) :
    ∃ A n c L, v = .slice A n c ∧ Reads w w.heap.size 4 A n (ef L) ∧ (∀ e ∈ L, e.W) ∧ n * 32 ≤ 140737488351232 ∧ n ≤ c ∧ c ≤ 9223372036854775807 := by
  obtain ⟨fs, hfs, hsz, hone, hty⟩ := fields_of (P := Tryd.prog) (e := 38) (ts := [3, 3, 3, 3]) (by kernel_rfl)
  have h := open_rows En.cs 4 ⟨0, 0, 0, 0⟩ (fun e => e.W) Tryd.underlying31 hfs hone (by rw [hsz]; kernel_rfl) hsz (by omega) (fun _ => rfl) h hz ?_
  · obtain ⟨A, n, c, L, h1, h2, h3, h4, h5, h6⟩ := h
    rw [ef_flat] at h2
    rw [bytes38] at h4
    exact ⟨A, n, c, L, h1, h2, h3, h4, h5, h6⟩
  · intro a i ys n _ hf
    obtain ⟨f0, hf0, ht0⟩ := hty 0 _ rfl
    obtain ⟨w0, y0, g0, _, k0⟩ := hf 0 f0 hf0
    rw [ht0] at k0
    obtain ⟨f1, hf1, ht1⟩ := hty 1 _ rfl
    obtain ⟨w1, y1, g1, _, k1⟩ := hf 1 f1 hf1
    rw [ht1] at k1
    obtain ⟨f2, hf2, ht2⟩ := hty 2 _ rfl
    obtain ⟨w2, y2, g2, _, k2⟩ := hf 2 f2 hf2
    rw [ht2] at k2
    obtain ⟨f3, hf3, ht3⟩ := hty 3 _ rfl
    obtain ⟨w3, y3, g3, _, k3⟩ := hf 3 f3 hf3
    rw [ht3] at k3
    obtain ⟨z0, rfl, r0⟩ := int_at k0
    obtain ⟨z1, rfl, r1⟩ := int_at k1
    obtain ⟨z2, rfl, r2⟩ := int_at k2
    obtain ⟨z3, rfl, r3⟩ := int_at k3
    refine ⟨⟨z0, z1, z2, z3⟩, ⟨r1.1, r2.1, r3.1⟩, fun j u hj => ?_⟩
    match j, hj with
    | 0, hj => simp [En.cs] at hj; subst hj; exact g0
    | 1, hj => simp [En.cs] at hj; subst hj; exact g1
    | 2, hj => simp [En.cs] at hj; subst hj; exact g2
    | 3, hj => simp [En.cs] at hj; subst hj; exact g3
    | j + 4, hj => simp [En.cs] at hj
theorem open_hand (h : DataW.trod enc Tryd.prog w 0 spare held fuel 34 [v] = some x) (hz : ∀ n ∈ x.1.weights Tryd.prog 34, n ≤ reachBytes) :
    ∃ A n c L, v = .slice A n c ∧ Reads w w.heap.size 3 A n (tf L) ∧ (∀ e ∈ L, True) ∧ n * 24 ≤ 140737488351232 ∧ n ≤ c ∧ c ≤ 9223372036854775807 := by
  obtain ⟨fs, hfs, hsz, hone, hty⟩ := fields_of (P := Tryd.prog) (e := 49) (ts := [3, 3, 3]) (by kernel_rfl)
  have h := open_rows Tr.cs 3 ⟨0, 0, 0⟩ (fun e => True) Tryd.underlying34 hfs hone (by rw [hsz]; kernel_rfl) hsz (by omega) (fun _ => rfl) h hz ?_
  · obtain ⟨A, n, c, L, h1, h2, h3, h4, h5, h6⟩ := h
    rw [tf_flat] at h2
    rw [bytes49] at h4
    exact ⟨A, n, c, L, h1, h2, h3, h4, h5, h6⟩
  · intro a i ys n _ hf
    obtain ⟨f0, hf0, ht0⟩ := hty 0 _ rfl
    obtain ⟨w0, y0, g0, _, k0⟩ := hf 0 f0 hf0
    rw [ht0] at k0
    obtain ⟨f1, hf1, ht1⟩ := hty 1 _ rfl
    obtain ⟨w1, y1, g1, _, k1⟩ := hf 1 f1 hf1
    rw [ht1] at k1
    obtain ⟨f2, hf2, ht2⟩ := hty 2 _ rfl
    obtain ⟨w2, y2, g2, _, k2⟩ := hf 2 f2 hf2
    rw [ht2] at k2
    obtain ⟨z0, rfl, r0⟩ := int_at k0
    obtain ⟨z1, rfl, r1⟩ := int_at k1
    obtain ⟨z2, rfl, r2⟩ := int_at k2
    refine ⟨⟨z0, z1, z2⟩, trivial, fun j u hj => ?_⟩
    match j, hj with
    | 0, hj => simp [Tr.cs] at hj; subst hj; exact g0
    | 1, hj => simp [Tr.cs] at hj; subst hj; exact g1
    | 2, hj => simp [Tr.cs] at hj; subst hj; exact g2
    | j + 3, hj => simp [Tr.cs] at hj
theorem open_cons (h : DataW.trod enc Tryd.prog w 0 spare held fuel 32 [v] = some x) (hz : ∀ n ∈ x.1.weights Tryd.prog 32, n ≤ reachBytes) :
    ∃ A n c L, v = .slice A n c ∧ Reads w w.heap.size 3 A n (kf L) ∧ (∀ e ∈ L, True) ∧ n * 32 ≤ 140737488351232 ∧ n ≤ c ∧ c ≤ 9223372036854775807 := by
  obtain ⟨fs, hfs, hsz, hone, hty⟩ := fields_of (P := Tryd.prog) (e := 43) (ts := [4, 41, 9]) (by kernel_rfl)
  have h := open_rows Cn.cs 3 ⟨false, 0, ⟨#[]⟩⟩ (fun e => True) Tryd.underlying32 hfs hone (by rw [hsz]; kernel_rfl) hsz (by omega) (fun _ => rfl) h hz ?_
  · obtain ⟨A, n, c, L, h1, h2, h3, h4, h5, h6⟩ := h
    rw [kf_flat] at h2
    rw [bytes43] at h4
    exact ⟨A, n, c, L, h1, h2, h3, h4, h5, h6⟩
  · intro a i ys n _ hf
    obtain ⟨f0, hf0, ht0⟩ := hty 0 _ rfl
    obtain ⟨w0, y0, g0, _, k0⟩ := hf 0 f0 hf0
    rw [ht0] at k0
    obtain ⟨f1, hf1, ht1⟩ := hty 1 _ rfl
    obtain ⟨w1, y1, g1, _, k1⟩ := hf 1 f1 hf1
    rw [ht1] at k1
    obtain ⟨f2, hf2, ht2⟩ := hty 2 _ rfl
    obtain ⟨w2, y2, g2, _, k2⟩ := hf 2 f2 hf2
    rw [ht2] at k2
    obtain ⟨z0, rfl⟩ := bool_at k0
    obtain ⟨z1, rfl⟩ := u64_at k1
    obtain ⟨z2, rfl⟩ := str_at k2
    refine ⟨⟨z0, z1, z2⟩, trivial, fun j u hj => ?_⟩
    match j, hj with
    | 0, hj => simp [Cn.cs] at hj; subst hj; exact g0
    | 1, hj => simp [Cn.cs] at hj; subst hj; exact g1
    | 2, hj => simp [Cn.cs] at hj; subst hj; exact g2
    | j + 3, hj => simp [Cn.cs] at hj
theorem open_caps (h : DataW.trod enc Tryd.prog w 0 spare held fuel 33 [v] = some x) (hz : ∀ n ∈ x.1.weights Tryd.prog 33, n ≤ reachBytes) :
    ∃ A n c L, v = .slice A n c ∧ Reads w w.heap.size 2 A n (pf L) ∧ (∀ e ∈ L, True) ∧ n * 16 ≤ 140737488351232 ∧ n ≤ c ∧ c ≤ 9223372036854775807 := by
  obtain ⟨fs, hfs, hsz, hone, hty⟩ := fields_of (P := Tryd.prog) (e := 52) (ts := [4, 3]) (by kernel_rfl)
  have h := open_rows Cp.cs 2 ⟨false, 0⟩ (fun e => True) Tryd.underlying33 hfs hone (by rw [hsz]; kernel_rfl) hsz (by omega) (fun _ => rfl) h hz ?_
  · obtain ⟨A, n, c, L, h1, h2, h3, h4, h5, h6⟩ := h
    rw [pf_flat] at h2
    rw [bytes52] at h4
    exact ⟨A, n, c, L, h1, h2, h3, h4, h5, h6⟩
  · intro a i ys n _ hf
    obtain ⟨f0, hf0, ht0⟩ := hty 0 _ rfl
    obtain ⟨w0, y0, g0, _, k0⟩ := hf 0 f0 hf0
    rw [ht0] at k0
    obtain ⟨f1, hf1, ht1⟩ := hty 1 _ rfl
    obtain ⟨w1, y1, g1, _, k1⟩ := hf 1 f1 hf1
    rw [ht1] at k1
    obtain ⟨z0, rfl⟩ := bool_at k0
    obtain ⟨z1, rfl, r1⟩ := int_at k1
    refine ⟨⟨z0, z1⟩, trivial, fun j u hj => ?_⟩
    match j, hj with
    | 0, hj => simp [Cp.cs] at hj; subst hj; exact g0
    | 1, hj => simp [Cp.cs] at hj; subst hj; exact g1
    | j + 2, hj => simp [Cp.cs] at hj
end
/-- a function that is read, and what its numbers are. -/
def FQ (w : World) (F : Fn) : Prop := F.Is w ∧ F.W ∧ F.hd.nc ≤ F.hd.cc ∧ F.hd.cc ≤ 9223372036854775807 ∧ F.hd.re ≤ 9223372036854775807
section
variable {H : Type} {enc : TypeId × Value → H} {w : World} {spare : Nat → Bool} {held : Bool}
theorem func_of {n : Nat} {v0 v1 v2 v3 v4 v5 v6 v7 : Value} {y0 y1 y2 y3 y4 y5 y6 y7 : DataW H × List MemPlace} (h0 : DataW.trod enc Tryd.prog w 0 spare held n 9 [v0] = some y0) (h1 : DataW.trod enc Tryd.prog w 0 spare held n 3 [v1] = some y1) (h2 : DataW.trod enc Tryd.prog w 0 spare held n 3 [v2] = some y2) (h3 : DataW.trod enc Tryd.prog w 0 spare held n 4 [v3] = some y3)
    (h4 : DataW.trod enc Tryd.prog w 0 spare held n 31 [v4] = some y4) (h5 : DataW.trod enc Tryd.prog w 0 spare held n 32 [v5] = some y5) (h6 : DataW.trod enc Tryd.prog w 0 spare held n 33 [v6] = some y6) (h7 : DataW.trod enc Tryd.prog w 0 spare held n 34 [v7] = some y7)
    (z4 : ∀ k ∈ y4.1.weights Tryd.prog 31, k ≤ reachBytes) (z5 : ∀ k ∈ y5.1.weights Tryd.prog 32, k ≤ reachBytes) (z6 : ∀ k ∈ y6.1.weights Tryd.prog 33, k ≤ reachBytes) (z7 : ∀ k ∈ y7.1.weights Tryd.prog 34, k ≤ reachBytes) :
    ∃ F : Fn, [v0, v1, v2, v3, v4, v5, v6, v7] = hdf F.hd ∧ FQ w F := by
  obtain ⟨s, rfl⟩ := str_at h0
  obtain ⟨x1, rfl, _⟩ := int_at h1
  obtain ⟨x2, rfl, q2⟩ := int_at h2
  obtain ⟨x3, rfl⟩ := bool_at h3
  obtain ⟨A4, n4, c4, L4, rfl, r4, e4, m4, a4, b4⟩ := open_code h4 z4
  obtain ⟨A5, n5, c5, L5, rfl, r5, e5, m5, a5, b5⟩ := open_cons h5 z5
  obtain ⟨A6, n6, c6, L6, rfl, r6, e6, m6, a6, b6⟩ := open_caps h6 z6
  obtain ⟨A7, n7, c7, L7, rfl, r7, e7, m7, a7, b7⟩ := open_hand h7 z7
  exact ⟨⟨⟨s, x1, x2, x3, A4, n4, c4, A5, n5, c5, A6, n6, c6, A7, n7, c7⟩, L4, L7, L5, L6⟩, rfl, ⟨⟨r4, r7, m4, m7⟩, r5, r6, by show n5 ≤ _; omega, by show n6 ≤ _; omega⟩, e4, a4, b4, q2.1⟩
theorem open_funcs {fuel : Nat} {v : Value} {x : DataW H × List MemPlace} (h : DataW.trod enc Tryd.prog w 0 spare held fuel 22 [v] = some x) (hz : ∀ n ∈ x.1.weights Tryd.prog 22, n ≤ reachBytes) :
    ∃ A n c L, v = .slice A n c ∧ Reads w w.heap.size 8 A n (hf L) ∧ (∀ F ∈ L, FQ w F) ∧ n * 136 ≤ 140737488351232 ∧ n ≤ c ∧ c ≤ 9223372036854775807 := by
  obtain ⟨fs, hfs, hsz, hone, hty⟩ := fields_of (P := Tryd.prog) (e := 36) (ts := [9, 3, 3, 4, 31, 32, 33, 34]) (by kernel_rfl)
  have hts : fs.toList.map (·.type) = [9, 3, 3, 4, 31, 32, 33, 34] := by
    apply List.ext_getElem?
    intro j
    by_cases hj : j < 8
    · obtain ⟨t, ht⟩ : ∃ t, ([9, 3, 3, 4, 31, 32, 33, 34] : List TypeId)[j]? = some t := ⟨_, List.getElem?_eq_getElem hj⟩
      obtain ⟨f, hf, hft⟩ := hty j t ht
      rw [ht, List.getElem?_map, Array.getElem?_toList, hf]; simp [hft]
    · rw [List.getElem?_eq_none (by simp [hsz]; omega), List.getElem?_eq_none (by simp; omega)]
  have h := open_rows (fun F => hdf F.hd) 8 ⟨⟨⟨#[]⟩, 0, 0, false, none, 0, 0, none, 0, 0, none, 0, 0, none, 0, 0⟩, [], [], [], []⟩ (FQ w) Tryd.underlying22 hfs hone (by rw [hsz]; kernel_rfl) hsz (by omega) (fun _ => rfl) h hz ?_
  · obtain ⟨A, n, c, L, h1, h2, h3, h4, h5, h6⟩ := h
    rw [hf_flat] at h2
    rw [bytes36] at h4
    exact ⟨A, n, c, L, h1, h2, h3, h4, h5, h6⟩
  · intro a i ys n hw hf
    obtain ⟨f0, hf0, ht0⟩ := hty 0 _ rfl
    obtain ⟨w0, y0, g0, e0, k0⟩ := hf 0 f0 hf0
    rw [ht0] at k0
    obtain ⟨f1, hf1, ht1⟩ := hty 1 _ rfl
    obtain ⟨w1, y1, g1, e1, k1⟩ := hf 1 f1 hf1
    rw [ht1] at k1
    obtain ⟨f2, hf2, ht2⟩ := hty 2 _ rfl
    obtain ⟨w2, y2, g2, e2, k2⟩ := hf 2 f2 hf2
    rw [ht2] at k2
    obtain ⟨f3, hf3, ht3⟩ := hty 3 _ rfl
    obtain ⟨w3, y3, g3, e3, k3⟩ := hf 3 f3 hf3
    rw [ht3] at k3
    obtain ⟨f4, hf4, ht4⟩ := hty 4 _ rfl
    obtain ⟨w4, y4, g4, e4, k4⟩ := hf 4 f4 hf4
    rw [ht4] at k4
    obtain ⟨f5, hf5, ht5⟩ := hty 5 _ rfl
    obtain ⟨w5, y5, g5, e5, k5⟩ := hf 5 f5 hf5
    rw [ht5] at k5
    obtain ⟨f6, hf6, ht6⟩ := hty 6 _ rfl
    obtain ⟨w6, y6, g6, e6, k6⟩ := hf 6 f6 hf6
    rw [ht6] at k6
    obtain ⟨f7, hf7, ht7⟩ := hty 7 _ rfl
    obtain ⟨w7, y7, g7, e7, k7⟩ := hf 7 f7 hf7
    rw [ht7] at k7
    have hw' : ∀ (j : Nat) (t : TypeId) (y : DataW H × List MemPlace), ([9, 3, 3, 4, 31, 32, 33, 34] : List TypeId)[j]? = some t → ys[j]? = some y → ∀ k ∈ y.1.weights Tryd.prog t, k ≤ reachBytes := by
      intro j t y ht hy k hk
      apply hw k
      simp only [DataW.weights, hfs, hts]
      exact DataW.weights_mem_each ht (by rw [List.getElem?_map, hy]; rfl) k hk
    obtain ⟨F, hF, hq⟩ := func_of k0 k1 k2 k3 k4 k5 k6 k7 (hw' 4 _ _ rfl e4) (hw' 5 _ _ rfl e5) (hw' 6 _ _ rfl e6) (hw' 7 _ _ rfl e7)
    refine ⟨F, hq, fun j u hj => ?_⟩
    have hj' : [w0, w1, w2, w3, w4, w5, w6, w7][j]? = some u := by rw [hF]; exact hj
    match j, hj' with
    | 0, hj => simp at hj; subst hj; exact g0
    | 1, hj => simp at hj; subst hj; exact g1
    | 2, hj => simp at hj; subst hj; exact g2
    | 3, hj => simp at hj; subst hj; exact g3
    | 4, hj => simp at hj; subst hj; exact g4
    | 5, hj => simp at hj; subst hj; exact g5
    | 6, hj => simp at hj; subst hj; exact g6
    | 7, hj => simp at hj; subst hj; exact g7
    | j + 8, hj => simp at hj
end
section
variable {H : Type} {enc : TypeId × Value → H} {P : Program} {w : World} {base : Nat} {spare : Nat → Bool} {held : Bool}
theorem open_agg1 {r : Reach} {b0 : Nat} {t : TypeId} {f0 : Field} {v : Value} {d : DataW H} {p : List MemPlace} (hs : P.underlying t = some (.struct #[f0])) (hone : oneCellFields P #[f0] = true) (hC : P.cellsOf t = 1)
    (hv : Value.okWide P w r b0 t v) (h : DataW.Trod enc P w base spare held t v d p) :
    ∃ (v0 : Value) (y0 : DataW H × List MemPlace) (n : Nat), v = .agg #[v0] ∧ d = .agg [y0.1] ∧ DataW.trod enc P w base spare held n f0.type [v0] = some y0 := by
  obtain ⟨cs, rfl, hsz⟩ := okWide_struct hs hv
  obtain ⟨l⟩ := cs
  match l, hsz.trans hC with
  | [c0], _ =>
    obtain ⟨fuel, hf⟩ := h
    obtain ⟨xs, n, _, hx, _, hlen, hg⟩ := DataW.trod_struct hs hf
    obtain ⟨o0, k0⟩ := hone_of hone 0 f0 rfl
    match xs, hlen with
    | [y0], _ =>
      simp only [Prod.mk.injEq] at hx
      exact ⟨c0, y0, n, rfl, by simpa using hx.1, by simpa [Value.cells, o0, k0] using hg 0 f0 rfl⟩
theorem open_agg8 {r : Reach} {b0 : Nat} {t : TypeId} {f0 f1 f2 f3 f4 f5 f6 f7 : Field} {v : Value} {d : DataW H} {p : List MemPlace} (hs : P.underlying t = some (.struct #[f0, f1, f2, f3, f4, f5, f6, f7])) (hone : oneCellFields P #[f0, f1, f2, f3, f4, f5, f6, f7] = true) (hC : P.cellsOf t = 8)
    (hv : Value.okWide P w r b0 t v) (h : DataW.Trod enc P w base spare held t v d p) :
    ∃ (v0 v1 v2 v3 v4 v5 v6 v7 : Value) (y0 y1 y2 y3 y4 y5 y6 y7 : DataW H × List MemPlace) (n : Nat), v = .agg #[v0, v1, v2, v3, v4, v5, v6, v7] ∧ d = .agg [y0.1, y1.1, y2.1, y3.1, y4.1, y5.1, y6.1, y7.1] ∧
      DataW.trod enc P w base spare held n f0.type [v0] = some y0 ∧ DataW.trod enc P w base spare held n f1.type [v1] = some y1 ∧ DataW.trod enc P w base spare held n f2.type [v2] = some y2 ∧ DataW.trod enc P w base spare held n f3.type [v3] = some y3 ∧ DataW.trod enc P w base spare held n f4.type [v4] = some y4 ∧ DataW.trod enc P w base spare held n f5.type [v5] = some y5 ∧ DataW.trod enc P w base spare held n f6.type [v6] = some y6 ∧ DataW.trod enc P w base spare held n f7.type [v7] = some y7 := by
  obtain ⟨cs, rfl, hsz⟩ := okWide_struct hs hv
  obtain ⟨l⟩ := cs
  match l, hsz.trans hC with
  | [c0, c1, c2, c3, c4, c5, c6, c7], _ =>
    obtain ⟨fuel, hf⟩ := h
    obtain ⟨xs, n, _, hx, _, hlen, hg⟩ := DataW.trod_struct hs hf
    obtain ⟨o0, k0⟩ := hone_of hone 0 f0 rfl
    obtain ⟨o1, k1⟩ := hone_of hone 1 f1 rfl
    obtain ⟨o2, k2⟩ := hone_of hone 2 f2 rfl
    obtain ⟨o3, k3⟩ := hone_of hone 3 f3 rfl
    obtain ⟨o4, k4⟩ := hone_of hone 4 f4 rfl
    obtain ⟨o5, k5⟩ := hone_of hone 5 f5 rfl
    obtain ⟨o6, k6⟩ := hone_of hone 6 f6 rfl
    obtain ⟨o7, k7⟩ := hone_of hone 7 f7 rfl
    match xs, hlen with
    | [y0, y1, y2, y3, y4, y5, y6, y7], _ =>
      simp only [Prod.mk.injEq] at hx
      exact ⟨c0, c1, c2, c3, c4, c5, c6, c7, y0, y1, y2, y3, y4, y5, y6, y7, n, rfl, by simpa using hx.1, by simpa [Value.cells, o0, k0] using hg 0 f0 rfl, by simpa [Value.cells, o1, k1] using hg 1 f1 rfl, by simpa [Value.cells, o2, k2] using hg 2 f2 rfl, by simpa [Value.cells, o3, k3] using hg 3 f3 rfl, by simpa [Value.cells, o4, k4] using hg 4 f4 rfl, by simpa [Value.cells, o5, k5] using hg 5 f5 rfl, by simpa [Value.cells, o6, k6] using hg 6 f6 rfl, by simpa [Value.cells, o7, k7] using hg 7 f7 rfl⟩
end
/-- a program that came in. -/
theorem open_prog {H : Type} {enc : TypeId × Value → H} {w : World} {b0 : Nat} {spare : Nat → Bool} {held : Bool} {v : Value} {d : DataW H} {p : List MemPlace} (hv : Value.okWide Tryd.prog w .any b0 24 v) (h : DataW.Trod enc Tryd.prog w 0 spare held 24 v d p)
    (hz : ∀ n ∈ d.weights Tryd.prog 24, n ≤ reachBytes) : ∃ A n c Fs, v = pv A n c ∧ PIs w A n Fs ∧ (∀ F ∈ Fs, FQ w F) ∧ n ≤ c ∧ c ≤ 9223372036854775807 := by
  obtain ⟨v0, y0, n, rfl, rfl, h0⟩ := open_agg1 Tryd.underlying24 (by kernel_rfl) (by kernel_rfl) hv h
  obtain ⟨A, m, c, L, rfl, h2, h3, h4, h5, h6⟩ := open_funcs h0 (fun k hk => hz k (by simpa [DataW.weights, Tryd.underlying24, DataW.weightsEach] using hk))
  exact ⟨A, m, c, L, rfl, ⟨h2, fun F hF => (h3 F hF).1, fun F hF => (h3 F hF).2.1, by omega⟩, h3, h5, h6⟩
/-- a function that came in. -/
theorem open_func {H : Type} {enc : TypeId × Value → H} {w : World} {b0 : Nat} {spare : Nat → Bool} {held : Bool} {v : Value} {d : DataW H} {p : List MemPlace} (hv : Value.okWide Tryd.prog w .any b0 36 v) (h : DataW.Trod enc Tryd.prog w 0 spare held 36 v d p)
    (hz : ∀ n ∈ d.weights Tryd.prog 36, n ≤ reachBytes) : ∃ F : Fn, v = F.hd.v ∧ FQ w F := by
  obtain ⟨v0, v1, v2, v3, v4, v5, v6, v7, y0, y1, y2, y3, y4, y5, y6, y7, n, rfl, rfl, h0, h1, h2, h3, h4, h5, h6, h7⟩ := open_agg8 Tryd.underlying36 (by kernel_rfl) (by kernel_rfl) hv h
  have hw : ∀ k, (k ∈ y4.1.weights Tryd.prog 31 ∨ k ∈ y5.1.weights Tryd.prog 32 ∨ k ∈ y6.1.weights Tryd.prog 33 ∨ k ∈ y7.1.weights Tryd.prog 34) → k ≤ reachBytes := by
    intro k hk
    apply hz k
    simp only [DataW.weights, Tryd.underlying36]
    simp only [List.map_cons, List.map_nil, DataW.weightsEach, List.append_nil, List.mem_append]
    rcases hk with hk | hk | hk | hk
    · exact .inr (.inr (.inr (.inr (.inl hk))))
    · exact .inr (.inr (.inr (.inr (.inr (.inl hk)))))
    · exact .inr (.inr (.inr (.inr (.inr (.inr (.inl hk))))))
    · exact .inr (.inr (.inr (.inr (.inr (.inr (.inr hk))))))
  obtain ⟨F, hF, hq⟩ := func_of h0 h1 h2 h3 h4 h5 h6 h7 (fun k hk => hw k (.inl hk)) (fun k hk => hw k (.inr (.inl hk))) (fun k hk => hw k (.inr (.inr (.inl hk)))) (fun k hk => hw k (.inr (.inr (.inr hk))))
  refine ⟨F, ?_, hq⟩
  show Value.agg [v0, v1, v2, v3, v4, v5, v6, v7].toArray = _
  rw [hF]; rfl
end Go.Proofs.YteagkdmefmpokaaDoor
