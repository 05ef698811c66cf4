/- Caches: Clone and DeleteFunc walked. -/
import Derived.Test.YtnljofhpofeppaaCd
namespace Go.Proofs.Ytnljofhpofeppaa.Cz
open Go.RowKit Go
set_option linter.unusedVariables false
set_option linter.unusedSimpArgs false
theorem info26 : (Try.prog.info? 39).map (fun i => (i.zero, i.size, i.bytes)) = some (some (.agg #[.int .i64 0, .int .i64 0, .int .i64 0, .int .i64 0]), 4, 32) := by kernel_rfl
theorem own_below {w w' : World} {base : Nat} {e : TypeId} {s : Nat} {x : Value} {n : Nat} {xs : List Value} (h : Below w.heap.size w w') (ho : w.ownsRow base e s x n xs) : w'.ownsRow base e s x n xs := by
  have hlt := ho.lt
  obtain ⟨h3, h4⟩ := ho
  refine ⟨h3, ?_⟩
  rcases h4 with h4 | ⟨g, cap, cur, e1, e2, e3, e4⟩
  · exact .inl h4
  · exact .inr ⟨g, cap, cur, e1, e2, by rw [h.block g (hlt g (by rw [e1]; rfl)).2]; exact e3, e4⟩
theorem own_base {w : World} {base base' : Nat} {e : TypeId} {s : Nat} {x : Value} {n : Nat} {xs : List Value} (hb : base' ≤ base) (ho : w.ownsRow base e s x n xs) : w.ownsRow base' e s x n xs := by
  obtain ⟨h3, h4⟩ := ho
  refine ⟨h3, ?_⟩
  rcases h4 with h4 | ⟨g, cap, cur, e1, e2, e3, e4⟩
  · exact .inl h4
  · exact .inr ⟨g, cap, cur, e1, by omega, e3, e4⟩
theorem own_made0 (w : World) (e : TypeId) (s : Nat) : (w.alloc (.cells #[] e)).ownsRow w.heap.size e s (.slice (some ⟨w.heap.size, 0, none⟩) 0 0) 0 [] :=
  ⟨by simp, .inr ⟨w.heap.size, 0, #[], rfl, Nat.le_refl _, heap_alloc_new w _, Nat.le_refl _, by unfold maxLen; omega, by simp, by simp⟩⟩
set_option maxRecDepth 100000 in
theorem clone_calls (w : World) (A : Option Addr) (m c : Nat) (L : List En) (hr : Reads w w.heap.size 4 A m (ef L)) (hm : m * 32 ≤ 140737488351232) :
    Calls Try.prog 20 #[.slice A m c] w fun r w' => ∃ v, r = .returned v ∧ w'.ownsRow w.heap.size 39 4 v m (ef L) ∧ Below w.heap.size w w' := by
  obtain ⟨i26, hi, hz0, hz1, hz2⟩ := info_parts info26
  have hl := reads_len hr
  cases A with
  | none =>
    have hm0 : m = 0 := by
      rcases Nat.eq_zero_or_pos m with h | h
      · exact h
      · obtain ⟨ad, h1, _⟩ := hr.2 h
        cases h1
    subst hm0
    have hL : L = [] := List.eq_nil_of_length_eq_zero hl
    subst hL
    have hnil := fun w => Lib.run_eql_slice_nil (P := Try.prog) w 34 39 none 0 c 0 0 Try.underlying34
    clear hr hl
    go_enter Try.func20, Try.ntmps20
    go_wp2
    go_ret
    exact ⟨_, rfl, World.ownsRow_nil _ _ _ _, Below.refl _ _⟩
  | some ad =>
    have hnil := fun w => Lib.run_eql_slice_nil (P := Try.prog) w 34 39 (some ad) m c 0 0 Try.underlying34
    have hr2 := Lib.hid (hr.below ((Below.refl _ w).alloc (Nat.le_refl _) (.cells #[] 39)))
    have O1 := Lib.hid (own_made0 w 39 4)
    have B1 := Lib.hid ((Below.refl w.heap.size w).alloc (Nat.le_refl _) (.cells #[] 39))
    have H1 := Lib.hid (ef_one L)
    clear hr hl
    go_enter Try.func20, Try.ntmps20
    go_wp2_with (first | (at_builtin; refine wpList_append_any _ rfl (.tmp 5) (.tmp 6) 34 rfl w.heap.size 39 i26 _ 4 32 Try.underlying34 hi hz0 hz1 hz2 rfl (by decide) _ _ _ rfl O1.out w.heap.size _ m c (ef L) rfl hr2.out H1.out (by unfold maxLen; omega) (by omega) B1.out.size ?_; intro v1 w1 hown hgrow hat))
    go_ret
    refine ⟨_, rfl, by simpa using hown, B1.out.grown hgrow B1.out.size (fun k hk => (O1.out.lt k hk).1)⟩
theorem ef_set {M : List En} {i : Nat} (h : i < M.length) (e : En) : ef (M.set i e) = ((((ef M).set (i * 4) (.int .i64 e.s)).set (i * 4 + 1) (.int .i64 e.h)).set (i * 4 + 2) (.int .i64 e.o)).set (i * 4 + 3) (.int .i64 e.c) := by
  induction M generalizing i with
  | nil => exact absurd h (by simp)
  | cons y M ih => cases i with
    | zero => rfl
    | succ i =>
      simp only [List.set_cons_succ, ef]
      rw [ih (by simpa using h), show (i + 1) * 4 = i * 4 + 1 + 1 + 1 + 1 by omega, show i * 4 + 1 + 1 + 1 + 1 + 1 = (i * 4 + 1) + 1 + 1 + 1 + 1 by omega, show i * 4 + 1 + 1 + 1 + 1 + 2 = (i * 4 + 2) + 1 + 1 + 1 + 1 by omega, show i * 4 + 1 + 1 + 1 + 1 + 3 = (i * 4 + 3) + 1 + 1 + 1 + 1 by omega]
      rfl
theorem ef_take (M : List En) (i : Nat) : ef (M.take i) = (ef M).take (i * 4) := by
  induction M generalizing i with
  | nil => simp [ef]
  | cons y M ih => cases i with
    | zero => simp [ef]
    | succ i => rw [show (i + 1) * 4 = i * 4 + 1 + 1 + 1 + 1 by omega]; simp only [List.take_succ_cons, ef, ih]
/-- a row, shorter. -/
theorem own_take {w : World} {base g n cap : Nat} {M : List En} (h : w.ownsRow base 39 4 (.slice (some ⟨g, 0, none⟩) n cap) n (ef M)) {i : Nat} (hi : i ≤ n) : w.ownsRow base 39 4 (.slice (some ⟨g, 0, none⟩) i cap) i (ef (M.take i)) := by
  obtain ⟨h1, h2⟩ := h
  rw [ef_length] at h1
  refine ⟨by rw [ef_length, List.length_take]; have : min i M.length = i := by omega
             rw [this], ?_⟩
  rcases h2 with ⟨h0, _⟩ | ⟨g', cap', cur, hv, hg, hh, hn, hcap, hsz, htake⟩
  · cases h0
  · cases hv
    refine .inr ⟨g, cap, cur, rfl, hg, hh, by omega, hcap, hsz, ?_⟩
    rw [ef_take, ← htake, List.take_take, Nat.min_eq_left (by omega)]
theorem own_past {w : World} {base e s g n cap : Nat} {xs : List Value} (h : w.ownsRow base e s (.slice (some ⟨g, 0, none⟩) n cap) n xs) {j : Nat} (hj : n * s ≤ j) (u : Value) : (w.setCell ⟨g, j, none⟩ u).ownsRow base e s (.slice (some ⟨g, 0, none⟩) n cap) n xs := by
  have h2 := (h.stored j u).1
  rwa [List.set_eq_of_length_le (by rw [h.1]; exact hj)] at h2
theorem own_pasts {base e s g n cap : Nat} {xs : List Value} (us : List Value) : ∀ {w : World} {j : Nat}, w.ownsRow base e s (.slice (some ⟨g, 0, none⟩) n cap) n xs → n * s ≤ j → (w.setCells g j us).ownsRow base e s (.slice (some ⟨g, 0, none⟩) n cap) n xs := by
  induction us with
  | nil => intro w j h _; exact h
  | cons u us ih => intro w j h hj; exact ih (own_past h hj u) (by omega)
theorem below_sets {B : Nat} {a : World} {g : Nat} (us : List Value) : ∀ {w : World} {j : Nat}, Below B a w → B ≤ g → Below B a (w.setCells g j us) := by
  induction us with
  | nil => intro w j h _; exact h
  | cons u us ih => intro w j h hj; exact ih (h.setCell (p := ⟨g, j, none⟩) hj u) hj
theorem run_clear_en (w : World) (ty : TypeId) (b o n c : Nat) (hn : 0 < n) (hc : ∀ j, j < n * 4 → (w.cell? ⟨b, o + j, none⟩).isSome = true) (hf : ∀ j, j < n * 4 → w.frozen? ⟨b, o + j, none⟩ = false) :
    (Builtin.clear_ #[34] ty #[.slice (some ⟨b, o, none⟩) n c]).run Try.prog w = .ok (.tuple #[]) (w.setCells b o (List.replicate (n * 4) (.int .i64 0))) := by
  obtain ⟨i26, hi, hz0, hz1, hz2⟩ := info_parts info26
  have hv : ∀ w, (zeroValue 39).run Try.prog w = .ok (.agg #[.int .i64 0, .int .i64 0, .int .i64 0, .int .i64 0]) w := fun w => by kernel_rfl
  have hzc : (Builtin.zeroCells (Value.cells (.agg #[.int .i64 0, .int .i64 0, .int .i64 0, .int .i64 0])) n).toList = List.replicate (n * 4) (.int .i64 0) := by
    simp only [Value.cells, Builtin.zeroCells]
    apply List.ext_getElem
    · simp
    · intro i h1 h2
      have : i % 4 < 4 := Nat.mod_lt _ (by omega)
      simp only [List.size_toArray, List.length_cons, List.length_nil, Array.toList_map, List.getElem_map, List.getElem_replicate, Array.toList_range, List.getElem_range]
      match i % 4, this with
      | 0, _ => rfl
      | 1, _ => rfl
      | 2, _ => rfl
      | 3, _ => rfl
  have hst := run_storeCells_cells (P := Try.prog) b o (List.replicate (n * 4) (.int .i64 0)) 0 w (by simpa using hc) (by simpa using hf) (by intro v hv'; rw [List.eq_of_mem_replicate hv']; rfl)
  simp only [Nat.add_zero] at hst
  obtain ⟨m, rfl⟩ : ∃ m, n = m + 1 := ⟨n - 1, by omega⟩
  simp [Builtin.clear_, run_underlying Try.underlying34, hv, hzc, hst]
theorem idxF_spec (p : En → Bool) (L : List En) : ∀ k : Nat, (idxF p L k = -1 ∧ L.filter (fun x => !p x) = L) ∨ ∃ i, i < L.length ∧ idxF p L k = ((k + i : Nat) : Int) ∧ (L.take (i + 1)).filter (fun x => !p x) = L.take i := by
  induction L with
  | nil => intro k; exact .inl ⟨rfl, rfl⟩
  | cons e L ih =>
    intro k
    unfold idxF
    cases hp : p e
    · rcases ih (k + 1) with ⟨h1, h2⟩ | ⟨i, h1, h2, h3⟩
      · refine .inl ⟨by simpa using h1, by simp [List.filter_cons, hp, h2]⟩
      · refine .inr ⟨i + 1, by simpa using h1, ?_, by simp [List.filter_cons, hp, h3]⟩
        simp only [Bool.false_eq_true, if_false]
        rw [h2]; congr 1; omega
    · exact .inr ⟨0, by simp, by simp, by simp [List.filter_cons, hp]⟩
structure Four4 (w : World) (g o : Nat) (e : En) : Prop where
  c0 : w.cell? ⟨g, o, none⟩ = some (.int .i64 e.s)
  c1 : w.cell? ⟨g, o + 1, none⟩ = some (.int .i64 e.h)
  c2 : w.cell? ⟨g, o + 2, none⟩ = some (.int .i64 e.o)
  c3 : w.cell? ⟨g, o + 3, none⟩ = some (.int .i64 e.c)
  f0 : w.frozen? ⟨g, o, none⟩ = false
  f1 : w.frozen? ⟨g, o + 1, none⟩ = false
  f2 : w.frozen? ⟨g, o + 2, none⟩ = false
  f3 : w.frozen? ⟨g, o + 3, none⟩ = false
/-- so far in striking out: i are kept, j were looked at. -/
structure Strike (p : En → Bool) (L M : List En) (i j : Nat) : Prop where
  len : M.length = L.length
  lt : i < j
  le : j ≤ L.length
  kept : M.take i = (L.take j).filter (fun x => !p x)
  rest : M.drop j = L.drop j
theorem strike_at {p : En → Bool} {L M : List En} {i j : Nat} (s : Strike p L M i j) {e : En} (h : M[j]? = some e) : L[j]? = some e := by
  have := congrArg (fun l => l[0]?) s.rest
  simp only [List.getElem?_drop, Nat.add_zero] at this
  rw [← this]; exact h
theorem strike_out {p : En → Bool} {L M : List En} {i j : Nat} (s : Strike p L M i j) {e : En} (h : M[j]? = some e) (hp : p e = true) : Strike p L M i (j + 1) := by
  have hL := strike_at s h
  obtain ⟨h1, h2⟩ := List.getElem?_eq_some_iff.1 hL
  refine ⟨s.len, by have := s.lt; omega, by omega, ?_, ?_⟩
  · rw [List.take_succ_eq_append_getElem h1, List.filter_append, s.kept, h2]
    simp [List.filter_cons, hp]
  · rw [← List.drop_drop, ← List.drop_drop, s.rest]
theorem strike_keep {p : En → Bool} {L M : List En} {i j : Nat} (s : Strike p L M i j) {e : En} (h : M[j]? = some e) (hp : p e = false) : Strike p L (M.set i e) (i + 1) (j + 1) := by
  have hL := strike_at s h
  have hlt := s.lt
  have hlen := s.len
  obtain ⟨h1, h2⟩ := List.getElem?_eq_some_iff.1 hL
  refine ⟨by simp [hlen], by omega, by omega, ?_, ?_⟩
  · have hi : i < (M.set i e).length := by simp; omega
    rw [List.take_succ_eq_append_getElem hi, List.take_set_of_le (Nat.le_refl i), s.kept, List.getElem_set_self, List.take_succ_eq_append_getElem h1, List.filter_append, h2]
    simp [List.filter_cons, hp]
  · rw [List.drop_set_of_lt (by omega), ← List.drop_drop, ← List.drop_drop, s.rest]
theorem own_store4 {w : World} {base g n cap : Nat} {M : List En} (h : w.ownsRow base 39 4 (.slice (some ⟨g, 0, none⟩) n cap) n (ef M)) {i : Nat} (hi : i < n) (e : En) :
    ((((w.setCell ⟨g, i * 4, none⟩ (.int .i64 e.s)).setCell ⟨g, i * 4 + 1, none⟩ (.int .i64 e.h)).setCell ⟨g, i * 4 + 2, none⟩ (.int .i64 e.o)).setCell ⟨g, i * 4 + 3, none⟩ (.int .i64 e.c)).ownsRow base 39 4 (.slice (some ⟨g, 0, none⟩) n cap) n (ef (M.set i e)) := by
  have hl := h.1
  rw [ef_length] at hl
  rw [ef_set (by omega)]
  exact (((((h.stored (i * 4) _).1.stored (i * 4 + 1) _).1.stored (i * 4 + 2) _).1).stored (i * 4 + 3) _).1
theorem own_at {w : World} {base g n cap : Nat} {M : List En} (h : w.ownsRow base 39 4 (.slice (some ⟨g, 0, none⟩) n cap) n (ef M)) {i : Nat} {e : En} (hx : M[i]? = some e) : Four4 w g (i * 4) e := by
  have hl := h.1
  rw [ef_length] at hl
  have hi := (List.getElem?_eq_some_iff.1 hx).1
  obtain ⟨g1, g2, g3, g4⟩ := ef_get hx
  exact ⟨(h.cellAt _ (by omega)).trans g1, (h.cellAt _ (by omega)).trans g2, (h.cellAt _ (by omega)).trans g3, (h.cellAt _ (by omega)).trans g4, h.frozenAt _, h.frozenAt _, h.frozenAt _, h.frozenAt _⟩
set_option maxRecDepth 100000 in
set_option maxHeartbeats 4000000 in
theorem delete_calls (W0 : World) (ge gv : Nat) (p : En → Bool) (HD : Dels W0 ge gv p) (w : World) (hb : Below W0.heap.size W0 w) (v : Value) (m : Nat) (L : List En) (ho : w.ownsRow W0.heap.size 39 4 v m (ef L)) (hm : m ≤ 140737488351232) :
    Calls Try.prog 19 #[v, delV ge gv] w fun r w' => ∃ v' m', r = .returned v' ∧ w'.ownsRow W0.heap.size 39 4 v' m' (ef (L.filter (fun x => !p x))) ∧ m' ≤ m ∧ Below W0.heap.size W0 w' := by
  have hl : L.length = m := by have := ho.1; rw [ef_length] at this; omega
  have hform : ∃ A c, v = .slice A m c ∧ (0 < m → ∃ g, A = some ⟨g, 0, none⟩ ∧ W0.heap.size ≤ g) := by
    rcases ho.2 with ⟨h1, h2⟩ | ⟨g, cap, cur, h1, h2, _⟩
    · exact ⟨none, 0, by rw [h1, h2], fun h => by omega⟩
    · exact ⟨_, _, h1, fun _ => ⟨g, rfl, h2⟩⟩
  obtain ⟨A, c, rfl, hA⟩ := hform
  have IC := index_calls W0 ge gv p HD w hb A m c L (Reads.of_own ho) hm
  have HDh := Lib.hid HD
  have HB := Lib.hid hb
  have HO := Lib.hid ho
  have HL := Lib.hid hl
  rcases idxF_spec p L 0 with ⟨h1, h2⟩ | ⟨i, h1, h2, h3⟩
  · rw [h1] at IC
    rw [h2]
    have IC := Lib.hid IC
    unfold delV at *
    clear HD hb hl h1 h2 ho
    go_enter Try.func19, Try.ntmps19
    go_wp2_with (first | (go_at_call 29; (with_reducible refine IC.out.mono ?_); rintro r w1 ⟨rfl, hb1⟩))
    go_ret
    exact ⟨_, _, rfl, own_below hb1 HO.out, Nat.le_refl _, HB.out.trans (hb1.mono HB.out.size)⟩
  · rw [h2, Nat.zero_add] at IC
    obtain ⟨g, rfl, hg⟩ := hA (by omega)
    have hs0 : Strike p L L i (i + 1) := ⟨rfl, by omega, by omega, h3.symm, rfl⟩
    have hlt : (i : Int) < m := by omega
    have hlt2 : i < m := by omega
    have IC := Lib.hid IC
    have HS := Lib.hid hs0
    have hne : ((i : Int) == -1) = false := beq_eq_false_iff_ne.2 (by omega)
    unfold delV at *
    clear HD hb hl h1 h2 h3 ho hs0
    go_enter Try.func19, Try.ntmps19
    go_wp2_with (first | (go_at_call 29; (with_reducible refine IC.out.mono ?_); rintro r w1 ⟨rfl, hb1⟩))
    have H1 := Lib.hid (show w1.ownsRow W0.heap.size 39 4 (.slice (some ⟨g, 0, none⟩) m c) m (ef L) ∧ Below W0.heap.size W0 w1 from ⟨own_below hb1 HO.out, HB.out.trans (hb1.mono HB.out.size)⟩)
    clear hb1
    go_loopg [5, 6] (m - (i + 1)) (fun f iv jv wr => ∃ (a b : Nat) (M : List En), iv = .int .i64 a ∧ jv = .int .i64 b ∧ b + f = m ∧ Strike p L M a b ∧ wr.ownsRow W0.heap.size 39 4 (.slice (some ⟨g, 0, none⟩) m c) m (ef M) ∧ Below W0.heap.size W0 wr)
    case atStart => exact ⟨i, i + 1, L, rfl, by simp, by omega, HS.out, H1.out⟩
    case round =>
      obtain ⟨a, b, M, rfl, rfl, hf, S, OW, BW⟩ := hrel
      have hab := S.lt
      have hlen := S.len
      have hLm := HL.out
      by_cases hk : b < m
      · obtain ⟨e, hx⟩ : ∃ e, M[b]? = some e := ⟨_, List.getElem?_eq_getElem (by omega)⟩
        obtain ⟨e2, hx2⟩ : ∃ e, M[a]? = some e := ⟨_, List.getElem?_eq_getElem (by omega)⟩
        obtain ⟨c0, c1, c2, c3, _, _, _, _⟩ := own_at OW hx
        have hk' : (b : Int) < m := by omega
        have hka : (a : Int) < m := by omega
        have hba : Below wr.heap.size wr (wr.alloc (.cells #[.int .i64 e.s, .int .i64 e.h, .int .i64 e.o, .int .i64 e.c] 39)) := (Below.refl _ _).alloc (Nat.le_refl _) _
        have K := HDh.out _ e (BW.trans (hba.mono BW.size))
        unfold En.v at K
        have HEA := Lib.hid (Blk.new wr 39 e.b)
        unfold En.b at HEA
        have OWA := Lib.hid (own_below hba OW)
        have BWA := Lib.hid (BW.trans (hba.mono BW.size))
        have HX2 := Lib.hid hx2
        obtain ⟨f', hf'⟩ : ∃ f', gk = f' + 1 := ⟨gk - 1, by omega⟩
        have HF' := Lib.hid hf'
        have HF := Lib.hid hf
        have hg' := Lib.hid hg
        cases hp : p e
        · rw [hp] at K
          have S2 := Lib.hid (strike_keep S hx hp)
          replace K := Lib.hid K
          clear hx hx2 hf hf' hlen hLm S OW BW hba hp hab hg
          go_wp2_with (first | (go_at_call 21; (with_reducible refine K.out.mono ?_); rintro r w1 ⟨rfl, hb1⟩; have OW1 := own_below hb1 OWA.out; obtain ⟨s0, s1, s2, s3, y0, y1, y2, y3⟩ := own_at OW1 HX2.out; obtain ⟨x0, x1, x2, x3, _, _, _, _⟩ := (HEA.out.below hb1 HEA.out.lt).four; have HB1 := Lib.hid (BWA.out.trans (hb1.mono BWA.out.size)); replace OW1 := Lib.hid OW1; clear hb1))
          go_roundg f'
          case measure => have := HF'.out; omega
          case rel => exact ⟨a + 1, b + 1, _, by simp, by simp, by have := HF'.out; have := HF.out; omega, S2.out, own_store4 OW1.out (by omega) e, by
            have hfin := HB1.out
            repeat (first | exact hfin | refine Below.setCell ?_ (by show W0.heap.size ≤ g; exact hg'.out) _)⟩
        · rw [hp] at K
          have S2 := Lib.hid (strike_out S hx hp)
          replace K := Lib.hid K
          clear hx hx2 hf hf' hlen hLm S OW BW hba hp hab hg
          go_wp2_with (first | (go_at_call 21; (with_reducible refine K.out.mono ?_); rintro r w1 ⟨rfl, hb1⟩; have OW1 := own_below hb1 OWA.out; have HB1 := Lib.hid (BWA.out.trans (hb1.mono BWA.out.size)); replace OW1 := Lib.hid OW1; clear hb1))
          go_roundg f'
          case measure => have := HF'.out; omega
          case rel => exact ⟨a, b + 1, _, by simp, by simp, by have := HF'.out; have := HF.out; omega, S2.out, OW1.out, HB1.out⟩
      · have e : b = m := by have := S.le; omega
        subst e
        have hk' : ¬ (b : Int) < b := by omega
        have hka : a < b := hab
        have hcl := fun ty => run_clear_en wr ty g (a * 4) (b - a) (c - a) (by omega) (fun j hj => by rw [OW.cellAt _ (by omega)]; have := OW.1; rw [List.getElem?_eq_getElem (by omega)]; rfl) (fun j hj => OW.frozenAt _)
        have hbc : b ≤ c := by
          rcases OW.2 with ⟨h1, h2⟩ | ⟨_, _, _, h1, _, _, h2, _⟩
          · cases h1
          · injection h1 with _ _ h3; omega
        have OWh := Lib.hid OW
        have BWh := Lib.hid BW
        have Sh := Lib.hid S
        clear OW BW S hlen hLm hk
        go_wp2
        go_ret
        have hb : (L.take b).filter (fun x => !p x) = L.filter (fun x => !p x) := by rw [List.take_of_length_le (by have := HL.out; omega)]
        refine ⟨_, rfl, a, ?_, by omega, below_sets _ BWh.out hg⟩
        rw [← hb, ← Sh.out.kept]
        exact own_pasts _ (own_take OWh.out (by omega)) (Nat.le_refl _)
end Go.Proofs.Ytnljofhpofeppaa.Cz
