/- Caches: Arith, the document's Arith, Call; the arguments of the law opened. -/
import Derived.Test.YtnljofhpofeppaaCm
import Derived.Test.YtnljofhpofeppaaRows
import Derived.ProofKit
import Derived.OpenShut
import Derived.JoinedOf
import Derived.Carry
import Derived.SizedLaws
namespace Go.Proofs.Ytnljofhpofeppaa
open Go.ChangeShapes Go.WideShapes Go.ChangeAt Go.RowKit Go.Deep Go Fp Cz
set_option linter.unusedVariables false
set_option linter.unusedSimpArgs false
/-- the state behind. -/
def arith (s a b : Int) : Int := min (max (max s (knd a)) (knd b)) 3
theorem arith_lo {s a b : Int} (h : 0 ≤ s) (h3 : s ≤ 3) : s ≤ arith s a b ∧ arith s a b ≤ 3 := by
  obtain ⟨h1, h2⟩ := knd_bd a
  obtain ⟨g1, g2⟩ := knd_bd b
  unfold arith
  omega
theorem grt3 {s a b : Int} (h : 0 ≤ s) : grt [s, a, b] 0 = max (max s a) b := by
  simp only [grt]; split <;> split <;> split <;> omega
theorem cells3 (w : World) (x y z : Int) : ∀ i q, [x, y, z][i]? = some q → (w.alloc (.cells #[.int .i64 x, .int .i64 y, .int .i64 z] 3)).cell? ⟨w.heap.size, i, none⟩ = some (.int .i64 q) := by
  intro i q hq
  rw [(Blk.new w 3 _).cell i]
  match i, hq with
  | 0, hq => simpa using hq
  | 1, hq => simpa using hq
  | 2, hq => simpa using hq
  | i + 3, hq => simp at hq
theorem below_via0 {w w1 w2 : World} (h : Below w.heap.size w w1) (k : Below w1.heap.size w1 w2) : Below w.heap.size w w2 := h.trans (k.mono h.size)
theorem below_alloc0 {w w1 : World} (h : Below w.heap.size w w1) (o : Obj) : Below w.heap.size w (w1.alloc o) := h.alloc h.size o
set_option maxRecDepth 100000 in
set_option maxHeartbeats 4000000 in
theorem arith_calls (s a b : Int) (w : World) (ha : U64 a) (hb : U64 b) (hs : 0 ≤ s) : Calls Try.prog 4 #[.int .i64 s, .int .u64 a, .int .u64 b] w fun e w' => e = .returned (.int .i64 (arith s a b)) ∧ Below w.heap.size w w' := by
  have K1 := fun w => ckind_calls a w ha
  have K2 := fun w => ckind_calls b w hb
  have KG := fun (w : World) (g c : Nat) => greatest_calls w g 3 c [s, knd a, knd b] rfl (by omega)
  rw [grt3 hs] at KG
  unfold arith
  generalize knd a = x at *
  generalize knd b = y at *
  generalize max (max s x) y = z at *
  replace K1 := Lib.hid K1
  replace K2 := Lib.hid K2
  replace KG := Lib.hid KG
  clear ha hb
  go_enter Try.func4, Try.ntmps4
  go_wp2_with (first | (go_at_call 9; (with_reducible refine (K1.out _).mono ?_); rintro e w1 ⟨rfl, hb1⟩) | (go_at_call 9; (with_reducible refine (K2.out _).mono ?_); rintro e w2 ⟨rfl, hb2⟩) | (go_at_call 8; (with_reducible refine (KG.out _ _ _ (cells3 _ _ _ _)).mono ?_); rintro e w3 ⟨rfl, rfl⟩))
  go_ret
  exact ⟨rfl, below_alloc0 (below_via0 hb1 hb2) _⟩
set_option maxRecDepth 100000 in
set_option maxHeartbeats 4000000 in
theorem rarith_calls (s a b : Int) (w : World) (ha : U64 a) (hb : U64 b) : Calls Try.prog 5 #[.int .i64 s, .int .u64 a, .int .u64 b] w fun e w' => e = .returned (.int .i64 (arith s a b)) ∧ w = w' := by
  have K1 := fun w => crank_calls a w ha
  have K2 := fun w => crank_calls b w hb
  unfold arith
  generalize knd a = x at *
  generalize knd b = y at *
  replace K1 := Lib.hid K1
  replace K2 := Lib.hid K2
  clear ha hb
  go_enter Try.func5, Try.ntmps5
  go_wp2_with (first | (go_at_call 10; (with_reducible refine (K1.out _).mono ?_); rintro e w' ⟨rfl, hw⟩; rw [← hw]; clear hw w') | (go_at_call 10; (with_reducible refine (K2.out _).mono ?_); rintro e w' ⟨rfl, hw⟩; rw [← hw]; clear hw w'))
  all_goals
    go_ret
    refine ⟨congrArg (fun z => Ending.returned (Value.int .i64 z)) ?_, rfl⟩
    first | omega | (split at * <;> omega)
/-- the state of calls, and the callee that is hoped for. -/
def called (st tt w : Int) : Int × Int := if st = 0 then (1, w) else if st = 1 ∧ tt = w then (1, tt) else (2, 18445336698825998336)
set_option maxRecDepth 100000 in
theorem call_calls (st tt x : Int) (w : World) : Calls Try.prog 6 #[.int .i64 st, .int .u64 tt, .int .u64 x] w fun e w' => e = .returned (.tuple #[.int .i64 (called st tt x).1, .int .u64 (called st tt x).2]) ∧ w = w' := by
  unfold called
  by_cases h0 : st = 0
  · subst h0
    rw [if_pos rfl]
    go_enter Try.func6, Try.ntmps6
    go_wp2
    refine bodyPost_ret (v := .tuple #[.int .i64 1, .int .u64 x]) (by simp [results, Try.results6, go_sem]) rfl ⟨rfl, rfl⟩
  · have b0 : (st == 0) = false := beq_eq_false_iff_ne.2 h0
    rw [if_neg h0]
    by_cases h1 : st = 1
    · subst h1
      by_cases h2 : tt = x
      · subst h2
        have b2 : (tt == tt) = true := beq_self_eq_true _
        rw [if_pos ⟨rfl, rfl⟩]
        go_enter Try.func6, Try.ntmps6
        go_wp2
        refine bodyPost_ret (v := .tuple #[.int .i64 1, .int .u64 tt]) (by simp [results, Try.results6, go_sem]) rfl ⟨rfl, rfl⟩
      · have b2 : (tt == x) = false := beq_eq_false_iff_ne.2 h2
        rw [if_neg (by simp [h2])]
        clear h2
        go_enter Try.func6, Try.ntmps6
        go_wp2
        refine bodyPost_ret (v := .tuple #[.int .i64 2, .int .u64 18445336698825998336]) (by simp [results, Try.results6, go_sem]) rfl ⟨rfl, rfl⟩
    · have b1 : (st == 1) = false := beq_eq_false_iff_ne.2 h1
      rw [if_neg (by simp [h1])]
      clear h0 h1
      go_enter Try.func6, Try.ntmps6
      go_wp2
      refine bodyPost_ret (v := .tuple #[.int .i64 2, .int .u64 18445336698825998336]) (by simp [results, Try.results6, go_sem]) rfl ⟨rfl, rfl⟩
/-- pairs of words, as they lie. -/
def wp2s : List (Int × Int) → List Value
  | [] => []
  | e :: L => .int .u64 e.1 :: .int .u64 e.2 :: wp2s L
theorem wp2s_length (L : List (Int × Int)) : (wp2s L).length = L.length * 2 := by
  induction L with
  | nil => rfl
  | cons x L ih => simp only [wp2s, List.length_cons, ih]; omega
theorem wp2s_append (L M : List (Int × Int)) : wp2s (L ++ M) = wp2s L ++ wp2s M := by
  induction L with
  | nil => rfl
  | cons x L ih => simp only [List.cons_append, wp2s, ih]
theorem wp2s_get {L : List (Int × Int)} {i : Nat} {e : Int × Int} (h : L[i]? = some e) : (wp2s L)[i * 2]? = some (.int .u64 e.1) ∧ (wp2s L)[i * 2 + 1]? = some (.int .u64 e.2) := by
  induction L generalizing i with
  | nil => simp at h
  | cons x L ih =>
    cases i with
    | zero => simp at h; subst h; exact ⟨rfl, rfl⟩
    | succ i =>
      obtain ⟨h1, h2⟩ := ih (by simpa using h)
      rw [show (i + 1) * 2 = i * 2 + 1 + 1 by omega]
      exact ⟨h1, by rw [show i * 2 + 1 + 1 + 1 = (i * 2 + 1) + 1 + 1 by omega]; exact h2⟩
theorem reads_at2 {w : World} {B n : Nat} {A : Option Addr} {L : List (Int × Int)} (h : Reads w B 2 A n (wp2s L)) {i : Nat} {e : Int × Int} (hi : L[i]? = some e) : ∃ b off, A = some ⟨b, off, none⟩ ∧ b < B ∧ w.cell? ⟨b, off + i * 2, none⟩ = some (.int .u64 e.1) ∧ w.cell? ⟨b, off + i * 2 + 1, none⟩ = some (.int .u64 e.2) := by
  have hl := h.1
  rw [wp2s_length] at hl
  have hlt : i < L.length := (List.getElem?_eq_some_iff.1 hi).1
  obtain ⟨ad, rfl, hb, hc⟩ := h.2 (by omega)
  obtain ⟨g1, g2⟩ := wp2s_get hi
  obtain ⟨b, off, sp⟩ := ad
  have h0 : 0 < (wp2s L).length := by rw [wp2s_length]; omega
  have hsp : sp = none := by simpa [Addr.add] using World.cell?_spot (hc 0 _ (List.getElem?_eq_getElem h0))
  subst hsp
  exact ⟨b, off, rfl, hb, add_at b off _ w (hc _ _ g1), by rw [Nat.add_assoc]; exact add_at b off _ w (hc _ _ g2)⟩
/-- words, as they lie. -/
def wds (l : List Int) : List Value := l.map (Value.int .u64)
theorem reads_wd {w : World} {B n : Nat} {A : Option Addr} {L : List Int} (h : Reads w B 1 A n (wds L)) {i : Nat} {x : Int} (hi : L[i]? = some x) : ∃ b off, A = some ⟨b, off, none⟩ ∧ b < B ∧ w.cell? ⟨b, off + i, none⟩ = some (.int .u64 x) := by
  have hl : L.length = n := by have := h.1; simpa [wds] using this
  have hlt : i < L.length := (List.getElem?_eq_some_iff.1 hi).1
  obtain ⟨ad, rfl, hb, hc⟩ := h.2 (by omega)
  obtain ⟨b, off, sp⟩ := ad
  have h0 : 0 < (wds L).length := by simp [wds]; omega
  have hsp : sp = none := by simpa [Addr.add] using World.cell?_spot (hc 0 _ (List.getElem?_eq_getElem h0))
  subst hsp
  exact ⟨b, off, rfl, hb, add_at b off i w (hc i _ (by simp [wds, hi]))⟩
theorem wf_u64c {a : Int} (h : (Lit.int .u64 a).wf = true) : U64 a := by
  simp [Lit.wf, IntKind.min, IntKind.max, IntKind.bits, IntKind.signed] at h; exact ⟨by omega, by omega⟩
theorem bytes25 : Try.prog.bytesOf 25 = 8 := by kernel_rfl
theorem bytes26a : Try.prog.bytesOf 26 = 16 := by kernel_rfl
theorem cells26a : Try.prog.cellsOf 26 = 2 := by kernel_rfl
theorem cells25a : Try.prog.cellsOf 25 = 1 := by kernel_rfl
theorem open_wds {H : Type} {enc : TypeId × Value → H} {w : World} {spare : Nat → Bool} {held : Bool} {fuel : Nat} {v : Value} {x : DataW H × List MemPlace} (h : DataW.trod enc Try.prog w 0 spare held fuel 23 [v] = some x)
    (hz : ∀ n ∈ x.1.weights Try.prog 23, n ≤ reachBytes) : ∃ A n c, ∃ l : List Int, v = .slice A n c ∧ Reads w w.heap.size 1 A n (wds l) ∧ n * 8 ≤ 140737488351232 := by
  rcases open_slice1 Try.underlying23 (by kernel_rfl) h with ⟨h1, h2⟩ | ⟨a, len, cap, m, n, V, D, Pl, hcs, hb, hlc, hcm, hm, hx, hi⟩
  · simp only [List.cons.injEq, and_true] at h1
    exact ⟨none, 0, 0, [], h1, Reads.none_, by omega⟩
  · simp only [List.cons.injEq, and_true] at hcs
    have hlm : len ≤ m := by rw [hm]; split <;> omega
    have hE : ∀ i, ∃ e : Int, i < len → w.cell? (a.add i) = some (.int .u64 e) := by
      intro i
      by_cases hil : i < len
      · obtain ⟨hc, ht⟩ := hi i (by omega)
        obtain ⟨z, hz, _⟩ := DataW.trod_int Try.underlying25 ht
        simp only [List.cons.injEq, and_true] at hz
        rw [hz] at hc
        exact ⟨z, fun _ => hc⟩
      · exact ⟨0, fun h => absurd h hil⟩
    obtain ⟨E, hE⟩ := Classical.axiomOfChoice hE
    refine ⟨some a, len, cap, (List.range len).map E, hcs, ⟨by simp [wds], fun hn => ⟨a, rfl, ?_, fun j u hj => ?_⟩⟩, ?_⟩
    · have h0 := hE 0 hn
      have := World.block_lt_of_cell? w _ h0
      rwa [block_of_add] at this
    · have hj' := List.getElem?_eq_some_iff.1 hj
      obtain ⟨h1, h2⟩ := hj'
      simp [wds] at h1 h2
      rw [← h2]
      exact hE j h1
    · rw [hx] at hz
      have := hz ((len + (m - len)) * 8) (by simp [DataW.weights, Try.underlying23, bytes25])
      unfold reachBytes at this
      omega
theorem open_pairs {H : Type} {enc : TypeId × Value → H} {w : World} {spare : Nat → Bool} {held : Bool} {fuel : Nat} {v : Value} {x : DataW H × List MemPlace} (h : DataW.trod enc Try.prog w 0 spare held fuel 22 [v] = some x)
    (hz : ∀ n ∈ x.1.weights Try.prog 22, n ≤ reachBytes) : ∃ A n c, ∃ l : List (Int × Int), v = .slice A n c ∧ Reads w w.heap.size 2 A n (wp2s l) ∧ n * 16 ≤ 140737488351232 ∧ ∀ e ∈ l, U64 e.1 ∧ U64 e.2 := by
  rcases open_slice Try.underlying22 h with ⟨h1, h2⟩ | ⟨a, len, cap, m, n, D, Pl, hcs, hb, hlc, hcm, hm, hx, hi⟩
  · simp only [List.cons.injEq, and_true] at h1
    exact ⟨none, 0, 0, [], h1, Reads.none_, by omega, by simp⟩
  · simp only [List.cons.injEq, and_true] at hcs
    rw [cells26a] at hi
    have hlm : len ≤ m := by rw [hm]; split <;> omega
    have hE : ∀ i, ∃ e : Int × Int, (i < len → w.cell? (a.add (i * 2)) = some (.int .u64 e.1) ∧ w.cell? (a.add (i * 2 + 1)) = some (.int .u64 e.2)) ∧ U64 e.1 ∧ U64 e.2 := by
      intro i
      by_cases hil : i < len
      · obtain ⟨cs, hc, ht⟩ := hi i (by omega)
        obtain ⟨xs, n1, rfl, hx1, hlen, hn3, hel⟩ := DataW.trod_array Try.underlying26 ht
        obtain ⟨_, hcl, hat⟩ := World.cells?_some hc
        rw [cells25a] at hel
        match cs, hcl with
        | [c0, c1], _ =>
          have t0 := hel 0 (by omega)
          have t1 := hel 1 (by omega)
          rw [List.getElem?_eq_getElem (by omega)] at t0 t1
          simp at t0 t1
          obtain ⟨z0, g0, _, f0⟩ := DataW.trod_int Try.underlying25 t0
          obtain ⟨z1, g1, _, f1⟩ := DataW.trod_int Try.underlying25 t1
          simp only [List.cons.injEq, and_true] at g0 g1
          subst g0
          subst g1
          have e0 := hat 0 (by omega)
          have e1 := hat 1 (by omega)
          refine ⟨(z0, z1), fun _ => ⟨?_, ?_⟩, wf_u64c f0, wf_u64c f1⟩
          · rw [add_of_add] at e0; simpa using e0
          · rw [add_of_add] at e1; simpa using e1
      · exact ⟨(0, 0), fun h => absurd h hil, ⟨by omega, by omega⟩, ⟨by omega, by omega⟩⟩
    obtain ⟨E, hE⟩ := Classical.axiomOfChoice hE
    have hflat : ∀ (len' : Nat) (j : Nat) (u : Value), len' ≤ len → (wp2s ((List.range len').map E))[j]? = some u → w.cell? (a.add j) = some u := by
      intro len'
      induction len' with
      | zero => intro j u _ hj; simp [wp2s] at hj
      | succ k ih =>
        intro j u hk hj
        rw [List.range_succ, List.map_append, wp2s_append, List.map_singleton] at hj
        by_cases hjk : j < k * 2
        · rw [List.getElem?_append_left (by rw [wp2s_length]; simp; omega)] at hj
          exact ih j u (by omega) hj
        · rw [List.getElem?_append_right (by rw [wp2s_length]; simp; omega), wp2s_length] at hj
          simp only [List.length_map, List.length_range] at hj
          obtain ⟨⟨h0, h1⟩, _⟩ := (hE k).imp_left (· (by omega))
          have hd : j = k * 2 ∨ j = k * 2 + 1 := by
            have := (List.getElem?_eq_some_iff.1 hj).1
            simp [wp2s] at this
            omega
          rcases hd with rfl | rfl
          · simp [wp2s] at hj; subst hj; exact h0
          · rw [show k * 2 + 1 - k * 2 = 1 by omega] at hj; simp [wp2s] at hj; subst hj; exact h1
    refine ⟨some a, len, cap, (List.range len).map E, hcs, ⟨by rw [wp2s_length]; simp, fun hn => ⟨a, rfl, ?_, fun j u hj => hflat len j u (Nat.le_refl _) hj⟩⟩, ?_, ?_⟩
    · have h0 := ((hE 0).1 hn).1
      have := World.block_lt_of_cell? w _ h0
      rwa [block_of_add] at this
    · rw [hx] at hz
      have := hz ((len + (m - len)) * 16) (by simp [DataW.weights, Try.underlying22, bytes26a])
      unfold reachBytes at this
      omega
    · intro e he
      simp only [List.mem_map, List.mem_range] at he
      obtain ⟨i, _, rfl⟩ := he
      exact (hE i).2
end Go.Proofs.Ytnljofhpofeppaa
