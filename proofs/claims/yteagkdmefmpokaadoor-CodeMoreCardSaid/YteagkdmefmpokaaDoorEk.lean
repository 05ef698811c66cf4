/- Code: the starts again, each once, in order. -/
import Derived.Test.YteagkdmefmpokaaDoorEj
namespace Go.Proofs.YteagkdmefmpokaaDoor
open Go.RowKit Go
set_option linter.unusedVariables false
set_option linter.unusedSimpArgs false
/-- numbers in order, each once. -/
def Strict (l : List Int) : Prop := l.Pairwise (· < ·)
theorem strict_ext : ∀ {a b : List Int}, Strict a → Strict b → (∀ y, y ∈ a ↔ y ∈ b) → a = b := by
  intro a
  induction a with
  | nil =>
    intro b _ _ h
    cases b with
    | nil => rfl
    | cons y b => exact absurd ((h y).2 (by simp)) (by simp)
  | cons x a ih =>
    intro b ha hb h
    cases b with
    | nil => exact absurd ((h x).1 (by simp)) (by simp)
    | cons y b =>
      obtain ⟨ha1, ha2⟩ := List.pairwise_cons.1 ha
      obtain ⟨hb1, hb2⟩ := List.pairwise_cons.1 hb
      have hxy : x = y := by
        have h1 := (h x).1 (by simp)
        have h2 := (h y).2 (by simp)
        rcases List.mem_cons.1 h1 with e | e
        · exact e
        · rcases List.mem_cons.1 h2 with e2 | e2
          · exact e2.symm
          · have := hb1 x e; have := ha1 y e2; omega
      subst hxy
      rw [ih ha2 hb2 fun z => ?_]
      constructor
      · intro hz
        rcases List.mem_cons.1 ((h z).1 (List.mem_cons_of_mem _ hz)) with e | e
        · have := ha1 z hz; omega
        · exact e
      · intro hz
        rcases List.mem_cons.1 ((h z).2 (List.mem_cons_of_mem _ hz)) with e | e
        · have := hb1 z hz; omega
        · exact e
theorem strict_putGo (n : Int) : ∀ (l : List Int) (d : Bool), Strict l → Strict (putGo n l d) := by
  intro l
  induction l with
  | nil => intro d _; cases d <;> simp [putGo, Strict]
  | cons x l ih =>
    intro d h
    obtain ⟨h1, h2⟩ := List.pairwise_cons.1 h
    have hx : ∀ d', (∀ y ∈ putGo n l d', (if d' = true then y ∈ l ∧ y ≠ n else y = n ∨ y ∈ l)) := fun d' y hy => (mem_putGo n y l d').1 hy
    cases d
    · by_cases hn : n ≤ x
      · have ht := ih true h2
        have hm := hx true
        simp only [putGo, hn, Bool.false_or, decide_true, and_self, if_true]
        by_cases he : x = n
        · subst he
          simp only [if_true, List.nil_append, List.singleton_append]
          exact List.pairwise_cons.2 ⟨fun y hy => h1 y (by simpa using (hm y hy).1), ht⟩
        · simp only [he, if_false, List.singleton_append]
          refine List.pairwise_cons.2 ⟨fun y hy => ?_, List.pairwise_cons.2 ⟨fun y hy => h1 y (by simpa using (hm y hy).1), ht⟩⟩
          rcases List.mem_cons.1 hy with e | e
          · subst e; omega
          · have := h1 y (by simpa using (hm y e).1); omega
      · have ht := ih false h2
        have hm := hx false
        have hne : x ≠ n := by omega
        simp only [putGo, hn, Bool.false_or, decide_false, and_false, if_false, hne, List.nil_append, List.singleton_append]
        refine List.pairwise_cons.2 ⟨fun y hy => ?_, ht⟩
        have := hm y hy
        simp only [Bool.false_eq_true, if_false] at this
        rcases this with e | e
        · omega
        · exact h1 y e
    · have ht := ih true h2
      have hm := hx true
      simp only [putGo, Bool.true_or, Bool.true_eq_false, false_and, if_false, List.nil_append]
      by_cases he : x = n
      · simpa [he] using ht
      · simp only [he, if_false, List.singleton_append]
        exact List.pairwise_cons.2 ⟨fun y hy => h1 y (by simpa using (hm y hy).1), ht⟩
theorem strict_put {x : Int} {l : List Int} (h : Strict l) : Strict (putGo x l false) := strict_putGo x l false h
theorem compact_strict {zs : List Int} (h : Rising zs) : Strict (Lib.compact zs) := by
  unfold Strict Lib.compact Lib.compactUpTo
  rw [List.pairwise_map, List.pairwise_filter]
  refine (List.pairwise_lt_range (n := zs.length)).imp_of_mem ?_
  intro i j hi hj hij ki kj
  have hj' := List.mem_range.1 hj
  have hk : zs.toArray[j]! ≠ zs.toArray[j - 1]! := by
    simp only [Lib.keeps, decide_eq_true_eq] at kj
    rcases kj with kj | kj
    · omega
    · exact kj
  have e1 : zs.toArray[j]! = zs[j] := by simp [getElem!_pos, hj']
  have e2 : zs.toArray[j - 1]! = zs[j - 1] := by simp [getElem!_pos, show j - 1 < zs.length by omega]
  have e3 : zs.toArray[i]! = zs[i] := by simp [getElem!_pos, show i < zs.length by omega]
  rw [e1, e2] at hk
  rw [e1, e3]
  have h1 : zs[j - 1] ≤ zs[j] := List.pairwise_iff_getElem.1 h (j - 1) j (by omega) hj' (by omega)
  have h2 : zs[i] ≤ zs[j - 1] := by
    rcases Nat.eq_or_lt_of_le (show i ≤ j - 1 by omega) with e | e
    · subst e; omega
    · exact List.pairwise_iff_getElem.1 h i (j - 1) (by omega) (by omega) e
  omega
theorem compact2_calls (W w : World) (A : Option Addr) (n c : Nat) (L : List Int) (h : Bag W w (.slice A n c) n L) (hr : Rising L) (hn : n < 4611686018427387904) :
    Calls Tryd.prog 27 #[.slice A n c] w fun e w' => ∃ n' L', e = .returned (.slice A n' c) ∧ Bag W w' (.slice A n' c) n' L' ∧ n' ≤ n ∧ Strict L' ∧ ∀ y, y ∈ L' ↔ y ∈ L := by
  have hl := h.len
  rcases bag_cases h with ⟨rfl, rfl⟩ | ⟨g, cur, rfl, hg, hh, hc, hm, hs, ht⟩
  · exact (Tryd.slices_Compact_int_empty A c w).mono fun e w' ⟨h1, h2⟩ => ⟨0, [], h1, by rw [h2]; exact h, Nat.le_refl _, List.Pairwise.nil, fun _ => Iff.rfl⟩
  · subst hl
    have hcl := Lib.compact_length_le L
    refine (Tryd.slices_Compact_int g 0 c L w (holds_of_blockI hh ht) (by omega) hc).mono fun e w' ⟨h1, q, h2⟩ => ⟨_, Lib.compact L, h1, ⟨?_, ?_⟩, hcl, compact_strict hr, compact_mem L⟩
    · have := h.grown (grownBy_sortedI (os := #[]) (n := q) (Lib.compact L ++ List.replicate (L.length - (Lib.compact L).length) 0).toArray)
      rw [Sort.grow_empty] at this
      rw [h2]; exact this
    · have := ownsRow_sortedI (os := #[]) (n := q) (ss := L) (ts := Lib.compact L ++ List.replicate (L.length - (Lib.compact L).length) 0) (by simp; omega) hg hh hc hm hs
      rw [Sort.grow_empty] at this
      rw [h2]
      obtain ⟨k1, k2⟩ := this
      rcases k2 with ⟨k2, _⟩ | ⟨g', cap', cur', e1, e2, e3, e4, e5, e6, e7⟩
      · cases k2
      · cases e1
        refine ⟨by simp [ints], .inr ⟨g, c, cur', rfl, e2, e3, by omega, e5, e6, ?_⟩⟩
        have := congrArg (List.take (Lib.compact L).length) e7
        rw [List.take_take] at this
        simp only [Nat.mul_one] at this ⊢
        rw [Nat.min_eq_left hcl] at this
        rw [this]
        simp [ints]
set_option maxRecDepth 100000 in
set_option maxHeartbeats 4000000 in
theorem rstarts2_calls (w : World) (h : Hd) (C : List En) (T : List Tr) (hi : h.Is w C T) :
    Calls Tryd.prog 18 #[h.v] w fun e w' => ∃ A n c L, e = .returned (.slice A n c) ∧ Reads w' w'.heap.size 1 A n (ints L) ∧ ((∀ y, y ∈ L ↔ y ∈ jmp C ∨ y ∈ tgt T) ∧ Strict L) ∧ n ≤ h.nc + h.nh ∧ Below w.heap.size w w' := by
  have hlc := reads_len hi.code
  have hlt := reads_len3 hi.hand
  have HI := Lib.hid hi
  have HLC := Lib.hid hlc
  have HLT := Lib.hid hlt
  have hnc := hi.nc
  have hnh := hi.nh
  have B0 := Lib.hid (Bag.none_ (h.box w))
  have HBX := Lib.hid (below_new w (.cells h.b 36))
  have HC := Lib.hid (fun (wr : World) (b : Below (h.box w).heap.size (h.box w) wr) => h.cells b)
  unfold Hd.v
  clear hi hlc hlt
  go_enter Tryd.func18, Tryd.ntmps18
  go_wp2
  go_loopg [3, 4] h.nc (fun f l i wr => ∃ (k n : Nat) (A : Option Addr) (c : Nat) (L : List Int), i = .int .i64 k ∧ l = .slice A n c ∧ k + f = h.nc ∧ Bag (h.box w) wr (.slice A n c) n L ∧ n ≤ k ∧ (∀ y, y ∈ L ↔ y ∈ jmp (C.take k)) ∧ Strict L)
  case atStart => exact ⟨0, 0, none, 0, [], rfl, rfl, by omega, B0.out, Nat.le_refl _, fun y => by simp [jmp], List.Pairwise.nil⟩
  case round =>
    obtain ⟨k, n, A, c, L, rfl, rfl, hf, hB, hn, hL⟩ := hrel
    have HB := Lib.hid hB
    have HL := Lib.hid hL
    have HF := Lib.hid hf
    obtain ⟨p4, p7, plt⟩ := HC.out wr hB.bel
    by_cases hk : k < h.nc
    · obtain ⟨e, hx⟩ : ∃ e, C[k]? = some e := ⟨_, List.getElem?_eq_getElem (by have := HLC.out; omega)⟩
      obtain ⟨b, off, hA, hbl, c0, c1, c2, c3⟩ := reads_at (((HI.out.later HBX.out).later hB.bel).code) hx
      have HA := Lib.hid hA
      have hk' : (k : Int) < h.nc := by omega
      obtain ⟨f', hf'⟩ : ∃ f', gk = f' + 1 := ⟨gk - 1, by omega⟩
      have HF' := Lib.hid hf'
      have HM := Lib.hid (mem_jmp_take hx)
      have KP := Lib.hid (fun (x : Int) => put_calls (e.al wr 38) A n c L x ((hB.later (below_new wr _)).rd) (by omega))
      have HE := Lib.hid (fun (w1 : World) (b : Below (e.al wr 38).heap.size (e.al wr 38) w1) => e.cells b)
      have HN := Lib.hid (hB.later (below_new wr (.cells #[.int .i64 e.s, .int .i64 e.h, .int .i64 e.o, .int .i64 e.c] 38)))
      rw [hA] at p4
      unfold En.al at KP
      rcases jmp_cases e with ⟨b1, b2, b3, hj⟩ | ⟨b1, b2, b3, hj⟩ | ⟨b1, b2, b3, hj⟩ | ⟨b1, b2, b3, hj⟩
      all_goals
        have HJ := Lib.hid hj
        clear hx hf hf' hB hL hA hj
      · skip
        go_wp2_with (first | (go_at_call 28; (with_reducible refine (KP.out e.h).mono ?_); rintro r w1 ⟨v1, n1, rfl, hb1⟩; obtain ⟨q4, q7, qlt⟩ := HC.out w1 (below_via HB.out.bel (below_via (below_new _ _) hb1.bel)); obtain ⟨y0, y1, y2, y3, ylt⟩ := HE.out w1 hb1.bel; have M1 := Lib.hid (hb1.from (below_via HB.out.bel (below_new _ _))); obtain ⟨A1, c1, rfl, _⟩ := M1.out.slice; clear hb1))
        go_roundg f'
        case measure => have := HF'.out; omega
        case rel => exact ⟨k + 1, _, _, _, _, by simp, rfl, by have := HF'.out; have := HF.out; omega, M1.out, by have := M1.out.len; have := len_put e.h L; have := HB.out.len; omega, fun y => by rw [HM.out, mem_put, HJ.out, HL.out.1]; simp, strict_put HL.out.2⟩
      · skip
        go_wp2_with (first | (go_at_call 28; (with_reducible refine (KP.out e.o).mono ?_); rintro r w1 ⟨v1, n1, rfl, hb1⟩; obtain ⟨q4, q7, qlt⟩ := HC.out w1 (below_via HB.out.bel (below_via (below_new _ _) hb1.bel)); obtain ⟨y0, y1, y2, y3, ylt⟩ := HE.out w1 hb1.bel; have M1 := Lib.hid (hb1.from (below_via HB.out.bel (below_new _ _))); obtain ⟨A1, c1, rfl, _⟩ := M1.out.slice; clear hb1))
        go_roundg f'
        case measure => have := HF'.out; omega
        case rel => exact ⟨k + 1, _, _, _, _, by simp, rfl, by have := HF'.out; have := HF.out; omega, M1.out, by have := M1.out.len; have := len_put e.o L; have := HB.out.len; omega, fun y => by rw [HM.out, mem_put, HJ.out, HL.out.1]; simp, strict_put HL.out.2⟩
      · skip
        go_wp2_with (first | (go_at_call 28; (with_reducible refine (KP.out e.o).mono ?_); rintro r w1 ⟨v1, n1, rfl, hb1⟩; obtain ⟨q4, q7, qlt⟩ := HC.out w1 (below_via HB.out.bel (below_via (below_new _ _) hb1.bel)); obtain ⟨y0, y1, y2, y3, ylt⟩ := HE.out w1 hb1.bel; have M1 := Lib.hid (hb1.from (below_via HB.out.bel (below_new _ _))); obtain ⟨A1, c1, rfl, _⟩ := M1.out.slice; clear hb1))
        go_roundg f'
        case measure => have := HF'.out; omega
        case rel => exact ⟨k + 1, _, _, _, _, by simp, rfl, by have := HF'.out; have := HF.out; omega, M1.out, by have := M1.out.len; have := len_put e.o L; have := HB.out.len; omega, fun y => by rw [HM.out, mem_put, HJ.out, HL.out.1]; simp, strict_put HL.out.2⟩
      · go_wp2
        go_roundg f'
        case measure => have := HF'.out; omega
        case rel => exact ⟨k + 1, n, A, c, L, by simp, rfl, by have := HF'.out; have := HF.out; omega, HN.out, by omega, fun y => by rw [HM.out, HJ.out, HL.out.1]; simp, HL.out.2⟩
    · have e : k = h.nc := by omega
      subst e
      have hC : C.take h.nc = C := List.take_of_length_le (by have := HLC.out; omega)
      rw [hC] at hL
      replace HL := Lib.hid hL
      clear hf hB hL hC
      go_wp2
      go_loopg [3, 6] h.nh (fun f l i wr2 => ∃ (k n : Nat) (A : Option Addr) (c : Nat) (L : List Int), i = .int .i64 k ∧ l = .slice A n c ∧ k + f = h.nh ∧ Bag (h.box w) wr2 (.slice A n c) n L ∧ n ≤ h.nc + k ∧ (∀ y, y ∈ L ↔ y ∈ jmp C ∨ y ∈ tgt (T.take k)) ∧ Strict L)
      case atStart => exact ⟨0, n, A, c, L, rfl, rfl, by omega, HB.out, by omega, fun y => by rw [HL.out.1]; simp [tgt], HL.out.2⟩
      case round =>
        clear HB HL p4 p7 plt hn
        obtain ⟨k, n, A, c, L, rfl, rfl, hf, hB, hn, hL⟩ := hrel
        rename World => wr2
        have HB := Lib.hid hB
        have HL := Lib.hid hL
        have HF := Lib.hid hf
        obtain ⟨p4, p7, plt⟩ := HC.out wr2 hB.bel
        by_cases hk : k < h.nh
        · obtain ⟨e, hx⟩ : ∃ e, T[k]? = some e := ⟨_, List.getElem?_eq_getElem (by have := HLT.out; omega)⟩
          obtain ⟨b, off, hA, hbl, c0, c1, c2⟩ := reads_at3 (((HI.out.later HBX.out).later hB.bel).hand) hx
          have HA := Lib.hid hA
          have hk' : (k : Int) < h.nh := by omega
          obtain ⟨f', hf'⟩ : ∃ f', gk = f' + 1 := ⟨gk - 1, by omega⟩
          have HF' := Lib.hid hf'
          have HM := Lib.hid (mem_tgt_take hx)
          have KP := Lib.hid (put_calls wr2 A n c L e.z hB.rd (by omega))
          rw [hA] at p7
          clear hx hf hf' hB hL hA
          go_wp2_with (first | (go_at_call 28; (with_reducible refine KP.out.mono ?_); rintro r w1 ⟨v1, n1, rfl, hb1⟩; obtain ⟨q4, q7, qlt⟩ := HC.out w1 (below_via HB.out.bel hb1.bel); have M1 := Lib.hid (hb1.from HB.out.bel); obtain ⟨A1, c1, rfl, _⟩ := M1.out.slice; clear hb1))
          go_roundg f'
          case measure => have := HF'.out; omega
          case rel => exact ⟨k + 1, _, _, _, _, by simp, rfl, by have := HF'.out; have := HF.out; omega, M1.out, by have := M1.out.len; have := len_put e.z L; have := HB.out.len; omega, fun y => by rw [HM.out, mem_put, HL.out.1]; simp [or_assoc], strict_put HL.out.2⟩
        · have e : k = h.nh := by omega
          have hT : T.take k = T := List.take_of_length_le (by have := HLT.out; omega)
          rw [hT] at hL
          replace HL := Lib.hid hL
          have hk' : (k : Int) = h.nh := by omega
          clear hf hB hL hT e
          go_wp2
          go_ret
          exact ⟨_, _, _, _, rfl, HB.out.rd, HL.out, by omega, below_via HBX.out HB.out.bel⟩
set_option maxRecDepth 100000 in
set_option maxHeartbeats 4000000 in
theorem starts2_calls (w : World) (h : Hd) (C : List En) (T : List Tr) (hi : h.Is w C T) :
    Calls Tryd.prog 17 #[h.v] w fun e w' => ∃ A n c L, e = .returned (.slice A n c) ∧ Reads w' w'.heap.size 1 A n (ints L) ∧ ((∀ y, y ∈ L ↔ y ∈ jmp C ∨ y ∈ tgt T) ∧ Strict L) ∧ n ≤ h.nc + h.nh ∧ Below w.heap.size w w' := by
  obtain ⟨i3, hi3, hz30, hz31, hz32⟩ := info_parts info3
  have hlc := reads_len hi.code
  have hlt := reads_len3 hi.hand
  have HI := Lib.hid hi
  have HLC := Lib.hid hlc
  have HLT := Lib.hid hlt
  have hnc := hi.nc
  have hnh := hi.nh
  have B0 := Lib.hid (Bag.none_ (h.box w))
  have HBX := Lib.hid (below_new w (.cells h.b 36))
  have HC := Lib.hid (fun (wr : World) (b : Below (h.box w).heap.size (h.box w) wr) => h.cells b)
  obtain ⟨Ac, hAc⟩ : ∃ A, h.Ac = A := ⟨_, rfl⟩
  obtain ⟨Ah, hAh⟩ : ∃ A, h.Ah = A := ⟨_, rfl⟩
  have c0 := (h.cells (Below.refl _ (h.box w))).1
  unfold Hd.v
  rw [hAc, hAh]
  replace hAc := Lib.hid hAc
  replace hAh := Lib.hid hAh
  clear hi hlc hlt
  go_enter Tryd.func17, Tryd.ntmps17
  go_wp2
  go_loopg [3, 11] h.nc (fun f l i wr => ∃ (k n : Nat) (A : Option Addr) (c : Nat) (L : List Int), i = .int .i64 k ∧ l = .slice A n c ∧ k + f = h.nc ∧ Bag (h.box w) wr (.slice A n c) n L ∧ n ≤ k ∧ ∀ y, y ∈ L ↔ y ∈ jmp (C.take k))
  case atStart => exact ⟨0, 0, none, 0, [], rfl, rfl, by omega, by rw [← hAc.out, ← hAh.out]; exact B0.out, Nat.le_refl _, fun y => by simp [jmp]⟩
  case round =>
    obtain ⟨k, n, A, c, L, rfl, rfl, hf, hB, hn, hL⟩ := hrel
    have HB := Lib.hid hB
    have HL := Lib.hid hL
    have HF := Lib.hid hf
    obtain ⟨p4, p7, plt⟩ := HC.out wr hB.bel
    by_cases hk : k < h.nc
    · obtain ⟨e, hx⟩ : ∃ e, C[k]? = some e := ⟨_, List.getElem?_eq_getElem (by have := HLC.out; omega)⟩
      obtain ⟨b, off, hA, hbl, c0, c1, c2, c3⟩ := reads_at (((HI.out.later HBX.out).later hB.bel).code) hx
      rw [hAc.out] at hA
      subst hA
      have hk' : (k : Int) < h.nc := by omega
      obtain ⟨f', hf'⟩ : ∃ f', gk = f' + 1 := ⟨gk - 1, by omega⟩
      have HF' := Lib.hid hf'
      have HM := Lib.hid (mem_jmp_take hx)
      have HN := Lib.hid (hB.later (below_new wr (.cells #[.int .i64 e.s, .int .i64 e.h, .int .i64 e.o, .int .i64 e.c] 38)))
      rcases jmp_cases e with ⟨b1, b2, b3, hj⟩ | ⟨b1, b2, b3, hj⟩ | ⟨b1, b2, b3, hj⟩ | ⟨b1, b2, b3, hj⟩
      all_goals
        have HJ := Lib.hid hj
        clear hx hf hf' hB hL hj
      · have ro := Lib.hid (HN.out.later (below_new _ (.cells #[.int .i64 e.h] 3))).own
        go_wp2_with (first | (at_builtin; (refine wpList_append_any _ rfl (.tmp 19) (.tmp 22) 39 rfl _ 3 i3 _ 1 8 Tryd.underlying39 hi3 hz30 hz31 hz32 rfl (by decide) _ _ _ rfl ro.out _ _ 1 1 [.int .i64 e.h] rfl (Reads_at_int (e.al wr 38) _ _ (size_alloc _ _)) (one_int e.h) (by unfold maxLen; omega) (by omega) (by have := HN.out.bel.size; exact le_alloc this _) ?_; intro v1 w1 hown hgrow _; have M1 := Lib.hid ((HN.out.later (below_new _ _)).grow hgrow hown); obtain ⟨A1, cc1, rfl, _⟩ := own_slice hown; clear hown hgrow)))
        go_roundg f'
        case measure => have := HF'.out; omega
        case rel => exact ⟨k + 1, _, _, _, _, by simp, rfl, by have := HF'.out; have := HF.out; omega, M1.out, by omega, fun y => by rw [HM.out, HJ.out, List.mem_append, HL.out]⟩
      · have ro := Lib.hid (HN.out.later (below_new _ (.cells #[.int .i64 e.o] 3))).own
        go_wp2_with (first | (at_builtin; refine wpList_append_any _ rfl (.tmp 27) (.tmp 30) 39 rfl _ 3 i3 _ 1 8 Tryd.underlying39 hi3 hz30 hz31 hz32 rfl (by decide) _ _ _ rfl ro.out _ _ 1 1 [.int .i64 e.o] rfl (Reads_at_int (e.al wr 38) _ _ (size_alloc _ _)) (one_int e.o) (by unfold maxLen; omega) (by omega) (by have := HN.out.bel.size; exact le_alloc this _) ?_; intro v1 w1 hown hgrow _; have M1 := Lib.hid ((HN.out.later (below_new _ _)).grow hgrow hown); obtain ⟨A1, cc1, rfl, _⟩ := own_slice hown; clear hown hgrow))
        go_roundg f'
        case measure => have := HF'.out; omega
        case rel => exact ⟨k + 1, _, _, _, _, by simp, rfl, by have := HF'.out; have := HF.out; omega, M1.out, by omega, fun y => by rw [HM.out, HJ.out, List.mem_append, HL.out]⟩
      · have ro := Lib.hid (HN.out.later (below_new _ (.cells #[.int .i64 e.o] 3))).own
        go_wp2_with (first | (at_builtin; refine wpList_append_any _ rfl (.tmp 27) (.tmp 30) 39 rfl _ 3 i3 _ 1 8 Tryd.underlying39 hi3 hz30 hz31 hz32 rfl (by decide) _ _ _ rfl ro.out _ _ 1 1 [.int .i64 e.o] rfl (Reads_at_int (e.al wr 38) _ _ (size_alloc _ _)) (one_int e.o) (by unfold maxLen; omega) (by omega) (by have := HN.out.bel.size; exact le_alloc this _) ?_; intro v1 w1 hown hgrow _; have M1 := Lib.hid ((HN.out.later (below_new _ _)).grow hgrow hown); obtain ⟨A1, cc1, rfl, _⟩ := own_slice hown; clear hown hgrow))
        go_roundg f'
        case measure => have := HF'.out; omega
        case rel => exact ⟨k + 1, _, _, _, _, by simp, rfl, by have := HF'.out; have := HF.out; omega, M1.out, by omega, fun y => by rw [HM.out, HJ.out, List.mem_append, HL.out]⟩
      · go_wp2
        go_roundg f'
        case measure => have := HF'.out; omega
        case rel => exact ⟨k + 1, n, A, c, L, by simp, rfl, by have := HF'.out; have := HF.out; omega, HN.out, by omega, fun y => by rw [HM.out, HJ.out, HL.out]; simp⟩
    · have e : k = h.nc := by omega
      have hC : C.take k = C := List.take_of_length_le (by have := HLC.out; omega)
      rw [hC] at hL
      replace HL := Lib.hid hL
      have hk' : (k : Int) = h.nc := by omega
      clear hf hB hL hC e
      rw [hAh.out] at p7
      go_wp2
      go_loopg [3, 36] h.nh (fun f l i wr2 => ∃ (k n : Nat) (A : Option Addr) (c : Nat) (L : List Int), i = .int .i64 k ∧ l = .slice A n c ∧ k + f = h.nh ∧ Bag (h.box w) wr2 (.slice A n c) n L ∧ n ≤ h.nc + k ∧ ∀ y, y ∈ L ↔ y ∈ jmp C ∨ y ∈ tgt (T.take k))
      case atStart => exact ⟨0, n, A, c, L, rfl, rfl, by omega, HB.out, by omega, fun y => by rw [HL.out]; simp [tgt]⟩
      case round =>
        clear HB HL p4 p7 plt hn hk' hk
        obtain ⟨k, n, A, c, L, rfl, rfl, hf, hB, hn, hL⟩ := hrel
        rename World => wr2
        have HB := Lib.hid hB
        have HL := Lib.hid hL
        have HF := Lib.hid hf
        by_cases hk : k < h.nh
        · obtain ⟨e, hx⟩ : ∃ e, T[k]? = some e := ⟨_, List.getElem?_eq_getElem (by have := HLT.out; omega)⟩
          obtain ⟨b, off, hA, hbl, c0, c1, c2⟩ := reads_at3 (((HI.out.later HBX.out).later hB.bel).hand) hx
          rw [hAh.out] at hA
          subst hA
          have hk' : (k : Int) < h.nh := by omega
          obtain ⟨f', hf'⟩ : ∃ f', gk = f' + 1 := ⟨gk - 1, by omega⟩
          have HF' := Lib.hid hf'
          have HM := Lib.hid (mem_tgt_take hx)
          have HN := Lib.hid (hB.later (below_new wr2 (.cells #[.int .i64 e.x, .int .i64 e.y, .int .i64 e.z] 49)))
          have ro := Lib.hid (HN.out.later (below_new _ (.cells #[.int .i64 e.z] 3))).own
          clear hx hf hf' hB hL
          go_wp2_with (first | (at_builtin; refine wpList_append_any _ rfl (.tmp 40) (.tmp 43) 39 rfl _ 3 i3 _ 1 8 Tryd.underlying39 hi3 hz30 hz31 hz32 rfl (by decide) _ _ _ rfl ro.out _ _ 1 1 [.int .i64 e.z] rfl (Reads_at_int (wr2.alloc (.cells #[.int .i64 e.x, .int .i64 e.y, .int .i64 e.z] 49)) _ _ (size_alloc _ _)) (one_int e.z) (by unfold maxLen; omega) (by omega) (by have := HN.out.bel.size; exact le_alloc this _) ?_; intro v1 w1 hown hgrow _; have M1 := Lib.hid ((HN.out.later (below_new _ _)).grow hgrow hown); obtain ⟨A1, cc1, rfl, _⟩ := own_slice hown; clear hown hgrow))
          go_roundg f'
          case measure => have := HF'.out; omega
          case rel => exact ⟨k + 1, _, _, _, _, by simp, rfl, by have := HF'.out; have := HF.out; omega, M1.out, by omega, fun y => by rw [HM.out, List.mem_append, HL.out]; simp [or_assoc]⟩
        · have e : k = h.nh := by omega
          have hT : T.take k = T := List.take_of_length_le (by have := HLT.out; omega)
          rw [hT] at hL
          replace HL := Lib.hid hL
          have hk' : (k : Int) = h.nh := by omega
          have KS := Lib.hid (sort_calls _ _ _ _ _ _ hB (by omega))
          have KC := Lib.hid (fun (w1 : World) (L1 : List Int) (h1 : Bag (h.box w) w1 (.slice A n c) n L1) (h2 : Rising L1) => compact2_calls _ w1 _ _ _ L1 h1 h2 (by omega))
          clear hf hB hL hT e
          go_wp2_with (first | (go_at_call 26; (with_reducible refine KS.out.mono ?_); rintro r w1 ⟨rfl, L1, hb1, hr1, hm1⟩) | (go_at_call 27; (with_reducible refine (KC.out _ L1 hb1 hr1).mono ?_); rintro r w2 ⟨n2, L2, rfl, hb2, hn2, hr2, hm2⟩))
          go_ret
          exact ⟨_, _, _, _, rfl, hb2.rd, ⟨fun y => by rw [hm2, hm1, HL.out], hr2⟩, by omega, below_via HBX.out hb2.bel⟩
end Go.Proofs.YteagkdmefmpokaaDoor
