/- Fuse: Starts: jumps gathered, sorted, compacted. -/
import Derived.Test.YteagkdmefmpokaaDoorDb
import Derived.Test.YteagkdmefmpokaaDoorShelf
import Derived.Sort.OwnSortedInts
import Derived.Lib.RowBridge
namespace Go.Proofs.YteagkdmefmpokaaDoor
open Go.RowKit Go
set_option linter.unusedVariables false
set_option linter.unusedSimpArgs false
theorem compact_sub (zs : List Int) : (Lib.compact zs).Sublist zs := by
  unfold Lib.compact Lib.compactUpTo
  have h := Lib.range_map_get zs.toArray
  have e : (List.range zs.length).map (zs.toArray[·]!) = zs := by simpa using h
  conv => rhs; rw [← e]
  exact List.Sublist.map _ List.filter_sublist
theorem compact_mem (zs : List Int) (y : Int) : y ∈ Lib.compact zs ↔ y ∈ zs := by
  constructor
  · exact fun h => (compact_sub zs).subset h
  · intro h
    obtain ⟨j0, hj0, hy0⟩ := List.getElem_of_mem h
    have key : ∀ j, (hj : j < zs.length) → zs[j] = y → ∃ i, i < zs.length ∧ zs.toArray[i]! = y ∧ Lib.keeps zs.toArray i = true := by
      intro j
      induction j with
      | zero => exact fun hj hy => ⟨0, hj, by simp [getElem!_pos, hj, hy], by simp [Lib.keeps]⟩
      | succ j ih =>
        intro hj hy
        by_cases hp : zs[j] = y
        · exact ih (by omega) hp
        · refine ⟨j + 1, hj, by simp [getElem!_pos, hj, hy], Lib.keeps_pos ?_⟩
          have h1 : zs.toArray[j + 1]! = y := by simp [getElem!_pos, hj, hy]
          have h2 : zs.toArray[j + 1 - 1]! = zs[j] := by simp [getElem!_pos, show j < zs.length by omega]
          rw [h1, h2]; exact fun e => hp e.symm
    obtain ⟨i, h1, h2, h3⟩ := key j0 hj0 hy0
    unfold Lib.compact Lib.compactUpTo
    rw [List.mem_map]
    exact ⟨i, by simp [h1, h3], h2⟩
/-- numbers in order. -/
def Rising (l : List Int) : Prop := l.Pairwise (· ≤ ·)
theorem sort_rising (l : List Int) : Rising (l.mergeSort fun x y => decide (x ≤ y)) := by
  have h := List.pairwise_mergeSort (le := fun x y : Int => decide (x ≤ y)) (by intro a b c; simp; omega) (by intro a b; simp; omega) l
  exact h.imp (by intro a b; simp)
theorem sort_mem (l : List Int) (y : Int) : y ∈ (l.mergeSort fun x y => decide (x ≤ y)) ↔ y ∈ l := List.mem_mergeSort
theorem Bag.grown {W w w1 : World} {v : Value} {n : Nat} {l : List Int} (h : Bag W w v n l) (hg : w.grownBy w1 v.ownBlock) : Below W.heap.size W w1 :=
  h.bel.grown hg h.bel.size (fun k hk => (h.own.lt k hk).1)
theorem bag_cases {W w : World} {A : Option Addr} {n c : Nat} {L : List Int} (h : Bag W w (.slice A n c) n L) : (n = 0 ∧ L = []) ∨ ∃ g cur, A = some ⟨g, 0, none⟩ ∧ W.heap.size ≤ g ∧ w.heap[g]? = some (.cells cur 3 (0, 0)) ∧ n ≤ c ∧ c ≤ maxLen ∧ cur.size = c * 1 ∧ cur.toList.take n = ints L := by
  have hl := h.len
  rcases h.own.2 with ⟨h1, h2⟩ | ⟨g, cap, cur, h1, h2, h3, h4, h5, h6, h7⟩
  · subst h2; exact .inl ⟨rfl, List.eq_nil_of_length_eq_zero hl⟩
  · injection h1 with e1 _ e3
    subst e1
    subst e3
    exact .inr ⟨g, cur, rfl, h2, h3, h4, h5, h6, by simpa using h7⟩
theorem sort_calls (W w : World) (A : Option Addr) (n c : Nat) (L : List Int) (h : Bag W w (.slice A n c) n L) (hn : n < 4611686018427387904) :
    Calls Tryd.prog 26 #[.slice A n c] w fun e w' => e = .returned (.tuple #[]) ∧ ∃ L', Bag W w' (.slice A n c) n L' ∧ Rising L' ∧ ∀ y, y ∈ L' ↔ y ∈ L := by
  have hl := h.len
  rcases bag_cases h with ⟨rfl, rfl⟩ | ⟨g, cur, rfl, hg, hh, hc, hm, hs, ht⟩
  · exact (Tryd.slices_Sort_int_none A c w).mono fun e w' ⟨h1, h2⟩ => ⟨h1, [], by rw [h2]; exact h, List.Pairwise.nil, fun _ => Iff.rfl⟩
  · subst hl
    have hlen : (L.mergeSort fun x y => decide (x ≤ y)).length = L.length := List.length_mergeSort L
    refine (Tryd.slices_Sort_int g 0 c L w (holds_of_blockI hh ht) (Array.getElem?_eq_some_iff.1 hh).1 hn).mono fun e w' ⟨h1, n', os, h2⟩ => ⟨h1, _, ⟨?_, ?_⟩, sort_rising L, sort_mem L⟩
    · rw [h2]; exact h.grown (grownBy_sortedI _)
    · rw [h2]; exact ownsRow_sortedI hlen hg hh hc hm hs
theorem compact_calls (W w : World) (A : Option Addr) (n c : Nat) (L : List Int) (h : Bag W w (.slice A n c) n L) (hr : Rising L) (hn : n < 4611686018427387904) :
    Calls Tryd.prog 27 #[.slice A n c] w fun e w' => ∃ n' L', e = .returned (.slice A n' c) ∧ Bag W w' (.slice A n' c) n' L' ∧ n' ≤ n ∧ Rising L' ∧ ∀ y, y ∈ L' ↔ y ∈ L := by
  have hl := h.len
  rcases bag_cases h with ⟨rfl, rfl⟩ | ⟨g, cur, rfl, hg, hh, hc, hm, hs, ht⟩
  · exact (Tryd.slices_Compact_int_empty A c w).mono fun e w' ⟨h1, h2⟩ => ⟨0, [], h1, by rw [h2]; exact h, Nat.le_refl _, List.Pairwise.nil, fun _ => Iff.rfl⟩
  · subst hl
    have hcl := Lib.compact_length_le L
    refine (Tryd.slices_Compact_int g 0 c L w (holds_of_blockI hh ht) (by omega) hc).mono fun e w' ⟨h1, q, h2⟩ => ⟨_, Lib.compact L, h1, ⟨?_, ?_⟩, hcl, hr.sublist (compact_sub L), compact_mem L⟩
    · have := h.grown (grownBy_sortedI (os := #[]) (n := q) (Lib.compact L ++ List.replicate (L.length - (Lib.compact L).length) 0).toArray)
      rw [Sort.grow_empty] at this
      rw [h2]; exact this
    · have := ownsRow_sortedI (os := #[]) (n := q) (ss := L) (ts := Lib.compact L ++ List.replicate (L.length - (Lib.compact L).length) 0) (by simp; omega) hg hh hc hm hs
      rw [Sort.grow_empty] at this
      rw [h2]
      obtain ⟨k1, k2⟩ := this
      rcases k2 with ⟨k2, _⟩ | ⟨g', cap', cur', e1, e2, e3, e4, e5, e6, e7⟩
      · cases k2
      · cases e1
        refine ⟨by simp [ints], .inr ⟨g, c, cur', rfl, e2, e3, by omega, e5, e6, ?_⟩⟩
        have := congrArg (List.take (Lib.compact L).length) e7
        rw [List.take_take] at this
        simp only [Nat.mul_one] at this ⊢
        rw [Nat.min_eq_left hcl] at this
        rw [this]
        simp [ints]
theorem size_alloc (w : World) (o : Obj) : (w.alloc o).heap.size = w.heap.size + 1 := by simp only [World.alloc]; rw [Array.size_push]
theorem Reads_at_int (w : World) (x : Int) (g : Nat) (hg : w.heap.size = g) : Reads (w.alloc (.cells #[.int .i64 x] 3)) (g + 1) 1 (some ⟨g, 0, none⟩) 1 [.int .i64 x] := by subst hg; exact Reads_int w x
set_option maxRecDepth 100000 in
set_option maxHeartbeats 4000000 in
theorem starts_calls (w : World) (h : Hd) (C : List En) (T : List Tr) (hi : h.Is w C T) :
    Calls Tryd.prog 17 #[h.v] w fun e w' => ∃ A n c L, e = .returned (.slice A n c) ∧ Reads w' w'.heap.size 1 A n (ints L) ∧ (Rising L ∧ ∀ y, y ∈ L ↔ y ∈ jmp C ∨ y ∈ tgt T) ∧ n ≤ h.nc + h.nh ∧ Below w.heap.size w w' := by
  obtain ⟨i3, hi3, hz30, hz31, hz32⟩ := info_parts info3
  have hlc := reads_len hi.code
  have hlt := reads_len3 hi.hand
  have HI := Lib.hid hi
  have HLC := Lib.hid hlc
  have HLT := Lib.hid hlt
  have hnc := hi.nc
  have hnh := hi.nh
  have B0 := Lib.hid (Bag.none_ (h.box w))
  have HBX := Lib.hid (below_new w (.cells h.b 36))
  have HC := Lib.hid (fun (wr : World) (b : Below (h.box w).heap.size (h.box w) wr) => h.cells b)
  obtain ⟨Ac, hAc⟩ : ∃ A, h.Ac = A := ⟨_, rfl⟩
  obtain ⟨Ah, hAh⟩ : ∃ A, h.Ah = A := ⟨_, rfl⟩
  have c0 := (h.cells (Below.refl _ (h.box w))).1
  unfold Hd.v
  rw [hAc, hAh]
  replace hAc := Lib.hid hAc
  replace hAh := Lib.hid hAh
  clear hi hlc hlt
  go_enter Tryd.func17, Tryd.ntmps17
  go_wp2
  go_loopg [3, 11] h.nc (fun f l i wr => ∃ (k n : Nat) (A : Option Addr) (c : Nat) (L : List Int), i = .int .i64 k ∧ l = .slice A n c ∧ k + f = h.nc ∧ Bag (h.box w) wr (.slice A n c) n L ∧ n ≤ k ∧ ∀ y, y ∈ L ↔ y ∈ jmp (C.take k))
  case atStart => exact ⟨0, 0, none, 0, [], rfl, rfl, by omega, by rw [← hAc.out, ← hAh.out]; exact B0.out, Nat.le_refl _, fun y => by simp [jmp]⟩
  case round =>
    obtain ⟨k, n, A, c, L, rfl, rfl, hf, hB, hn, hL⟩ := hrel
    have HB := Lib.hid hB
    have HL := Lib.hid hL
    have HF := Lib.hid hf
    obtain ⟨p4, p7, plt⟩ := HC.out wr hB.bel
    by_cases hk : k < h.nc
    · obtain ⟨e, hx⟩ : ∃ e, C[k]? = some e := ⟨_, List.getElem?_eq_getElem (by have := HLC.out; omega)⟩
      obtain ⟨b, off, hA, hbl, c0, c1, c2, c3⟩ := reads_at (((HI.out.later HBX.out).later hB.bel).code) hx
      rw [hAc.out] at hA
      subst hA
      have hk' : (k : Int) < h.nc := by omega
      obtain ⟨f', hf'⟩ : ∃ f', gk = f' + 1 := ⟨gk - 1, by omega⟩
      have HF' := Lib.hid hf'
      have HM := Lib.hid (mem_jmp_take hx)
      have HN := Lib.hid (hB.later (below_new wr (.cells #[.int .i64 e.s, .int .i64 e.h, .int .i64 e.o, .int .i64 e.c] 38)))
      rcases jmp_cases e with ⟨b1, b2, b3, hj⟩ | ⟨b1, b2, b3, hj⟩ | ⟨b1, b2, b3, hj⟩ | ⟨b1, b2, b3, hj⟩
      all_goals
        have HJ := Lib.hid hj
        clear hx hf hf' hB hL hj
      · have ro := Lib.hid (HN.out.later (below_new _ (.cells #[.int .i64 e.h] 3))).own
        go_wp2_with (first | (at_builtin; (refine wpList_append_any _ rfl (.tmp 19) (.tmp 22) 39 rfl _ 3 i3 _ 1 8 Tryd.underlying39 hi3 hz30 hz31 hz32 rfl (by decide) _ _ _ rfl ro.out _ _ 1 1 [.int .i64 e.h] rfl (Reads_at_int (e.al wr 38) _ _ (size_alloc _ _)) (one_int e.h) (by unfold maxLen; omega) (by omega) (by have := HN.out.bel.size; exact le_alloc this _) ?_; intro v1 w1 hown hgrow _; have M1 := Lib.hid ((HN.out.later (below_new _ _)).grow hgrow hown); obtain ⟨A1, cc1, rfl, _⟩ := own_slice hown; clear hown hgrow)))
        go_roundg f'
        case measure => have := HF'.out; omega
        case rel => exact ⟨k + 1, _, _, _, _, by simp, rfl, by have := HF'.out; have := HF.out; omega, M1.out, by omega, fun y => by rw [HM.out, HJ.out, List.mem_append, HL.out]⟩
      · have ro := Lib.hid (HN.out.later (below_new _ (.cells #[.int .i64 e.o] 3))).own
        go_wp2_with (first | (at_builtin; refine wpList_append_any _ rfl (.tmp 27) (.tmp 30) 39 rfl _ 3 i3 _ 1 8 Tryd.underlying39 hi3 hz30 hz31 hz32 rfl (by decide) _ _ _ rfl ro.out _ _ 1 1 [.int .i64 e.o] rfl (Reads_at_int (e.al wr 38) _ _ (size_alloc _ _)) (one_int e.o) (by unfold maxLen; omega) (by omega) (by have := HN.out.bel.size; exact le_alloc this _) ?_; intro v1 w1 hown hgrow _; have M1 := Lib.hid ((HN.out.later (below_new _ _)).grow hgrow hown); obtain ⟨A1, cc1, rfl, _⟩ := own_slice hown; clear hown hgrow))
        go_roundg f'
        case measure => have := HF'.out; omega
        case rel => exact ⟨k + 1, _, _, _, _, by simp, rfl, by have := HF'.out; have := HF.out; omega, M1.out, by omega, fun y => by rw [HM.out, HJ.out, List.mem_append, HL.out]⟩
      · have ro := Lib.hid (HN.out.later (below_new _ (.cells #[.int .i64 e.o] 3))).own
        go_wp2_with (first | (at_builtin; refine wpList_append_any _ rfl (.tmp 27) (.tmp 30) 39 rfl _ 3 i3 _ 1 8 Tryd.underlying39 hi3 hz30 hz31 hz32 rfl (by decide) _ _ _ rfl ro.out _ _ 1 1 [.int .i64 e.o] rfl (Reads_at_int (e.al wr 38) _ _ (size_alloc _ _)) (one_int e.o) (by unfold maxLen; omega) (by omega) (by have := HN.out.bel.size; exact le_alloc this _) ?_; intro v1 w1 hown hgrow _; have M1 := Lib.hid ((HN.out.later (below_new _ _)).grow hgrow hown); obtain ⟨A1, cc1, rfl, _⟩ := own_slice hown; clear hown hgrow))
        go_roundg f'
        case measure => have := HF'.out; omega
        case rel => exact ⟨k + 1, _, _, _, _, by simp, rfl, by have := HF'.out; have := HF.out; omega, M1.out, by omega, fun y => by rw [HM.out, HJ.out, List.mem_append, HL.out]⟩
      · go_wp2
        go_roundg f'
        case measure => have := HF'.out; omega
        case rel => exact ⟨k + 1, n, A, c, L, by simp, rfl, by have := HF'.out; have := HF.out; omega, HN.out, by omega, fun y => by rw [HM.out, HJ.out, HL.out]; simp⟩
    · have e : k = h.nc := by omega
      have hC : C.take k = C := List.take_of_length_le (by have := HLC.out; omega)
      rw [hC] at hL
      replace HL := Lib.hid hL
      have hk' : (k : Int) = h.nc := by omega
      clear hf hB hL hC e
      rw [hAh.out] at p7
      go_wp2
      go_loopg [3, 36] h.nh (fun f l i wr2 => ∃ (k n : Nat) (A : Option Addr) (c : Nat) (L : List Int), i = .int .i64 k ∧ l = .slice A n c ∧ k + f = h.nh ∧ Bag (h.box w) wr2 (.slice A n c) n L ∧ n ≤ h.nc + k ∧ ∀ y, y ∈ L ↔ y ∈ jmp C ∨ y ∈ tgt (T.take k))
      case atStart => exact ⟨0, n, A, c, L, rfl, rfl, by omega, HB.out, by omega, fun y => by rw [HL.out]; simp [tgt]⟩
      case round =>
        clear HB HL p4 p7 plt hn hk' hk
        obtain ⟨k, n, A, c, L, rfl, rfl, hf, hB, hn, hL⟩ := hrel
        rename World => wr2
        have HB := Lib.hid hB
        have HL := Lib.hid hL
        have HF := Lib.hid hf
        by_cases hk : k < h.nh
        · obtain ⟨e, hx⟩ : ∃ e, T[k]? = some e := ⟨_, List.getElem?_eq_getElem (by have := HLT.out; omega)⟩
          obtain ⟨b, off, hA, hbl, c0, c1, c2⟩ := reads_at3 (((HI.out.later HBX.out).later hB.bel).hand) hx
          rw [hAh.out] at hA
          subst hA
          have hk' : (k : Int) < h.nh := by omega
          obtain ⟨f', hf'⟩ : ∃ f', gk = f' + 1 := ⟨gk - 1, by omega⟩
          have HF' := Lib.hid hf'
          have HM := Lib.hid (mem_tgt_take hx)
          have HN := Lib.hid (hB.later (below_new wr2 (.cells #[.int .i64 e.x, .int .i64 e.y, .int .i64 e.z] 49)))
          have ro := Lib.hid (HN.out.later (below_new _ (.cells #[.int .i64 e.z] 3))).own
          clear hx hf hf' hB hL
          go_wp2_with (first | (at_builtin; refine wpList_append_any _ rfl (.tmp 40) (.tmp 43) 39 rfl _ 3 i3 _ 1 8 Tryd.underlying39 hi3 hz30 hz31 hz32 rfl (by decide) _ _ _ rfl ro.out _ _ 1 1 [.int .i64 e.z] rfl (Reads_at_int (wr2.alloc (.cells #[.int .i64 e.x, .int .i64 e.y, .int .i64 e.z] 49)) _ _ (size_alloc _ _)) (one_int e.z) (by unfold maxLen; omega) (by omega) (by have := HN.out.bel.size; exact le_alloc this _) ?_; intro v1 w1 hown hgrow _; have M1 := Lib.hid ((HN.out.later (below_new _ _)).grow hgrow hown); obtain ⟨A1, cc1, rfl, _⟩ := own_slice hown; clear hown hgrow))
          go_roundg f'
          case measure => have := HF'.out; omega
          case rel => exact ⟨k + 1, _, _, _, _, by simp, rfl, by have := HF'.out; have := HF.out; omega, M1.out, by omega, fun y => by rw [HM.out, List.mem_append, HL.out]; simp [or_assoc]⟩
        · have e : k = h.nh := by omega
          have hT : T.take k = T := List.take_of_length_le (by have := HLT.out; omega)
          rw [hT] at hL
          replace HL := Lib.hid hL
          have hk' : (k : Int) = h.nh := by omega
          have KS := Lib.hid (sort_calls _ _ _ _ _ _ hB (by omega))
          have KC := Lib.hid (fun (w1 : World) (L1 : List Int) (h1 : Bag (h.box w) w1 (.slice A n c) n L1) (h2 : Rising L1) => compact_calls _ w1 _ _ _ L1 h1 h2 (by omega))
          clear hf hB hL hT e
          go_wp2_with (first | (go_at_call 26; (with_reducible refine KS.out.mono ?_); rintro r w1 ⟨rfl, L1, hb1, hr1, hm1⟩) | (go_at_call 27; (with_reducible refine (KC.out _ L1 hb1 hr1).mono ?_); rintro r w2 ⟨n2, L2, rfl, hb2, hn2, hr2, hm2⟩))
          go_ret
          exact ⟨_, _, _, _, rfl, hb2.rd, ⟨hr2, fun y => by rw [hm2, hm1, HL.out]⟩, by omega, below_via HBX.out hb2.bel⟩
end Go.Proofs.YteagkdmefmpokaaDoor
