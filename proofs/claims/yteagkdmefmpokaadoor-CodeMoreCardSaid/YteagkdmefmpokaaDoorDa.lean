/- Fuse: lists in memory; the document's put. -/
import Derived.Test.YteagkdmefmpokaaDoorCa
namespace Go.Proofs.YteagkdmefmpokaaDoor
open Go.RowKit Go
set_option linter.unusedVariables false
set_option linter.unusedSimpArgs false
theorem info3 : (Tryd.prog.info? 3).map (fun i => (i.zero, i.size, i.bytes)) = some (some (.int .i64 0), 1, 8) := by kernel_rfl
def ints (l : List Int) : List Value := l.map (Value.int .i64)
theorem ints_append (l m : List Int) : ints (l ++ m) = ints l ++ ints m := by simp [ints]
theorem own_below {w w' : World} {base : Nat} {e : TypeId} {s : Nat} {x : Value} {n : Nat} {xs : List Value} (h : Below w.heap.size w w') (ho : w.ownsRow base e s x n xs) : w'.ownsRow base e s x n xs := by
  have hlt := ho.lt
  obtain ⟨h3, h4⟩ := ho
  refine ⟨h3, ?_⟩
  rcases h4 with h4 | ⟨g, cap, cur, e1, e2, e3, e4⟩
  · exact .inl h4
  · exact .inr ⟨g, cap, cur, e1, e2, by rw [h.block g (hlt g (by rw [e1]; rfl)).2]; exact e3, e4⟩
theorem own_slice {w : World} {base e s : Nat} {v : Value} {n : Nat} {xs : List Value} (h : w.ownsRow base e s v n xs) : ∃ A c, v = .slice A n c ∧ Reads w w.heap.size s A n xs := by
  rcases h.2 with ⟨h1, h2⟩ | ⟨g, cap, cur, h1, h2, h3⟩
  · refine ⟨none, 0, by rw [h1, h2], ?_⟩
    subst h2
    have : xs = [] := List.eq_nil_of_length_eq_zero (by simpa using h.1)
    subst this
    exact ⟨by simp, fun h => absurd h (by omega)⟩
  · exact ⟨_, _, h1, Reads.of_own (h1 ▸ h)⟩
theorem le_alloc {w : World} {b : Nat} (h : b ≤ w.heap.size) (o : Obj) : b ≤ (w.alloc o).heap.size := by simp only [World.alloc]; rw [Array.size_push]; omega
theorem below_via {w w1 w2 : World} (h : Below w.heap.size w w1) (k : Below w1.heap.size w1 w2) : Below w.heap.size w w2 := h.trans (k.mono h.size)
theorem below_alloc {w w1 : World} (h : Below w.heap.size w w1) (o : Obj) : Below w.heap.size w (w1.alloc o) := h.alloc h.size o
theorem below_new (w : World) (o : Obj) : Below w.heap.size w (w.alloc o) := (Below.refl _ _).alloc (Nat.le_refl _) o
theorem Reads_int (w : World) (x : Int) : Reads (w.alloc (.cells #[.int .i64 x] 3)) (w.heap.size + 1) 1 (some ⟨w.heap.size, 0, none⟩) 1 [.int .i64 x] := by
  refine ⟨rfl, fun _ => ⟨_, rfl, by show w.heap.size < w.heap.size + 1; omega, fun j u hj => ?_⟩⟩
  have e1 : (⟨w.heap.size, 0, none⟩ : Addr).add j = ⟨w.heap.size, j, none⟩ := by unfold Addr.add; split <;> simp_all
  rw [e1]; refine ((Blk.new w 3 #[.int .i64 x]).cell j).trans ?_
  exact (List.getElem?_toArray ..).trans hj
theorem one_int (x : Int) : ∀ u ∈ [Value.int .i64 x], u.oneCell' = true := by intro u hu; simp at hu; subst hu; rfl
theorem reads_int {w : World} {B n : Nat} {A : Option Addr} {L : List Int} (h : Reads w B 1 A n (ints L)) {i : Nat} {x : Int} (hi : L[i]? = some x) : ∃ b off, A = some ⟨b, off, none⟩ ∧ b < B ∧ w.cell? ⟨b, off + i, none⟩ = some (.int .i64 x) := by
  have hl : L.length = n := by have := h.1; simpa [ints] using this
  have hlt : i < L.length := (List.getElem?_eq_some_iff.1 hi).1
  obtain ⟨ad, rfl, hb, hc⟩ := h.2 (by omega)
  obtain ⟨b, off, sp⟩ := ad
  have h0 : 0 < (ints L).length := by simp [ints]; omega
  have hsp : sp = none := by simpa [Addr.add] using World.cell?_spot (hc 0 _ (List.getElem?_eq_getElem h0))
  subst hsp
  exact ⟨b, off, rfl, hb, add_at b off i w (hc i _ (by simp [ints, hi]))⟩
theorem drop_at {α : Type} {L : List α} {k : Nat} {e : α} (hx : L[k]? = some e) : L.drop k = e :: L.drop (k + 1) := by
  obtain ⟨h1, h2⟩ := List.getElem?_eq_some_iff.1 hx
  rw [← h2]; exact List.drop_eq_getElem_cons h1
/-- a list of numbers of the call's own. -/
structure Bag (w wr : World) (v : Value) (n : Nat) (l : List Int) : Prop where
  bel : Below w.heap.size w wr
  own : wr.ownsRow w.heap.size 3 1 v n (ints l)
theorem Bag.none_ (w : World) : Bag w w (.slice none 0 0) 0 [] := ⟨Below.refl _ _, World.ownsRow_nil _ _ _ _⟩
theorem Bag.len {w wr : World} {v : Value} {n : Nat} {l : List Int} (h : Bag w wr v n l) : l.length = n := by have := h.own.1; simpa [ints] using this
theorem Bag.slice {w wr : World} {v : Value} {n : Nat} {l : List Int} (h : Bag w wr v n l) : ∃ A c, v = .slice A n c ∧ Reads wr wr.heap.size 1 A n (ints l) := own_slice h.own
theorem Bag.later {w wr w1 : World} {v : Value} {n : Nat} {l : List Int} (h : Bag w wr v n l) (hb : Below wr.heap.size wr w1) : Bag w w1 v n l := ⟨below_via h.bel hb, own_below hb h.own⟩
theorem Bag.grow {w wr w1 : World} {v v' : Value} {n : Nat} {l : List Int} {x : Int} (h : Bag w wr v n l) (hg : wr.grownBy w1 v.ownBlock) (ho : w1.ownsRow w.heap.size 3 1 v' (n + 1) (ints l ++ [.int .i64 x])) : Bag w w1 v' (n + 1) (l ++ [x]) :=
  ⟨h.bel.grown hg h.bel.size (fun k hk => (h.own.lt k hk).1), by rw [ints_append]; exact ho⟩
/-- what 'put' makes of the rest of a list. -/
def putGo (n : Int) : List Int → Bool → List Int
  | [], d => if d then [] else [n]
  | x :: l, d => (if d = false ∧ n ≤ x then [n] else []) ++ ((if x = n then [] else [x]) ++ putGo n l (d || decide (n ≤ x)))
theorem mem_putGo (n y : Int) : ∀ (l : List Int) (d : Bool), (y ∈ putGo n l d ↔ if d = true then y ∈ l ∧ y ≠ n else y = n ∨ y ∈ l) := by
  intro l
  induction l with
  | nil => intro d; cases d <;> simp [putGo]
  | cons x l ih =>
    intro d
    rw [putGo, List.mem_append, List.mem_append, ih]
    cases d
    · by_cases h : n ≤ x
      · by_cases hx : x = n
        · subst hx; simp; by_cases e : y = x <;> simp [e]
        · simp [h, hx]
          constructor
          · rintro (rfl | rfl | h1)
            · exact .inl rfl
            · exact .inr (.inl rfl)
            · exact .inr (.inr h1.1)
          · rintro (rfl | rfl | h1)
            · exact .inl rfl
            · exact .inr (.inl rfl)
            · by_cases e : y = n
              · exact .inl e
              · exact .inr (.inr ⟨h1, e⟩)
      · have hx : x ≠ n := by omega
        simp [h, hx]
        constructor
        · rintro (rfl | rfl | h1)
          · exact .inr (.inl rfl)
          · exact .inl rfl
          · exact .inr (.inr h1)
        · rintro (rfl | rfl | h1)
          · exact .inr (.inl rfl)
          · exact .inl rfl
          · exact .inr (.inr h1)
    · by_cases hx : x = n
      · subst hx; simp; intro h1 h2; exact absurd h2 h1
      · simp [hx]
        constructor
        · rintro (rfl | h1)
          · exact ⟨.inl rfl, hx⟩
          · exact ⟨.inr h1.1, h1.2⟩
        · rintro ⟨rfl | h1, h2⟩
          · exact .inl rfl
          · exact .inr ⟨h1, h2⟩
theorem len_putGo (n : Int) : ∀ (l : List Int) (d : Bool), (putGo n l d).length ≤ l.length + (if d then 0 else 1) := by
  intro l
  induction l with
  | nil => intro d; cases d <;> simp [putGo]
  | cons x l ih =>
    intro d
    have h0 := ih false
    have h1 := ih true
    have hx : (if x = n then ([] : List Int) else [x]).length ≤ 1 := by split <;> simp
    simp only [putGo, List.length_append, List.length_cons]
    simp only [Bool.false_eq_true, if_false, if_true] at h0 h1
    cases d
    · by_cases h : n ≤ x
      · have hd : decide (n ≤ x) = true := by simpa using h
        rw [hd]; simp only [h, Bool.false_or, and_self, if_true, List.length_singleton, Bool.false_eq_true, if_false]; omega
      · have hd : decide (n ≤ x) = false := by simpa using h
        rw [hd]; simp only [h, Bool.false_or, and_false, if_false, List.length_nil, Bool.false_eq_true]; omega
    · simp only [Bool.true_or, Bool.true_eq_false, false_and, if_false, List.length_nil, if_true]; omega
set_option maxRecDepth 100000 in
set_option maxHeartbeats 4000000 in
theorem put_calls (w : World) (A : Option Addr) (m c : Nat) (L : List Int) (x : Int) (hr : Reads w w.heap.size 1 A m (ints L)) (hm : m ≤ 17592186044000) :
    Calls Tryd.prog 28 #[.slice A m c, .int .i64 x] w fun e w' => ∃ v n, e = .returned v ∧ Bag w w' v n (putGo x L false) := by
  obtain ⟨i3, hi3, hz30, hz31, hz32⟩ := info_parts info3
  have hl : L.length = m := by have := hr.1; simpa [ints] using this
  have HR := Lib.hid hr
  have HL := Lib.hid hl
  have B0 := Lib.hid (Bag.none_ w)
  clear hr hl
  go_enter Tryd.func28, Tryd.ntmps28
  go_wp2
  go_loopg [5, 6, 7] m (fun f v d i wr => ∃ (k n : Nat) (db : Bool) (l : List Int) (Av : Option Addr) (cv : Nat), i = .int .i64 k ∧ d = .bool db ∧ v = .slice Av n cv ∧ k + f = m ∧ n ≤ k + 1 ∧ (db = false → n ≤ k) ∧ putGo x L false = l ++ putGo x (L.drop k) db ∧ Bag w wr (.slice Av n cv) n l)
  case atStart => exact ⟨0, 0, false, [], none, 0, rfl, rfl, rfl, by omega, by omega, fun _ => Nat.le_refl _, rfl, B0.out⟩
  case round =>
    obtain ⟨k, n, db, l, Av, cv, rfl, rfl, rfl, hf, hnk, hnd, he, hB⟩ := hrel
    have HB := Lib.hid hB
    have HE := Lib.hid he
    have HF := Lib.hid hf
    have HND := Lib.hid hnd
    clear he
    by_cases hk : k < m
    · obtain ⟨y, hy⟩ : ∃ y, L[k]? = some y := ⟨_, List.getElem?_eq_getElem (by have := HL.out; omega)⟩
      obtain ⟨b, off, hA, hbl, c0⟩ := reads_int (HR.out.below hB.bel) hy
      subst hA
      have hk' : (k : Int) < m := by omega
      obtain ⟨f', hf'⟩ : ∃ f', gk = f' + 1 := ⟨gk - 1, by omega⟩
      have HF' := Lib.hid hf'
      have HD := Lib.hid (drop_at hy)
      have HY := Lib.hid hy
      have hnm : n ≤ 17592186044000 := by cases db <;> simp_all <;> omega
      clear hy hf hf' hB hnd
      cases db
      · have hn1 : n ≤ k := HND.out rfl
        by_cases hle : x ≤ y
        · by_cases hxy : y = x
          · subst hxy
            have b1 : (y != y) = false := by simp
            have ro := Lib.hid (own_below (below_new wr (.cells #[.int .i64 y] 3)) HB.out.own)
            go_wp2_with (first | (at_builtin; refine wpList_append_any _ rfl (.tmp 24) (.tmp 26) 39 rfl _ 3 i3 _ 1 8 Tryd.underlying39 hi3 hz30 hz31 hz32 rfl (by decide) _ _ _ rfl ro.out (wr.heap.size + 1) _ 1 1 [.int .i64 y] rfl (Reads_int _ _) (one_int y) (by unfold maxLen; omega) (by omega) (by have := HB.out.bel.size; exact le_alloc this _) ?_; intro v1 w1 hown hgrow _; have M1 := Lib.hid ((HB.out.later (below_new _ _)).grow hgrow hown); obtain ⟨A1, cc1, rfl, _⟩ := own_slice hown; obtain ⟨b1', off1', hA1, _, c1⟩ := reads_int ((HR.out.below M1.out.bel)) HY.out; cases hA1; have ls1 := M1.out.bel.size; clear hown hgrow))
            go_roundg f'
            case measure => have := HF'.out; omega
            case rel => exact ⟨k + 1, _, true, _, _, _, by simp, rfl, rfl, by have := HF'.out; have := HF.out; omega, by omega, by simp, by rw [HE.out, HD.out, putGo]; simp, M1.out⟩
          · have b1 : (y != x) = true := by simpa using hxy
            have HX := Lib.hid hxy
            have ro := Lib.hid (own_below (below_new wr (.cells #[.int .i64 x] 3)) HB.out.own)
            clear hxy
            go_wp2_with (first | (at_builtin; refine wpList_append_any _ rfl (.tmp 24) (.tmp 26) 39 rfl _ 3 i3 _ 1 8 Tryd.underlying39 hi3 hz30 hz31 hz32 rfl (by decide) _ _ _ rfl ro.out (wr.heap.size + 1) _ 1 1 [.int .i64 x] rfl (Reads_int _ _) (one_int x) (by unfold maxLen; omega) (by omega) (by have := HB.out.bel.size; exact le_alloc this _) ?_; intro v1 w1 hown hgrow _; have M1 := Lib.hid ((HB.out.later (below_new _ _)).grow hgrow hown); obtain ⟨A1, cc1, rfl, _⟩ := own_slice hown; obtain ⟨b1', off1', hA1, _, c1⟩ := reads_int ((HR.out.below M1.out.bel)) HY.out; cases hA1; have ro1 := Lib.hid (own_below (below_new w1 (.cells #[.int .i64 y] 3)) M1.out.own); have ls1 := M1.out.bel.size; clear hown hgrow) | (at_builtin; refine wpList_append_any _ rfl (.tmp 34) (.tmp 39) 39 rfl _ 3 i3 _ 1 8 Tryd.underlying39 hi3 hz30 hz31 hz32 rfl (by decide) _ _ _ rfl ro1.out (w1.heap.size + 1) _ 1 1 [.int .i64 y] rfl (Reads_int _ _) (one_int y) (by unfold maxLen; omega) (by omega) (by have := M1.out.bel.size; exact le_alloc this _) ?_; intro v2 w2 hown hgrow _; have M2 := Lib.hid ((M1.out.later (below_new _ _)).grow hgrow hown); obtain ⟨A2, cc2, rfl, _⟩ := own_slice hown; clear hown hgrow))
            go_roundg f'
            case measure => have := HF'.out; omega
            case rel => exact ⟨k + 1, _, true, _, _, _, by simp, rfl, rfl, by have := HF'.out; have := HF.out; omega, by omega, by simp, by rw [HE.out, HD.out, putGo]; have := HX.out; simp [this, hle], M2.out⟩
        · have b1 : (y != x) = true := by simp; omega
          have ro := Lib.hid (own_below (below_new wr (.cells #[.int .i64 y] 3)) HB.out.own)
          go_wp2_with (first | (at_builtin; refine wpList_append_any _ rfl (.tmp 34) (.tmp 39) 39 rfl _ 3 i3 _ 1 8 Tryd.underlying39 hi3 hz30 hz31 hz32 rfl (by decide) _ _ _ rfl ro.out (wr.heap.size + 1) _ 1 1 [.int .i64 y] rfl (Reads_int _ _) (one_int y) (by unfold maxLen; omega) (by omega) (by have := HB.out.bel.size; exact le_alloc this _) ?_; intro v1 w1 hown hgrow _; have M1 := Lib.hid ((HB.out.later (below_new _ _)).grow hgrow hown); obtain ⟨A1, cc1, rfl, _⟩ := own_slice hown; clear hown hgrow))
          go_roundg f'
          case measure => have := HF'.out; omega
          case rel => exact ⟨k + 1, _, false, _, _, _, by simp, rfl, rfl, by have := HF'.out; have := HF.out; omega, by omega, fun _ => by omega, by rw [HE.out, HD.out, putGo]; simp [show y ≠ x by omega, eq_false (show ¬ x ≤ y by omega)], M1.out⟩
      · by_cases hxy : y = x
        · subst hxy
          have b1 : (y != y) = false := by simp
          go_wp2
          go_roundg f'
          case measure => have := HF'.out; omega
          case rel => exact ⟨k + 1, _, true, _, _, _, by simp, rfl, rfl, by have := HF'.out; have := HF.out; omega, by omega, by simp, by rw [HE.out, HD.out, putGo]; simp, HB.out⟩
        · have b1 : (y != x) = true := by simpa using hxy
          have HX := Lib.hid hxy
          have ro := Lib.hid (own_below (below_new wr (.cells #[.int .i64 y] 3)) HB.out.own)
          clear hxy
          go_wp2_with (first | (at_builtin; refine wpList_append_any _ rfl (.tmp 34) (.tmp 39) 39 rfl _ 3 i3 _ 1 8 Tryd.underlying39 hi3 hz30 hz31 hz32 rfl (by decide) _ _ _ rfl ro.out (wr.heap.size + 1) _ 1 1 [.int .i64 y] rfl (Reads_int _ _) (one_int y) (by unfold maxLen; omega) (by omega) (by have := HB.out.bel.size; exact le_alloc this _) ?_; intro v1 w1 hown hgrow _; have M1 := Lib.hid ((HB.out.later (below_new _ _)).grow hgrow hown); obtain ⟨A1, cc1, rfl, _⟩ := own_slice hown; clear hown hgrow))
          go_roundg f'
          case measure => have := HF'.out; omega
          case rel => exact ⟨k + 1, _, true, _, _, _, by simp, rfl, rfl, by have := HF'.out; have := HF.out; omega, by omega, by simp, by rw [HE.out, HD.out, putGo]; have := HX.out; simp [this], M1.out⟩
    · have e : k = m := by omega
      subst e
      have hd : L.drop k = [] := List.drop_of_length_le (by have := HL.out; omega)
      have HD := Lib.hid hd
      clear hf hB hd
      cases db
      · have ro := Lib.hid (own_below (below_new wr (.cells #[.int .i64 x] 3)) HB.out.own)
        have hnm : n ≤ 17592186044000 := by have := HND.out rfl; omega
        go_wp2_with (first | (at_builtin; (refine wpList_append_any _ rfl (.tmp 43) (.tmp 45) 39 rfl _ 3 i3 _ 1 8 Tryd.underlying39 hi3 hz30 hz31 hz32 rfl (by decide) _ _ _ rfl ro.out (wr.heap.size + 1) _ 1 1 [.int .i64 x] rfl (Reads_int _ _) (one_int x) (by unfold maxLen; omega) (by omega) (by have := HB.out.bel.size; exact le_alloc this _) ?_; intro v1 w1 hown hgrow _; have M1 := Lib.hid ((HB.out.later (below_new wr _)).grow hgrow hown); obtain ⟨A1, cc1, rfl, _⟩ := own_slice hown; clear hown hgrow)))
        go_ret
        exact ⟨_, rfl, _, by rw [HE.out, HD.out]; exact M1.out⟩
      · go_wp2
        go_ret
        exact ⟨_, _, rfl, by rw [HE.out, HD.out]; simpa [putGo] using HB.out⟩
end Go.Proofs.YteagkdmefmpokaaDoor
