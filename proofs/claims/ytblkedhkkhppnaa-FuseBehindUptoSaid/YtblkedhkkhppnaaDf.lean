/- Fuse: the search for the next start; room. -/
import Derived.Test.YtblkedhkkhppnaaDe
namespace Go.Proofs.Ytblkedhkkhppnaa
open Go.RowKit Go
set_option linter.unusedVariables false
set_option linter.unusedSimpArgs false
/-- what SearchInts looks at. -/
structure Looks (w : World) (ga gx : Nat) (A : Option Addr) (n c : Nat) (L : List Int) (x : Int) : Prop where
  a : Blk w ga 40 #[.slice A n c]
  x : Blk w gx 3 #[.int .i64 x]
  r : Reads w w.heap.size 1 A n (ints L)
  n : n ≤ 17592186044000
theorem Looks.later {w w' : World} {ga gx : Nat} {A : Option Addr} {n c : Nat} {L : List Int} {x : Int} (h : Looks w ga gx A n c L x) (b : Below w.heap.size w w') : Looks w' ga gx A n c L x :=
  ⟨h.a.below b h.a.lt, h.x.below b h.x.lt, (h.r.below b).more b.size, h.n⟩
theorem one_cell {w : World} {g : Nat} {t : TypeId} {v : Value} (h : Blk w g t #[v]) : w.cell? ⟨g, 0, none⟩ = some v := (h.cell 0).trans rfl
set_option maxRecDepth 100000 in
theorem look_calls (w : World) (ga gx : Nat) (A : Option Addr) (n c : Nat) (L : List Int) (x y : Int) (i : Nat) (h : Looks w ga gx A n c L x) (hy : L[i]? = some y) :
    Calls Try.prog 28 #[.int .i64 i, .pointer (some ⟨ga, 0, none⟩), .pointer (some ⟨gx, 0, none⟩)] w fun e w' => e = .returned (.bool (decide (x ≤ y))) ∧ Below w.heap.size w w' := by
  obtain ⟨b, off, hA, hb, hc⟩ := reads_int h.r hy
  have hl : L.length = n := by have := h.r.1; simpa [ints] using this
  have ha := one_cell h.a
  have hx := one_cell h.x
  have hi : i < n := by have := (List.getElem?_eq_some_iff.1 hy).1; omega
  have hi' : (i : Int) < n := by omega
  subst hA
  have hq := fun m => Lib.hid (below_drewN (Below.refl w.heap.size w) m)
  replace hq := Lib.hid hq
  clear h hl hy
  go_enter Try.func28, Try.ntmps28
  go_wp2
  go_quiet (fail)
  go_wp2
  go_ret
  exact ⟨rfl, (hq.out _).out⟩
/-- where a number is to stand among numbers in order. -/
def Place (L : List Int) (x : Int) (i : Nat) : Prop := (∀ j y, L[j]? = some y → j < i → y < x) ∧ (∀ j y, L[j]? = some y → i ≤ j → x ≤ y)
theorem rising_le {L : List Int} (h : Rising L) {i j : Nat} {x y : Int} (hi : L[i]? = some x) (hj : L[j]? = some y) (hij : i ≤ j) : x ≤ y := by
  rcases Nat.eq_or_lt_of_le hij with rfl | hlt
  · rw [hi] at hj; cases hj; omega
  · obtain ⟨h1, h2⟩ := List.getElem?_eq_some_iff.1 hi
    obtain ⟨h3, h4⟩ := List.getElem?_eq_some_iff.1 hj
    have := List.pairwise_iff_getElem.1 h i j h1 h3 hlt
    rw [h2, h4] at this
    exact this
set_option maxRecDepth 100000 in
set_option maxHeartbeats 8000000 in
theorem search_calls (w : World) (ga gx : Nat) (A : Option Addr) (n c : Nat) (L : List Int) (x : Int) (h : Looks w ga gx A n c L x) (hr : Rising L) :
    Calls Try.prog 27 #[.int .i64 n, .func (.func 28) #[] #[.pointer (some ⟨ga, 0, none⟩), .pointer (some ⟨gx, 0, none⟩)]] w fun e w' => ∃ i : Nat, e = .returned (.int .i64 i) ∧ i ≤ n ∧ Place L x i ∧ Below w.heap.size w w' := by
  have hl : L.length = n := by have := h.r.1; simpa [ints] using this
  have hn := h.n
  have HL := Lib.hid hl
  have HH := Lib.hid h
  have HR := Lib.hid hr
  clear h hl hr
  go_enter Try.func27, Try.ntmps27
  go_wp2
  go_loopg [5, 6] n (fun f i j wr => ∃ (p q : Nat), i = .int .i64 p ∧ j = .int .i64 q ∧ p + f = q ∧ q ≤ n ∧ (∀ j y, L[j]? = some y → j < p → y < x) ∧ (∀ j y, L[j]? = some y → q ≤ j → x ≤ y) ∧ Below w.heap.size w wr)
  case atStart => exact ⟨0, n, rfl, rfl, by omega, by omega, fun j y _ hj => by omega, fun j y hj hq => by have := (List.getElem?_eq_some_iff.1 hj).1; have := HL.out; omega, Below.refl _ _⟩
  case round =>
    obtain ⟨p, q, rfl, rfl, hf, hq, hlo, hhi, hB⟩ := hrel
    have HLO := Lib.hid hlo
    have HHI := Lib.hid hhi
    have HB := Lib.hid hB
    by_cases hpq : p < q
    · have hpq' : (p : Int) < q := by omega
      obtain ⟨y, hy⟩ : ∃ y, L[(p + q) / 2]? = some y := ⟨_, List.getElem?_eq_getElem (by have := HL.out; omega)⟩
      have K := look_calls wr ga gx A n c L x y _ (HH.out.later hB) hy
      rw [show (((p + q) / 2 : Nat) : Int) = ((p : Int) + q) / 2 by omega] at K
      have HY := Lib.hid hy
      clear hlo hhi hB hy
      by_cases hxy : x ≤ y
      · rw [show decide (x ≤ y) = true by simpa using hxy] at K
        have HX := Lib.hid hxy
        replace K := Lib.hid K
        clear hxy
        go_wp2_with (first | (go_at_call 28; (with_reducible refine K.out.mono ?_); rintro r w1 ⟨rfl, hb1⟩))
        go_roundg ((p + q) / 2 - p)
        case measure => omega
        case rel => exact ⟨p, (p + q) / 2, rfl, by simp, by omega, by omega, HLO.out, fun j z hj hq => Int.le_trans HX.out (rising_le HR.out HY.out hj hq), below_via HB.out hb1⟩
      · rw [show decide (x ≤ y) = false by simpa using hxy] at K
        have HX := Lib.hid hxy
        replace K := Lib.hid K
        clear hxy
        go_wp2_with (first | (go_at_call 28; (with_reducible refine K.out.mono ?_); rintro r w1 ⟨rfl, hb1⟩))
        go_roundg (q - ((p + q) / 2 + 1))
        case measure => omega
        case rel => exact ⟨(p + q) / 2 + 1, q, by simp, rfl, by omega, by omega, fun j z hj hq => by have := rising_le HR.out hj HY.out (by omega); have := HX.out; omega, HHI.out, below_via HB.out hb1⟩
    · have e : p = q := by omega
      have hpq' : ¬ (p : Int) < q := by omega
      clear hlo hhi hB
      go_wp2
      go_ret
      exact ⟨q, rfl, by omega, ⟨by rw [← e]; exact HLO.out, HHI.out⟩, HB.out⟩
set_option maxRecDepth 100000 in
theorem searchInts_calls (w : World) (A : Option Addr) (n c : Nat) (L : List Int) (x : Int) (hrd : Reads w w.heap.size 1 A n (ints L)) (hn : n ≤ 17592186044000) (hr : Rising L) :
    Calls Try.prog 23 #[.slice A n c, .int .i64 x] w fun e w' => ∃ i : Nat, e = .returned (.int .i64 i) ∧ i ≤ n ∧ Place L x i ∧ Below w.heap.size w w' := by
  have B0 := below_alloc (below_new w (.cells #[.slice A n c] 40)) (.cells #[.int .i64 x] 3)
  have hk : Looks ((w.alloc (.cells #[.slice A n c] 40)).alloc (.cells #[.int .i64 x] 3)) w.heap.size (w.heap.size + 1) A n c L x := by
    refine ⟨(Blk.new w 40 _).alloc _, ?_, (hrd.below B0).more B0.size, hn⟩
    have := Blk.new (w.alloc (.cells #[.slice A n c] 40)) 3 #[.int .i64 x]
    rwa [size_alloc] at this
  have K := Lib.hid (search_calls _ _ _ _ _ _ _ _ hk hr)
  replace B0 := Lib.hid B0
  clear hrd hk
  go_enter Try.func23, Try.ntmps23
  go_wp2_with (first | (go_at_call 27; (with_reducible refine K.out.mono ?_); rintro r w1 ⟨i, rfl, hi, hp, hb1⟩))
  go_ret
  exact ⟨i, rfl, hi, hp, below_via B0.out hb1⟩
/-- where the next start is, or the end. -/
def room (L : List Int) (n k : Nat) : Int := match L.find? (fun y => decide ((k : Int) + 1 ≤ y)) with | some y => min n y | none => n
theorem room_none {L : List Int} {n k : Nat} (h : Place L ((k : Int) + 1) L.length) : room L n k = n := by
  unfold room
  have : L.find? (fun y => decide ((k : Int) + 1 ≤ y)) = none := by
    rw [List.find?_eq_none]
    intro y hy
    obtain ⟨j, hj, e⟩ := List.getElem_of_mem hy
    have := h.1 j y (by rw [List.getElem?_eq_getElem hj, e]) hj
    simp; omega
  rw [this]
theorem room_some {L : List Int} {n k i : Nat} {y : Int} (h : Place L ((k : Int) + 1) i) (hy : L[i]? = some y) : room L n k = min (n : Int) y := by
  unfold room
  have : L.find? (fun y => decide ((k : Int) + 1 ≤ y)) = some y := by
    rw [List.find?_eq_some_iff_getElem]
    obtain ⟨h1, h2⟩ := List.getElem?_eq_some_iff.1 hy
    refine ⟨by simpa using h.2 i y hy (Nat.le_refl _), i, h1, h2, fun j hj => ?_⟩
    have := h.1 j _ (List.getElem?_eq_getElem (by omega)) hj
    simp; omega
  rw [this]
set_option maxRecDepth 100000 in
theorem room_calls (w : World) (h : Hd) (A : Option Addr) (n c : Nat) (L : List Int) (k : Nat) (hrd : Reads w w.heap.size 1 A n (ints L)) (hn : n ≤ 17592186044000) (hr : Rising L) (hk : k < h.nc) (hnc : h.nc ≤ 140737488351232) :
    Calls Try.prog 13 #[h.v, .slice A n c, .int .i64 k] w fun e w' => e = .returned (.int .i64 (room L h.nc k)) ∧ Below w.heap.size w w' := by
  have hl : L.length = n := by have := hrd.1; simpa [ints] using this
  have B0 := below_new w (.cells h.b 27)
  have hrd' := (hrd.below B0).more B0.size
  have K := searchInts_calls (h.box w) A n c L ((k : Int) + 1) hrd' hn hr
  have hC := Lib.hid (fun (wr : World) (b : Below (h.box w).heap.size (h.box w) wr) => h.cells b)
  unfold Hd.box Hd.b at K
  replace K := Lib.hid K
  replace B0 := Lib.hid B0
  have HRD := Lib.hid hrd'
  have HL := Lib.hid hl
  unfold Hd.v
  clear hrd hrd' hl
  go_enter Try.func13, Try.ntmps13
  go_upto_region 3 with (first | (go_at_call 23; (with_reducible refine K.out.mono ?_); rintro r w1 ⟨i, rfl, hi, hp, hb1⟩))
  have HP := Lib.hid hp
  have HB1 := Lib.hid (below_via B0.out hb1)
  by_cases hin : i < n
  · obtain ⟨y, hy⟩ : ∃ y, L[i]? = some y := ⟨_, List.getElem?_eq_getElem (by have := HL.out; omega)⟩
    obtain ⟨b, off, hA, hbl, c0⟩ := reads_int (HRD.out.below hb1) hy
    have hin' : (i : Int) < n := by omega
    have HR := Lib.hid (room_some (n := h.nc) hp hy)
    subst hA
    clear hb1 hp hy
    go_wp2
    go_ret
    exact ⟨by rw [HR.out]; rfl, HB1.out⟩
  · have hin' : ¬ (i : Int) < n := by omega
    have HR := Lib.hid (room_none (n := h.nc) (L := L) (k := k) (by rw [show L.length = i by have := HL.out; omega]; exact hp))
    clear hb1 hp
    go_wp2
    go_ret
    exact ⟨by rw [HR.out]; rfl, HB1.out⟩
end Go.Proofs.Ytblkedhkkhppnaa
