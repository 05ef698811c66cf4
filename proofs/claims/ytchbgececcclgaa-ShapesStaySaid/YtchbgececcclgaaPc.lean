/- Shapes: the program's small functions walked: a key's place, a copy, whether there is such a shape. -/
import Derived.Test.YtchbgececcclgaaPb
namespace Go.Proofs.Ytchbgececcclgaa
open Go.RowKit Go
set_option linter.unusedVariables false
set_option linter.unusedSimpArgs false
theorem size_alloc (w : World) (o : Obj) : (w.alloc o).heap.size = w.heap.size + 1 := by simp only [World.alloc]; rw [Array.size_push]
theorem str_eq (a b : ByteArray) : (a.toList == b.toList) = decide (a = b) := by
  rw [Bool.eq_iff_iff, beq_iff_eq, decide_eq_true_eq]
  refine ⟨fun h => ?_, fun h => by rw [h]⟩
  rw [ByteArray.toList_eq, ByteArray.toList_eq] at h
  exact WideShapes.bytes_inj h
def Pr.v (q : Pr) : Value := .agg #[.string q.k, .int .i64 q.f]
set_option maxRecDepth 100000 in
theorem isKey_calls (w : World) (gk : Nat) (k : ByteArray) (hk : Blk w gk 9 #[.string k]) (q : Pr) :
    Calls Try.prog 31 #[q.v, .pointer (some ⟨gk, 0, none⟩)] w fun r w' => r = .returned (.bool (decide (q.k = k))) ∧ Below w.heap.size w w' := by
  have l0 := hk.lt
  have n0 : w.heap.size ≠ gk := by omega
  have v0 := hk.cell 0
  simp only [List.getElem?_toArray, List.getElem?_cons_zero] at v0
  unfold Pr.v
  clear hk
  go_enter Try.func31, Try.ntmps31
  go_wp2
  go_ret
  exact ⟨by rw [← str_eq]; rfl, (Below.refl _ _).alloc (Nat.le_refl _) _⟩
def isKeyV (gk : Nat) : Value := .func (.func 31) #[] #[.pointer (some ⟨gk, 0, none⟩)]
theorem drop_at' {α : Type} {L : List α} {k : Nat} {e : α} (hx : L[k]? = some e) : L.drop k = e :: L.drop (k + 1) := by
  obtain ⟨h1, h2⟩ := List.getElem?_eq_some_iff.1 hx
  rw [← h2]; exact List.drop_eq_getElem_cons h1
set_option maxRecDepth 100000 in
set_option maxHeartbeats 4000000 in
theorem index_calls (w : World) (gb : Nat) (key : ByteArray) (hk : Blk w gb 9 #[.string key]) (A : Option Addr) (m c : Nat) (L : List Pr) (hr : Reads w w.heap.size 2 A m (L.flatMap pv)) (hm : m ≤ 140737488351232) :
    Calls Try.prog 30 #[.slice A m c, isKeyV gb] w fun r w' => r = .returned (.int .i64 (plc key 0 L)) ∧ Below w.heap.size w w' := by
  have hl := reads_len pv_len (by decide) hr
  have HK := Lib.hid hk
  have HR := Lib.hid hr
  have HL := Lib.hid hl
  unfold isKeyV
  clear hk hr hl
  go_enter Try.func30, Try.ntmps30
  go_wp2
  go_loopg [8] m (fun f i wr => ∃ k : Nat, i = .int .i64 k ∧ k + f = m ∧ plc key 0 L = plc key k (L.drop k) ∧ Below w.heap.size w wr)
  case atStart => exact ⟨0, rfl, by omega, rfl, Below.refl _ _⟩
  case round =>
    obtain ⟨k, rfl, hf, he, HBR⟩ := hrel
    have HE := Lib.hid he
    have HBRh := Lib.hid HBR
    clear he
    by_cases hk : k < m
    · obtain ⟨q, hx⟩ : ∃ e, L[k]? = some e := ⟨_, List.getElem?_eq_getElem (by have := HL.out; omega)⟩
      have hd := drop_at' hx
      obtain ⟨b, off, rfl, hbl, hc⟩ := reads_get pv_len (by decide) (HR.out.below HBR) hx
      have c0 : wr.cell? ⟨b, off + k * 2, none⟩ = some (.string q.k) := hc 0 _ rfl
      have c1 := hc 1 _ rfl
      have hk' : (k : Int) < m := by omega
      have HDr := Lib.hid hd
      obtain ⟨f', hf'⟩ : ∃ f', gk = f' + 1 := ⟨gk - 1, by omega⟩
      have HF' := Lib.hid hf'
      have HF := Lib.hid hf
      have K := isKey_calls wr gb key (HK.out.below HBR HK.out.lt) q
      unfold Pr.v at K
      have HP := Lib.hid (show plc key 0 L = if q.k = key then (k : Int) else plc key (k + 1) (L.drop (k + 1)) by rw [HE.out, hd, plc])
      clear hx hd hf hf' HBR hc
      by_cases hp : q.k = key
      · rw [decide_eq_true hp] at K
        rw [if_pos hp] at HP
        have K := Lib.hid K
        clear hp
        go_wp2_with (first | (go_at_call 31; (with_reducible refine K.out.mono ?_); rintro r w1 ⟨rfl, hb1⟩))
        go_ret
        exact ⟨by rw [HP.out]; rfl, HBRh.out.trans (hb1.mono HBRh.out.size)⟩
      · rw [decide_eq_false hp] at K
        rw [if_neg hp] at HP
        have K := Lib.hid K
        clear hp
        go_wp2_with (first | (go_at_call 31; (with_reducible refine K.out.mono ?_); rintro r w1 ⟨rfl, hb1⟩))
        go_roundg f'
        case measure => have := HF'.out; omega
        case rel => exact ⟨k + 1, by simp, by have := HF'.out; have := HF.out; omega, HP.out, HBRh.out.trans (hb1.mono HBRh.out.size)⟩
    · have hk' : ¬ (k : Int) < m := by omega
      go_wp2
      go_ret
      exact ⟨by rw [HE.out, List.drop_of_length_le (by have := HL.out; omega)]; rfl, HBRh.out⟩
set_option maxRecDepth 100000 in
theorem place_calls (w : World) (p : Int) (mv : Option Nat) (key : ByteArray) (A : Option Addr) (m c : Nat) (L : List Pr) (hr : Reads w w.heap.size 2 A m (L.flatMap pv)) (hm : m ≤ 140737488351232) :
    Calls Try.prog 24 #[.agg #[.int .u64 p, .slice A m c, .map mv], .string key] w fun r w' => r = .returned (.int .i64 (plc key 0 L)) ∧ Below w.heap.size w w' := by
  have b1 : Below w.heap.size w ((w.alloc (.cells #[.int .u64 p, .slice A m c, .map mv] 63)).alloc (.cells #[.string key] 9)) := ((Below.refl _ _).alloc (Nat.le_refl _) _).alloc (by rw [size_alloc]; omega) _
  have K := index_calls ((w.alloc (.cells #[.int .u64 p, .slice A m c, .map mv] 63)).alloc (.cells #[.string key] 9)) (w.heap.size + 1) key (by have := Blk.new (w.alloc (.cells #[.int .u64 p, .slice A m c, .map mv] 63)) 9 #[.string key]; rw [size_alloc] at this; exact this) A m c L ((hr.below b1).more b1.size) hm
  unfold isKeyV at K
  have K := Lib.hid K
  have B1 := Lib.hid b1
  clear hr b1
  go_enter Try.func24, Try.ntmps24
  go_wp2_with (first | (go_at_call 30; (with_reducible refine K.out.mono ?_); rintro r w1 ⟨rfl, hb1⟩))
  go_ret
  exact ⟨rfl, B1.out.trans (hb1.mono B1.out.size)⟩
theorem info66 : (Try.prog.info? 66).map (fun i => (i.zero, i.size, i.bytes)) = some (some (.agg #[.string ⟨#[]⟩, .int .i64 0]), 2, 24) := by kernel_rfl
set_option maxRecDepth 100000 in
theorem clone_calls (w : World) (A : Option Addr) (m c : Nat) (L : List Pr) (hr : Reads w w.heap.size 2 A m (L.flatMap pv)) (hm : m ≤ 1000000000000) :
    Calls Try.prog 26 #[.slice A m c] w fun r w' => ∃ v, r = .returned v ∧ w'.ownsRow w.heap.size 66 2 v m (L.flatMap pv) ∧ Below w.heap.size w w' := by
  obtain ⟨i66, hi, hz0, hz1, hz2⟩ := info_parts info66
  have hl := reads_len pv_len (by decide) hr
  cases A with
  | none =>
    have hm0 : m = 0 := by
      rcases Nat.eq_zero_or_pos m with h | h
      · exact h
      · obtain ⟨ad, h1, _⟩ := hr.2 h
        cases h1
    subst hm0
    have hL : L = [] := List.eq_nil_of_length_eq_zero hl
    subst hL
    have hnil := fun w => Lib.run_eql_slice_nil (P := Try.prog) w 60 66 none 0 c 0 0 Try.underlying60
    clear hr hl
    go_enter Try.func26, Try.ntmps26
    go_wp2
    go_ret
    exact ⟨_, rfl, World.ownsRow_nil _ _ _ _, Below.refl _ _⟩
  | some ad =>
    have hnil := fun w => Lib.run_eql_slice_nil (P := Try.prog) w 60 66 (some ad) m c 0 0 Try.underlying60
    have hr2 := Lib.hid (hr.below ((Below.refl _ w).alloc (Nat.le_refl _) (.cells #[] 66)))
    have O1 := Lib.hid (own_made0 w 66 2)
    have B1 := Lib.hid ((Below.refl w.heap.size w).alloc (Nat.le_refl _) (.cells #[] 66))
    have H1 := Lib.hid (flt_one pv_one L)
    clear hr hl
    go_enter Try.func26, Try.ntmps26
    go_wp2_with (first | (at_builtin; refine wpList_append_any _ rfl (.tmp 5) (.tmp 6) 60 rfl w.heap.size 66 i66 _ 2 24 Try.underlying60 hi hz0 hz1 hz2 rfl (by decide) _ _ _ rfl O1.out w.heap.size _ m c (L.flatMap pv) rfl hr2.out H1.out (by unfold maxLen; omega) (by omega) B1.out.size ?_; intro v1 w1 hown hgrow hat))
    go_ret
    refine ⟨_, rfl, by simpa using hown, B1.out.grown hgrow B1.out.size (fun k hk => (O1.out.lt k hk).1)⟩
/-- is a number one of so many? -/
def inR (n : Int) (m : Nat) : Bool := decide (0 ≤ n) && decide (n < (m : Int))
theorem inR_of {L : List Sh} {n : Int} : inR n L.length = (getI L n).isSome := by
  cases e : getI L n with
  | none =>
    rcases getI_none e with h | h
    · simp [inR]; omega
    · simp [inR]; omega
  | some x =>
    obtain ⟨h1, _, h2⟩ := getI_some e
    simp [inR]; omega
set_option maxRecDepth 100000 in
theorem there_calls (w : World) (B g : Nat) (most : Int) (v : Value) (D : List Nd) (rb : Nat) (R : List (Value × Value)) (h : Raw w B g most v D rb R) (n : Int) :
    Calls Try.prog 23 #[.pointer (some ⟨g, 0, none⟩), .int .i64 n] w fun r w' => r = .returned (.bool (inR n D.length)) ∧ w = w' := by
  obtain ⟨A, c, rfl⟩ := h.sl
  obtain ⟨c0, c1, c2⟩ := h.c0
  unfold inR
  generalize D.length = m at *
  clear h c0 c2
  by_cases h0 : (0 : Int) ≤ n
  · rw [decide_eq_true h0]
    by_cases h1 : n < (m : Int)
    · rw [decide_eq_true h1]
      go_enter Try.func23, Try.ntmps23
      go_wp2
      go_ret
      exact ⟨rfl, rfl⟩
    · rw [decide_eq_false h1]
      go_enter Try.func23, Try.ntmps23
      go_wp2
      go_ret
      exact ⟨rfl, rfl⟩
  · rw [decide_eq_false h0]
    go_enter Try.func23, Try.ntmps23
    go_wp2
    go_ret
    exact ⟨rfl, rfl⟩
theorem count_calls (w : World) (B g : Nat) (most : Int) (v : Value) (D : List Nd) (rb : Nat) (R : List (Value × Value)) (h : Raw w B g most v D rb R) :
    Calls Try.prog 11 #[.pointer (some ⟨g, 0, none⟩)] w fun r w' => r = .returned (.int .i64 D.length) ∧ w = w' := by
  obtain ⟨A, c, rfl⟩ := h.sl
  obtain ⟨c0, c1, c2⟩ := h.c0
  generalize D.length = m at *
  clear h c0 c2
  go_enter Try.func11, Try.ntmps11
  go_wp2
  go_ret
  exact ⟨rfl, rfl⟩
end Go.Proofs.Ytchbgececcclgaa
