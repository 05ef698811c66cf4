/- Caches: what is struck out; IndexFunc walked. -/
import Derived.Test.YtnljofhpofeppaaCb
import Derived.Lib.SliceRun
namespace Go.Proofs.Ytnljofhpofeppaa.Cz
open Go.RowKit Go
set_option linter.unusedVariables false
set_option linter.unusedSimpArgs false
theorem drop_at' {L : List En} {k : Nat} {e : En} (hx : L[k]? = some e) : L.drop k = e :: L.drop (k + 1) := by
  obtain ⟨h1, h2⟩ := List.getElem?_eq_some_iff.1 hx
  rw [← h2]; exact List.drop_eq_getElem_cons h1
/-- what a new entry strikes out. -/
def del (V : Int → Bool) (e x : En) : Bool := (x.s == e.s) || !hld V x
def delV (ge gv : Nat) : Value := .func (.func 21) #[] #[.pointer (some ⟨ge, 0, none⟩), .pointer (some ⟨gv, 0, none⟩)]
set_option maxRecDepth 100000 in
theorem del_calls (w : World) (F : Nat) (caps : Array Value) (V : Int → Bool) (HA : Asks w F caps V) (x e : En) (ge gv : Nat) (h1 : Blk w ge 39 e.b) (h2 : Blk w gv 40 #[.func (.func F) #[] caps]) :
    Calls Try.prog 21 #[x.v, .pointer (some ⟨ge, 0, none⟩), .pointer (some ⟨gv, 0, none⟩)] w fun r w' => r = .returned (.bool (del V e x)) ∧ Below w.heap.size w w' := by
  have hb0 : Below w.heap.size w (w.alloc (.cells #[.int .i64 x.s, .int .i64 x.h, .int .i64 x.o, .int .i64 x.c] 39)) := (Below.refl _ _).alloc (Nat.le_refl _) _
  have K := holds_calls (w.alloc (.cells #[.int .i64 x.s, .int .i64 x.h, .int .i64 x.o, .int .i64 x.c] 39)) F caps V (HA.later hb0) x
  obtain ⟨e0, e1, e2, e3, _, _, _, _⟩ := h1.four
  have v0 := h2.cell 0
  simp only [List.getElem?_toArray, List.getElem?_cons_zero] at v0
  have l0 := h1.lt
  have l1 := h2.lt
  have n0 : w.heap.size ≠ ge := by omega
  have n1 : w.heap.size ≠ gv := by omega
  have HB0 := Lib.hid hb0
  unfold del En.v at *
  clear HA h1 h2 hb0
  by_cases hs : x.s = e.s
  · have hsb : (x.s == e.s) = true := by simpa using hs
    rw [hsb, Bool.true_or]
    clear K hs
    go_enter Try.func21, Try.ntmps21
    go_wp2
    go_ret
    exact ⟨rfl, HB0.out⟩
  · have hsb : (x.s == e.s) = false := by simpa using hs
    rw [hsb, Bool.false_or]
    clear hs
    generalize hld V x = u at *
    have K := Lib.hid K
    go_enter Try.func21, Try.ntmps21
    go_wp2_with (first | (go_at_call 22; (with_reducible refine K.out.mono ?_); rintro r w1 ⟨rfl, hb1⟩))
    go_ret
    exact ⟨rfl, HB0.out.trans (hb1.mono HB0.out.size)⟩
/-- the place of the first that is struck out. -/
def idxF (p : En → Bool) : List En → Nat → Int
  | [], _ => -1
  | e :: L, k => if p e then (k : Int) else idxF p L (k + 1)
/-- a function value that says of each entry whether it is struck out, in every world behind this one. -/
def Dels (W0 : World) (ge gv : Nat) (p : En → Bool) : Prop :=
  ∀ (w : World) (x : En), Below W0.heap.size W0 w → Calls Try.prog 21 #[x.v, .pointer (some ⟨ge, 0, none⟩), .pointer (some ⟨gv, 0, none⟩)] w fun r w' => r = .returned (.bool (p x)) ∧ Below w.heap.size w w'
set_option maxRecDepth 100000 in
set_option maxHeartbeats 4000000 in
theorem index_calls (W0 : World) (ge gv : Nat) (p : En → Bool) (HD : Dels W0 ge gv p) (w : World) (hb : Below W0.heap.size W0 w) (A : Option Addr) (m c : Nat) (L : List En) (hr : Reads w w.heap.size 4 A m (ef L)) (hm : m ≤ 140737488351232) :
    Calls Try.prog 29 #[.slice A m c, delV ge gv] w fun r w' => r = .returned (.int .i64 (idxF p L 0)) ∧ Below w.heap.size w w' := by
  have hl := reads_len hr
  have HDh := Lib.hid HD
  have HB := Lib.hid hb
  have HR := Lib.hid hr
  have HL := Lib.hid hl
  unfold delV
  clear HD hb hr hl
  go_enter Try.func29, Try.ntmps29
  go_wp2
  go_loopg [8] m (fun f i wr => ∃ k : Nat, i = .int .i64 k ∧ k + f = m ∧ idxF p L 0 = idxF p (L.drop k) k ∧ Below w.heap.size w wr)
  case atStart => exact ⟨0, rfl, by omega, rfl, Below.refl _ _⟩
  case round =>
    obtain ⟨k, rfl, hf, he, HBR⟩ := hrel
    have HE := Lib.hid he
    have HBRh := Lib.hid HBR
    clear he
    by_cases hk : k < m
    · obtain ⟨e, hx⟩ : ∃ e, L[k]? = some e := ⟨_, List.getElem?_eq_getElem (by have := HL.out; omega)⟩
      have hd := drop_at' hx
      obtain ⟨b, off, rfl, hbl, c0, c1, c2, c3⟩ := reads_at (HR.out.below HBR) hx
      have hk' : (k : Int) < m := by omega
      have HDr := Lib.hid hd
      obtain ⟨f', hf'⟩ : ∃ f', gk = f' + 1 := ⟨gk - 1, by omega⟩
      have HF' := Lib.hid hf'
      have HF := Lib.hid hf
      have K := HDh.out wr e (HB.out.trans (HBR.mono HB.out.size))
      unfold En.v at K
      have HP := Lib.hid (show idxF p L 0 = if p e then (k : Int) else idxF p (L.drop (k + 1)) (k + 1) by rw [HE.out, hd, idxF])
      clear hx hd hf hf' HBR
      cases hp : p e
      · rw [hp] at K HP
        have K := Lib.hid K
        clear hp
        go_wp2_with (first | (go_at_call 21; (with_reducible refine K.out.mono ?_); rintro r w1 ⟨rfl, hb1⟩))
        go_roundg f'
        case measure => have := HF'.out; omega
        case rel => exact ⟨k + 1, by simp, by have := HF'.out; have := HF.out; omega, by rw [HP.out]; rfl, HBRh.out.trans (hb1.mono HBRh.out.size)⟩
      · rw [hp] at K HP
        have K := Lib.hid K
        clear hp
        go_wp2_with (first | (go_at_call 21; (with_reducible refine K.out.mono ?_); rintro r w1 ⟨rfl, hb1⟩))
        go_ret
        exact ⟨by rw [HP.out]; rfl, HBRh.out.trans (hb1.mono HBRh.out.size)⟩
    · have hk' : ¬ (k : Int) < m := by omega
      go_wp2
      go_ret
      exact ⟨by rw [HE.out, List.drop_of_length_le (by have := HL.out; omega)]; rfl, HBRh.out⟩
end Go.Proofs.Ytnljofhpofeppaa.Cz
