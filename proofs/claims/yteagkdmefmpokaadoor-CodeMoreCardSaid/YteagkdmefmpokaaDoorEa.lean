/- Code: the operands' letters; within, ends. -/
import Derived.Test.YteagkdmefmpokaaDoorDc
namespace Go.Proofs.YteagkdmefmpokaaDoor
open Go.RowKit Go
set_option linter.unusedVariables false
set_option linter.unusedSimpArgs false
/-- the letters of each operation. -/
def tbl : List (List UInt8) := [[45, 45, 45], [119, 107, 45], [119, 115, 45], [119, 114, 45], [119, 45, 45], [119, 45, 45], [119, 98, 45], [119, 45, 45], [119, 114, 45], [114, 114, 45], [119, 99, 45], [114, 120, 45], [119, 102, 45], [119, 114, 104], [119, 114, 114], [119, 114, 45], [119, 114, 45], [119, 114, 45], [119, 114, 45], [119, 114, 45], [119, 114, 45], [119, 114, 114], [119, 114, 114], [119, 114, 114], [119, 114, 114], [119, 114, 114], [119, 114, 114], [119, 114, 114], [119, 114, 114], [119, 114, 114], [119, 114, 114], [119, 114, 114], [119, 114, 114], [119, 114, 114], [119, 114, 114], [119, 114, 114], [119, 114, 114], [119, 114, 114], [119, 114, 114], [119, 114, 114], [119, 114, 114], [114, 114, 114], [119, 114, 120], [114, 120, 114], [119, 114, 114], [119, 114, 114], [119, 114, 114], [119, 45, 45], [119, 45, 45], [114, 114, 45], [114, 114, 114], [114, 114, 114], [114, 114, 114], [119, 114, 110], [119, 114, 110], [114, 45, 45], [114, 45, 45], [116, 45, 45], [114, 116, 45], [114, 116, 45], [119, 119, 45], [119, 45, 45], [114, 45, 45]]
def str (l : List UInt8) : ByteArray := ⟨l.toArray⟩
/-- an operation's letters; none, if there is no such one. -/
def shp (op : Int) : List UInt8 := if 0 ≤ op ∧ op < 63 then tbl.getD op.toNat [] else []
theorem tbl_length : tbl.length = 63 := by decide
theorem tbl_three : ∀ l ∈ tbl, l.length = 3 := by decide
theorem shp_in {k : Nat} (h : k < 63) : ∃ l, tbl[k]? = some l ∧ shp (k : Int) = l ∧ l.length = 3 := by
  have h' : k < tbl.length := by rw [tbl_length]; exact h
  refine ⟨tbl[k], List.getElem?_eq_getElem h', ?_, tbl_three _ (List.getElem_mem h')⟩
  unfold shp
  rw [if_pos ⟨by omega, by omega⟩]
  simp [List.getD, List.getElem?_eq_getElem h']
theorem shp_out {op : Int} (h : op < 0 ∨ 63 ≤ op) : shp op = [] := by
  unfold shp; rw [if_neg (by omega)]
/-- the program's table, in memory. -/
def Tab (w : World) : Prop := w.heap.size ≠ 0 ∧ ∀ (k : Nat) (l : List UInt8), tbl[k]? = some l → w.cell? ⟨0, k, none⟩ = some (.string (str l))
theorem Tab.later {w w' : World} (h : Tab w) (b : Below w.heap.size w w') : Tab w' :=
  ⟨by have := b.size; have := h.1; omega, fun k l hk => (b.cell (p := ⟨0, k, none⟩) (by have := h.1; show 0 < w.heap.size; omega)).trans (h.2 k l hk)⟩

set_option maxRecDepth 100000 in
theorem shape_calls (w : World) (op : Int) (hT : Tab w) : Calls Tryd.prog 12 #[.int .i64 op] w fun e w' => e = .returned (.string (str (shp op))) ∧ w = w' := by
  by_cases h : 0 ≤ op ∧ op < 63
  · obtain ⟨h0, h1⟩ := h
    obtain ⟨k, rfl⟩ : ∃ k : Nat, op = k := ⟨op.toNat, by omega⟩
    have hk : k < 63 := by omega
    obtain ⟨l, hl, hs, _⟩ := shp_in hk
    have c := hT.2 k l hl
    rw [hs]
    clear hs hl hT
    have h0' : ¬ (k : Int) < 0 := by omega
    go_enter Tryd.func12, Tryd.ntmps12
    go_wp2
    go_ret
    exact ⟨rfl, rfl⟩
  · have h' : op < 0 ∨ 63 ≤ op := by omega
    rw [shp_out h']
    clear h hT
    rcases h' with h | h
    · go_enter Tryd.func12, Tryd.ntmps12
      go_wp2
      go_ret
      exact ⟨rfl, rfl⟩
    · have h0 : ¬ op < 0 := by omega
      go_enter Tryd.func12, Tryd.ntmps12
      go_wp2
      go_ret
      exact ⟨rfl, rfl⟩
def within (n m : Int) : Bool := decide (0 ≤ n) && decide (n < m)
theorem within_calls (w : World) (n m : Int) : Calls Tryd.prog 24 #[.int .i64 n, .int .i64 m] w fun e w' => e = .returned (.bool (within n m)) ∧ w = w' := by
  unfold within
  by_cases h : 0 ≤ n
  · go_enter Tryd.func24, Tryd.ntmps24
    go_wp2
    go_ret
    exact ⟨by simp [h], rfl⟩
  · go_enter Tryd.func24, Tryd.ntmps24
    go_wp2
    go_ret
    exact ⟨by simp; omega, rfl⟩
def ends (op : Int) : Bool := (op == 55) || ((op == 56) || (op == 57))
theorem ends_calls (w : World) (op : Int) : Calls Tryd.prog 25 #[.int .i64 op] w fun e w' => e = .returned (.bool (ends op)) ∧ w = w' := by
  unfold ends
  cases h1 : (op == 55)
  · cases h2 : (op == 56)
    · go_enter Tryd.func25, Tryd.ntmps25
      go_wp2
      go_ret
      exact ⟨by simp [*], rfl⟩
    · go_enter Tryd.func25, Tryd.ntmps25
      go_wp2
      go_ret
      exact ⟨by simp [*], rfl⟩
  · go_enter Tryd.func25, Tryd.ntmps25
    go_wp2
    go_ret
    exact ⟨by simp [*], rfl⟩
theorem rends_calls (w : World) (op : Int) : Calls Tryd.prog 19 #[.int .i64 op] w fun e w' => e = .returned (.bool (ends op)) ∧ w = w' := by
  unfold ends
  cases h1 : (op == 55)
  · cases h2 : (op == 56)
    · go_enter Tryd.func19, Tryd.ntmps19
      go_wp2
      go_ret
      exact ⟨by simp [*], rfl⟩
    · go_enter Tryd.func19, Tryd.ntmps19
      go_wp2
      go_ret
      exact ⟨by simp [*], rfl⟩
  · go_enter Tryd.func19, Tryd.ntmps19
    go_wp2
    go_ret
    exact ⟨by simp [*], rfl⟩
def strs (l : List (List UInt8)) : List Value := l.map fun s => .string (str s)
set_option maxRecDepth 100000 in
theorem rshapes_calls (w : World) : Calls Tryd.prog 23 #[] w fun e w' => e = .returned (.slice (some ⟨w.heap.size, 0, none⟩) 63 63) ∧ w' = w.alloc (.cells (strs tbl).toArray 9) := by
  go_enter Tryd.func23, Tryd.ntmps23
  go_wp2
  go_ret
  exact ⟨rfl, rfl⟩
set_option maxRecDepth 100000 in
theorem rshape_calls (w : World) (op : Int) : Calls Tryd.prog 13 #[.int .i64 op] w fun e w' => e = .returned (.string (str (shp op))) ∧ Below w.heap.size w w' := by
  have KS := Lib.hid (rshapes_calls w)
  have HB := Lib.hid (below_new w (.cells (strs tbl).toArray 9))
  by_cases h : 0 ≤ op ∧ op < 63
  · obtain ⟨h0, h1⟩ := h
    obtain ⟨k, rfl⟩ : ∃ k : Nat, op = k := ⟨op.toNat, by omega⟩
    have hk : k < 63 := by omega
    obtain ⟨l, hl, hs, _⟩ := shp_in hk
    have c : (w.alloc (.cells (strs tbl).toArray 9)).cell? ⟨w.heap.size, k, none⟩ = some (.string (str l)) := by
      refine ((Blk.new w 9 (strs tbl).toArray).cell k).trans ?_
      simp [strs, hl]
    rw [hs]
    generalize (strs tbl).toArray = X at *
    clear hs hl
    have h0' : ¬ (k : Int) < 0 := by omega
    go_enter Tryd.func13, Tryd.ntmps13
    go_wp2_with (go_at_call 23; (with_reducible refine KS.out.mono ?_); rintro e w' ⟨rfl, rfl⟩)
    go_ret
    exact ⟨rfl, HB.out⟩
  · have h' : op < 0 ∨ 63 ≤ op := by omega
    rw [shp_out h']
    generalize (strs tbl).toArray = X at *
    clear h
    rcases h' with h | h
    · go_enter Tryd.func13, Tryd.ntmps13
      go_wp2_with (go_at_call 23; (with_reducible refine KS.out.mono ?_); rintro e w' ⟨rfl, rfl⟩)
      go_ret
      exact ⟨rfl, HB.out⟩
    · have h0 : ¬ op < 0 := by omega
      go_enter Tryd.func13, Tryd.ntmps13
      go_wp2_with (go_at_call 23; (with_reducible refine KS.out.mono ?_); rintro e w' ⟨rfl, rfl⟩)
      go_ret
      exact ⟨rfl, HB.out⟩
end Go.Proofs.YteagkdmefmpokaaDoor
