/- Shapes: a tree of one key; a step of the law. -/
import Derived.Test.YtchbgececcclgaaPq
namespace Go.Proofs.Ytchbgececcclgaa
open Go.RowKit Go
set_option linter.unusedVariables false
set_option linter.unusedSimpArgs false
def strA : ByteArray := ⟨#[97]⟩
def L1 : List Sh := [⟨7, [], []⟩]
def L2 : List Sh := [⟨7, [], []⟩, ⟨7, [⟨strA, 3⟩], [⟨false, strA, 3⟩]⟩]
theorem al1 : rootP 5 [] 7 = (L1, 0, true) := by rfl
theorem al2 : addP 5 L1 0 strA 3 = (L2, 1, true) := by decide
theorem al3 : findP L2 1 strA = (0, 3, true) := by decide
theorem ok7 : okU 7 := by unfold okU; decide
theorem ok3 : okF 3 := by unfold okF; decide
theorem okA : okK strA := by unfold okK maxLen; decide
theorem wf1 : WF L1 := by have := (rootP_grown 5 WF.nil ok7).wf; rw [al1] at this; exact this
theorem wf2 : WF L2 := by have := (addP_grown 5 wf1 (n := 0) okA ok3).wf; rw [al2] at this; exact this
set_option maxRecDepth 100000 in
set_option maxHeartbeats 4000000 in
theorem alive_calls (w : World) : Calls Try.prog 8 #[] w fun e w' => e = .returned (.bool true) ∧ Below w.heap.size w w' := by
  have NC := Lib.hid (new_calls w 5)
  have RC := Lib.hid (fun w' g (h : TreeIs w' w.heap.size g 5 []) => show Calls Try.prog 15 #[.pointer (some ⟨g, 0, none⟩), .int .u64 7] w' (Gives w' w.heap.size g 5 (L1, 0, true)) from al1 ▸ root_calls w' w.heap.size g 5 [] h WF.nil 7 ok7 (by simp))
  have AC := Lib.hid (fun w' g (h : TreeIs w' w.heap.size g 5 L1) => show Calls Try.prog 10 #[.pointer (some ⟨g, 0, none⟩), .int .i64 0, .string ⟨#[97]⟩, .int .i64 3] w' (Gives w' w.heap.size g 5 (L2, 1, true)) from al2 ▸ add_calls w' w.heap.size g 5 L1 h wf1 0 strA 3 okA ok3 (by simp [L1]))
  have FC := Lib.hid (fun w' g (h : TreeIs w' w.heap.size g 5 L2) => show Calls Try.prog 13 #[.pointer (some ⟨g, 0, none⟩), .int .i64 1, .string ⟨#[97]⟩] w' (fun e w'' => e = .returned (.tuple #[.int .i64 0, .int .i64 3, .bool true]) ∧ Below w'.heap.size w' w'') from by have := find_calls w' w.heap.size g 5 L2 h wf2 1 strA (by simp [L2]); rw [al3] at this; exact this)
  have CC := Lib.hid (fun w' g (h : TreeIs w' w.heap.size g 5 L2) => show Calls Try.prog 11 #[.pointer (some ⟨g, 0, none⟩)] w' (fun e w'' => e = .returned (.int .i64 2) ∧ w' = w'') from tree_count h)
  go_enter Try.func8, Try.ntmps8
  go_wp2_with (first | (go_at_call 7; (with_reducible refine NC.out.mono ?_); rintro e w1 ⟨g, rfl, ht1, hb1⟩; have ht1 := Lib.hid ht1; have hb1 := Lib.hid hb1) |
    (go_at_call 15; (with_reducible refine (RC.out _ g ht1.out).mono ?_); rintro e w2 ⟨rfl, ht2, k2⟩; have ht2 := Lib.hid ht2; have k2 := Lib.hid k2) |
    (go_at_call 10; (with_reducible refine (AC.out _ g ht2.out).mono ?_); rintro e w3 ⟨rfl, ht3, k3⟩; have ht3 := Lib.hid ht3; have k3 := Lib.hid k3) |
    (go_at_call 13; (with_reducible refine (FC.out _ g ht3.out).mono ?_); rintro e w4 ⟨rfl, hb4⟩; have hb4 := Lib.hid hb4) |
    (go_at_call 11; (with_reducible refine (CC.out _ g (ht3.out.below hb4.out)).mono ?_); rintro e w5 ⟨rfl, rfl⟩))
  go_ret
  have b2 := hb1.out.trans k2.out.bel
  have b3 := b2.trans k3.out.bel
  exact ⟨rfl, b3.trans (hb4.out.mono b3.size)⟩
end Go.Proofs.Ytchbgececcclgaa
