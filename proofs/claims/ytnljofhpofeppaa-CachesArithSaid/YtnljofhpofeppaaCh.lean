/- Caches: who is asked; the laws' first look. -/
import Derived.Test.YtnljofhpofeppaaCg
namespace Go.Proofs.Ytnljofhpofeppaa.Cz
open Go.RowKit Go
set_option linter.unusedVariables false
set_option linter.unusedSimpArgs false
theorem asks22 (w : World) : Asks w 12 #[] (fun _ => false) := ⟨enter_of Try.func12 (by kernel_rfl) (by kernel_rfl), fun w n _ => by
  go_enter Try.func12, Try.ntmps12
  go_wp2
  go_ret
  exact ⟨rfl, rfl⟩⟩
theorem asks23 (w : World) : Asks w 14 #[] (fun _ => false) := ⟨enter_of Try.func14 (by kernel_rfl) (by kernel_rfl), fun w n _ => by
  go_enter Try.func14, Try.ntmps14
  go_wp2
  go_ret
  exact ⟨rfl, rfl⟩⟩
theorem below_via {w w1 w2 : World} (h : Below w.heap.size w w1) (k : Below w1.heap.size w1 w2) : Below w.heap.size w w2 := h.trans (k.mono h.size)
theorem below_alloc {w w1 : World} (h : Below w.heap.size w w1) (o : Obj) : Below w.heap.size w (w1.alloc o) := h.alloc h.size o
theorem fndV_some (e : En) : fndV (some e) = .tuple #[.agg #[.int .i64 e.s, .int .i64 e.h, .int .i64 e.o, .int .i64 e.c], .bool true] := rfl
theorem fndV_none : fndV none = .tuple #[.agg #[.int .i64 0, .int .i64 0, .int .i64 0, .int .i64 0], .bool false] := rfl
theorem lt_of_alloc {w w' : World} {o : Obj} (h : (w.alloc o).heap.size ≤ w'.heap.size) : w.heap.size < w'.heap.size := by simp only [World.alloc] at h; rw [Array.size_push] at h; omega
def eA : En := ⟨4, 0, 2, -1⟩
theorem alive_learn : learn (fun _ => false) 0 [] eA = (1, [eA]) := by decide
theorem alive_find : fnd (fits (fun _ => false) 4) [eA] = some eA := by decide
set_option maxRecDepth 100000 in
theorem alive15 (w : World) : Calls Try.prog 7 #[] w fun e w' => e = .returned (.bool true) ∧ Below w.heap.size w w' := by
  have K := learn_calls w 0 none 0 0 [] eA 12 #[] _ (asks22 w) Reads.none_ (by omega)
  rw [alive_learn] at K
  have K2 := fun (w1 : World) (A : Option Addr) (c : Nat) (hr : Reads w1 w1.heap.size 4 A 1 (ef [eA])) => find_calls w1 1 4 A 1 c [eA] 14 #[] _ (asks23 w1) hr (by omega)
  rw [alive_find, fndV_some] at K2
  have HS := fun (w1 w2 : World) (A : Option Addr) (c : Nat) (h : Below (w1.alloc (.cells #[.int .i64 1, .slice A 1 c] 36)).heap.size (w1.alloc (.cells #[.int .i64 1, .slice A 1 c] 36)) w2) => ((Blk.new w1 36 #[.int .i64 1, .slice A 1 c]).below h (Blk.new w1 36 _).lt).two
  replace K2 := Lib.hid K2
  replace HS := Lib.hid HS
  unfold siteV En.v eA at *
  replace K := Lib.hid K
  have z26 : ∀ w, (zeroValue 39).run Try.prog w = .ok (.agg #[.int .i64 0, .int .i64 0, .int .i64 0, .int .i64 0]) w := fun w => by kernel_rfl
  go_enter Try.func7, Try.ntmps7
  go_wp2_with (first | (go_at_call 11; (with_reducible refine K.out.mono ?_); rintro r w1 ⟨A, c, rfl, hr, _, hb1⟩; have HR := Lib.hid (Reads.of_own hr); unfold siteV; clear hr) | (go_at_call 13; (with_reducible refine (K2.out _ A c ((HR.out.alloc (Nat.le_refl _) _).more (le_alloc (Nat.le_refl _) _))).mono ?_); rintro r w2 ⟨rfl, hb2⟩; obtain ⟨q0, q1, _, _⟩ := HS.out w1 w2 A c hb2; have hlt : w1.heap.size < w2.heap.size := lt_of_alloc hb2.size; have HB := Lib.hid (hb1.trans ((below_alloc (Below.refl _ _) _).trans (hb2.mono (le_alloc (Nat.le_refl _) _)) |>.mono hb1.size)); clear hb1 hb2))
  go_ret
  exact ⟨rfl, below_alloc HB.out _⟩
end Go.Proofs.Ytnljofhpofeppaa.Cz
