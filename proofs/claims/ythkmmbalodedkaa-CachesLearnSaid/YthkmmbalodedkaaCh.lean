/- Caches: who is asked; the laws' first look. -/
import Derived.Test.YthkmmbalodedkaaCg
namespace Go.Proofs.Ythkmmbalodedkaa
open Go.RowKit Go
set_option linter.unusedVariables false
set_option linter.unusedSimpArgs false
theorem asks17 (w : World) : Asks w 17 #[] (fun _ => true) := ⟨enter_of Try.func17 (by kernel_rfl) (by kernel_rfl), fun w n _ => by
  go_enter Try.func17, Try.ntmps17
  go_wp2
  go_ret
  exact ⟨rfl, rfl⟩⟩
theorem asks18 (w : World) : Asks w 18 #[] (fun _ => true) := ⟨enter_of Try.func18 (by kernel_rfl) (by kernel_rfl), fun w n _ => by
  go_enter Try.func18, Try.ntmps18
  go_wp2
  go_ret
  exact ⟨rfl, rfl⟩⟩
theorem asks20 (w : World) : Asks w 20 #[] (fun _ => true) := ⟨enter_of Try.func20 (by kernel_rfl) (by kernel_rfl), fun w n _ => by
  go_enter Try.func20, Try.ntmps20
  go_wp2
  go_ret
  exact ⟨rfl, rfl⟩⟩
theorem asks19 (w : World) : Asks w 19 #[] (fun _ => false) := ⟨enter_of Try.func19 (by kernel_rfl) (by kernel_rfl), fun w n _ => by
  go_enter Try.func19, Try.ntmps19
  go_wp2
  go_ret
  exact ⟨rfl, rfl⟩⟩
theorem asks22 (w : World) : Asks w 22 #[] (fun _ => false) := ⟨enter_of Try.func22 (by kernel_rfl) (by kernel_rfl), fun w n _ => by
  go_enter Try.func22, Try.ntmps22
  go_wp2
  go_ret
  exact ⟨rfl, rfl⟩⟩
theorem asks23 (w : World) : Asks w 23 #[] (fun _ => false) := ⟨enter_of Try.func23 (by kernel_rfl) (by kernel_rfl), fun w n _ => by
  go_enter Try.func23, Try.ntmps23
  go_wp2
  go_ret
  exact ⟨rfl, rfl⟩⟩
theorem asks8 {w : World} {gv mv cv : Nat} {Av : Option Addr} {l : List Int} (hb : Blk w gv 27 #[.slice Av mv cv]) (hr : Reads w w.heap.size 1 Av mv (l.map (Value.int .i64))) (hm : mv ≤ 140737488351232) : Asks w 8 #[.pointer (some ⟨gv, 0, none⟩)] (has l) :=
  ⟨enter_of Try.func8 (by kernel_rfl) (by kernel_rfl), fun w' n h => by
    have K := Lib.hid (in_calls w' Av mv cv l n ((hr.below h).more h.size) hm)
    have c0 := (hb.below h hb.lt).cell 0
    simp only [List.getElem?_toArray, List.getElem?_cons_zero] at c0
    clear hb hr h
    go_enter Try.func8, Try.ntmps8
    go_wp2_with (first | (go_at_call 9; (with_reducible refine K.out.mono ?_); rintro r w1 ⟨rfl, rfl⟩))
    go_ret
    exact ⟨rfl, rfl⟩⟩
theorem asks16 {w : World} {gv mv cv : Nat} {Av : Option Addr} {l : List Int} (hb : Blk w gv 27 #[.slice Av mv cv]) (hr : Reads w w.heap.size 1 Av mv (l.map (Value.int .i64))) (hm : mv ≤ 140737488351232) : Asks w 16 #[.pointer (some ⟨gv, 0, none⟩)] (has l) :=
  ⟨enter_of Try.func16 (by kernel_rfl) (by kernel_rfl), fun w' n h => by
    have K := Lib.hid (in_calls w' Av mv cv l n ((hr.below h).more h.size) hm)
    have c0 := (hb.below h hb.lt).cell 0
    simp only [List.getElem?_toArray, List.getElem?_cons_zero] at c0
    clear hb hr h
    go_enter Try.func16, Try.ntmps16
    go_wp2_with (first | (go_at_call 9; (with_reducible refine K.out.mono ?_); rintro r w1 ⟨rfl, rfl⟩))
    go_ret
    exact ⟨rfl, rfl⟩⟩
theorem below_via {w w1 w2 : World} (h : Below w.heap.size w w1) (k : Below w1.heap.size w1 w2) : Below w.heap.size w w2 := h.trans (k.mono h.size)
theorem below_alloc {w w1 : World} (h : Below w.heap.size w w1) (o : Obj) : Below w.heap.size w (w1.alloc o) := h.alloc h.size o
theorem fndV_some (e : En) : fndV (some e) = .tuple #[.agg #[.int .i64 e.s, .int .i64 e.h, .int .i64 e.o, .int .i64 e.c], .bool true] := rfl
theorem fndV_none : fndV none = .tuple #[.agg #[.int .i64 0, .int .i64 0, .int .i64 0, .int .i64 0], .bool false] := rfl
theorem lt_of_alloc {w w' : World} {o : Obj} (h : (w.alloc o).heap.size ≤ w'.heap.size) : w.heap.size < w'.heap.size := by simp only [World.alloc] at h; rw [Array.size_push] at h; omega
def eA : En := ⟨4, 0, 2, -1⟩
theorem alive_learn : learn (fun _ => false) 0 [] eA = (1, [eA]) := by decide
theorem alive_find : fnd (fits (fun _ => false) 4) [eA] = some eA := by decide
set_option maxRecDepth 100000 in
theorem alive15 (w : World) : Calls Try.prog 12 #[] w fun e w' => e = .returned (.bool true) ∧ Below w.heap.size w w' := by
  have K := learn_calls w 0 none 0 0 [] eA 22 #[] _ (asks22 w) Reads.none_ (by omega)
  rw [alive_learn] at K
  have K2 := fun (w1 : World) (A : Option Addr) (c : Nat) (hr : Reads w1 w1.heap.size 4 A 1 (ef [eA])) => find_calls w1 1 4 A 1 c [eA] 23 #[] _ (asks23 w1) hr (by omega)
  rw [alive_find, fndV_some] at K2
  have HS := fun (w1 w2 : World) (A : Option Addr) (c : Nat) (h : Below (w1.alloc (.cells #[.int .i64 1, .slice A 1 c] 24)).heap.size (w1.alloc (.cells #[.int .i64 1, .slice A 1 c] 24)) w2) => ((Blk.new w1 24 #[.int .i64 1, .slice A 1 c]).below h (Blk.new w1 24 _).lt).two
  replace K2 := Lib.hid K2
  replace HS := Lib.hid HS
  unfold siteV En.v eA at *
  replace K := Lib.hid K
  have z26 : ∀ w, (zeroValue 26).run Try.prog w = .ok (.agg #[.int .i64 0, .int .i64 0, .int .i64 0, .int .i64 0]) w := fun w => by kernel_rfl
  go_enter Try.func12, Try.ntmps12
  go_wp2_with (first | (go_at_call 14; (with_reducible refine K.out.mono ?_); rintro r w1 ⟨A, c, rfl, hr, _, hb1⟩; have HR := Lib.hid (Reads.of_own hr); unfold siteV; clear hr) | (go_at_call 10; (with_reducible refine (K2.out _ A c ((HR.out.alloc (Nat.le_refl _) _).more (le_alloc (Nat.le_refl _) _))).mono ?_); rintro r w2 ⟨rfl, hb2⟩; obtain ⟨q0, q1, _, _⟩ := HS.out w1 w2 A c hb2; have hlt : w1.heap.size < w2.heap.size := lt_of_alloc hb2.size; have HB := Lib.hid (hb1.trans ((below_alloc (Below.refl _ _) _).trans (hb2.mono (le_alloc (Nat.le_refl _) _)) |>.mono hb1.size)); clear hb1 hb2))
  go_ret
  exact ⟨rfl, below_alloc HB.out _⟩
end Go.Proofs.Ythkmmbalodedkaa
