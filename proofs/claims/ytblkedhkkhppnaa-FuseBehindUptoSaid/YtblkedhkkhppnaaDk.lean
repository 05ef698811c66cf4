/- Fuse: the laws' first look. -/
import Derived.Test.YtblkedhkkhppnaaDj
namespace Go.Proofs.Ytblkedhkkhppnaa
open Go.RowKit Go
set_option linter.unusedVariables false
set_option linter.unusedSimpArgs false
/-- the function of the first look. -/
def hdA (g : Nat) : Hd := ⟨⟨#[]⟩, 0, 1, false, some ⟨g, 0, none⟩, 3, 3, none, 0, 0, none, 0, 0, none, 0, 0⟩
def codeA : List En := [⟨3, 0, 0, 0⟩, ⟨3, 0, 0, 0⟩, ⟨55, 0, 0, 0⟩]
theorem grpsA : grps (has (jmp codeA ++ tgt [])) codeA = [⟨0, 2, 4⟩, ⟨2, 1, 0⟩] := by decide
theorem whereA : whr3 1 (fnd3 1 [⟨0, 2, 4⟩, ⟨2, 1, 0⟩] 0) = (0, 1, true) := by decide
theorem isA (w : World) : (hdA w.heap.size).Is (w.alloc (.cells #[.int .i64 3, .int .i64 0, .int .i64 0, .int .i64 0, .int .i64 3, .int .i64 0, .int .i64 0, .int .i64 0, .int .i64 55, .int .i64 0, .int .i64 0, .int .i64 0] 38)) codeA [] := by
  refine ⟨⟨rfl, fun _ => ⟨_, rfl, by show w.heap.size < _; rw [size_alloc]; omega, fun j u hj => ?_⟩⟩, ⟨rfl, fun h => absurd h (by show ¬ 0 < 0; omega)⟩, by show 3 * 32 ≤ 140737488351232; omega, by show 0 * 24 ≤ 140737488351232; omega⟩
  have e1 : (⟨w.heap.size, 0, none⟩ : Addr).add j = ⟨w.heap.size, j, none⟩ := by unfold Addr.add; split <;> simp_all
  rw [e1]; refine ((Blk.new w 38 _).cell j).trans ?_
  exact (List.getElem?_toArray ..).trans hj
set_option maxRecDepth 100000 in
set_option maxHeartbeats 4000000 in
theorem alive10 (w : World) : Calls Try.prog 9 #[] w fun e w' => e = .returned (.bool true) ∧ Below w.heap.size w w' := by
  have z38 : ∀ w, (zeroValue 38).run Try.prog w = .ok (.agg #[.int .i64 0, .int .i64 0, .int .i64 0, .int .i64 0]) w := fun w => by kernel_rfl
  have KG := groups_calls _ _ _ _ (isA w) (Nat.le_refl 3) (by show 3 ≤ 9223372036854775807; omega)
  rw [grpsA] at KG
  unfold hdA Hd.v at KG
  have KW := fun (w1 : World) (b off c : Nat) (h : Reads w1 w1.heap.size 3 (some ⟨b, off, none⟩) 2 (tf [⟨0, 2, 4⟩, ⟨2, 1, 0⟩])) => where_calls w1 1 _ _ c _ h (by decide) (by decide) (by decide)
  rw [whereA] at KW
  replace KG := Lib.hid KG
  replace KW := Lib.hid KW
  have B0 := Lib.hid (below_new w (.cells #[.int .i64 3, .int .i64 0, .int .i64 0, .int .i64 0, .int .i64 3, .int .i64 0, .int .i64 0, .int .i64 0, .int .i64 55, .int .i64 0, .int .i64 0, .int .i64 0] 38))
  go_enter Try.func9, Try.ntmps9
  go_wp2_with (first | (go_at_call 7; (with_reducible refine KG.out.mono ?_); rintro r w1 ⟨A, n, c, rfl, hrd, hb1⟩; have hn := reads_len3 hrd; simp only [List.length_cons, List.length_nil] at hn; subst hn; obtain ⟨b, off, rfl, hbl, _⟩ := reads_at3 hrd (i := 0) rfl; have HRD := Lib.hid hrd; have HB1 := Lib.hid hb1; clear hrd hb1) | (go_at_call 10; (with_reducible refine (KW.out _ _ _ _ HRD.out).mono ?_); rintro r w2 ⟨rfl, hb2⟩; obtain ⟨b', off', hA', _, a0, a1, a2⟩ := reads_at3 (HRD.out.below hb2) (i := 0) rfl; cases hA'; have HB2 := Lib.hid (below_via B0.out (below_via HB1.out hb2)); simp only [Nat.zero_mul, Nat.add_zero] at a0 a1 a2; clear hb2))
  go_ret
  exact ⟨rfl, HB2.out⟩
end Go.Proofs.Ytblkedhkkhppnaa
