/- Shapes: the document's tree in memory; its steps compared. -/
import Derived.Test.YtchbgececcclgaaPi
import Derived.Laws.StructEq
namespace Go.Proofs.Ytchbgececcclgaa
open Go.RowKit Go
set_option linter.unusedVariables false
set_option linter.unusedSimpArgs false
theorem stood79 : Try.prog.stoodInHeld 79 = false := by kernel_rfl
theorem und79 : Try.prog.underlying 79 = some (.struct (Try.prog.fieldsOf 79)) := by kernel_rfl
theorem guard79 : Try.prog.eqGuardType Try.prog.depth 79 = false := by kernel_rfl
theorem run_guard79 (op : BinOp) (x y : Operand) (xs ys : Array Value) (w : World) : (eqGuard op 79 x y (.agg xs) (.agg ys)).run Try.prog w = .ok () w := run_eqGuard_agg w op 79 x y xs ys guard79
theorem fields79 : (Try.prog.fieldsOf 79).toList.map (fun f => (f.name, f.type, f.offset)) = [("Change", 4, 0), ("Key", 9, 1), ("Flags", 3, 2)] := by kernel_rfl
theorem eqin79 (a : Bool) (b : ByteArray) (c : Int) (a' : Bool) (b' : ByteArray) (c' : Int) (w : World) : (Op.equalIn 10000 79 (.agg #[.bool a, .string b, .int .i64 c]) (.agg #[.bool a', .string b', .int .i64 c'])).run Try.prog w = .ok (decide ((⟨a, b, c⟩ : St) = ⟨a', b', c'⟩)) w := by
  rw [show (10000 : Nat) = 9999 + 1 from rfl, run_equalIn_agg w 9999 79 _ _ und79 stood79]
  have h := fields79
  generalize (Try.prog.fieldsOf 79).toList = fs at h
  obtain ⟨f0, f1, f2, rfl⟩ : ∃ f0 f1 f2, fs = [f0, f1, f2] := by
    have hl := congrArg List.length h
    match fs, hl with
    | [a, b, c], _ => exact ⟨a, b, c, rfl⟩
  simp only [List.map_cons, List.map_nil, List.cons.injEq, Prod.mk.injEq, and_true] at h
  obtain ⟨⟨n0, t0, o0⟩, ⟨n1, t1, o1⟩, ⟨n2, t2, o2⟩⟩ := h
  have e1 := str_eq b b'
  simp [Op.eqFields, n0, t0, o0, n1, t1, o1, n2, t2, o2, go_sem, e1]
  by_cases h1 : a = a' <;> by_cases h2 : b = b' <;> by_cases h3 : c = c' <;> simp [h1, h2, h3]
def stv (t : St) : List Value := [.bool t.c, .string t.k, .int .i64 t.f]
theorem stv_len (t : St) : (stv t).length = 3 := rfl
theorem stv_one (t : St) : ∀ u ∈ stv t, u.oneCell' = true := by
  intro u hu
  simp only [stv, List.mem_cons, List.not_mem_nil, or_false] at hu
  rcases hu with rfl | rfl | rfl <;> rfl
theorem neq_st (a b : St) (w : World) : (binOp .neq 79 (.agg #[.bool a.c, .string a.k, .int .i64 a.f]) (.agg #[.bool b.c, .string b.k, .int .i64 b.f])).run Try.prog w = .ok (.bool (!decide (a = b))) w := by
  obtain ⟨a1, a2, a3⟩ := a
  obtain ⟨b1, b2, b3⟩ := b
  rw [run_neq_struct, eqin79]
  rfl
set_option maxRecDepth 100000 in
set_option maxHeartbeats 4000000 in
theorem same_calls (w : World) (A A' : Option Addr) (n c n' c' : Nat) (s t : List St) (hr : Reads w w.heap.size 3 A n (s.flatMap stv)) (hr' : Reads w w.heap.size 3 A' n' (t.flatMap stv)) (hn : n ≤ 1000000000000) (hn' : n' ≤ 1000000000000) :
    Calls Try.prog 32 #[.slice A n c, .slice A' n' c'] w fun e w' => e = .returned (.bool (decide (s = t))) ∧ ∃ k, w' = w.drewN k := by
  have hl := reads_len stv_len (by decide) hr
  have hl' := reads_len stv_len (by decide) hr'
  by_cases hnn : n = n'
  · subst hnn
    have HR := Lib.hid hr
    have HR' := Lib.hid hr'
    have HL := Lib.hid hl
    have HL' := Lib.hid hl'
    have HG := @run_guard79
    clear hr hr' hl hl' hn'
    go_enter Try.func32, Try.ntmps32
    go_wp2
    go_loopg [5] n (fun f i wr => ∃ k : Nat, i = .int .i64 k ∧ k + f = n ∧ decide (s = t) = decide (s.drop k = t.drop k) ∧ ∃ j, wr = w.drewN j)
    case atStart => exact ⟨0, rfl, by omega, rfl, 0, rfl⟩
    case round =>
      obtain ⟨k, rfl, hf, he, j0, rfl⟩ := hrel
      have HE := Lib.hid he
      clear he
      by_cases hk : k < n
      · obtain ⟨x, hx⟩ : ∃ e, s[k]? = some e := ⟨_, List.getElem?_eq_getElem (by have := HL.out; omega)⟩
        obtain ⟨y, hy⟩ : ∃ e, t[k]? = some e := ⟨_, List.getElem?_eq_getElem (by have := HL'.out; omega)⟩
        obtain ⟨b, off, rfl, hbl, hc⟩ := reads_get stv_len (by decide) HR.out hx
        obtain ⟨b', off', rfl, hbl', hc'⟩ := reads_get stv_len (by decide) HR'.out hy
        have c0 : w.cell? ⟨b, off + k * 3, none⟩ = some (.bool x.c) := hc 0 _ rfl
        have c1 : w.cell? ⟨b, off + k * 3 + 1, none⟩ = some (.string x.k) := hc 1 _ rfl
        have c2 : w.cell? ⟨b, off + k * 3 + 2, none⟩ = some (.int .i64 x.f) := hc 2 _ rfl
        have c0' : w.cell? ⟨b', off' + k * 3, none⟩ = some (.bool y.c) := hc' 0 _ rfl
        have c1' : w.cell? ⟨b', off' + k * 3 + 1, none⟩ = some (.string y.k) := hc' 1 _ rfl
        have c2' : w.cell? ⟨b', off' + k * 3 + 2, none⟩ = some (.int .i64 y.f) := hc' 2 _ rfl
        have hk' : (k : Int) < (n : Int) := by omega
        obtain ⟨f', hf'⟩ : ∃ f', gk = f' + 1 := ⟨gk - 1, by omega⟩
        have HF' := Lib.hid hf'
        have HF := Lib.hid hf
        have hneq := fun w => neq_st x y w
        have HD := Lib.hid (show decide (s.drop k = t.drop k) = decide (x = y ∧ s.drop (k + 1) = t.drop (k + 1)) by rw [drop_at' hx, drop_at' hy]; simp)
        clear hx hy hf hf' hc hc' hbl hbl'
        by_cases hxy : x = y
        · rw [decide_eq_true hxy] at hneq
          have HX := Lib.hid hxy
          clear hxy
          go_wp2
          go_quiet (fail)
          go_wp2
          go_roundg f'
          case measure => have := HF'.out; omega
          case rel => exact ⟨k + 1, by simp, by have := HF'.out; have := HF.out; omega, by rw [HE.out, HD.out]; have := HX.out; simp [this], j0 + nq, by first | rfl | rw [World.drewN_drewN]⟩
        · rw [decide_eq_false hxy] at hneq
          have HX := Lib.hid hxy
          clear hxy
          go_wp2
          go_quiet (fail)
          go_wp2
          go_ret
          exact ⟨by rw [HE.out, HD.out]; have := HX.out; simp [this], j0 + nq, by first | rfl | rw [World.drewN_drewN]⟩
      · have hk' : ¬ (k : Int) < (n : Int) := by omega
        go_wp2
        go_ret
        exact ⟨by rw [HE.out, List.drop_of_length_le (by have := HL.out; omega), List.drop_of_length_le (by have := HL'.out; omega)]; rfl, j0, rfl⟩
  · have hst : decide (s = t) = false := decide_eq_false (fun e => hnn (by rw [← hl, ← hl', e]))
    rw [hst]
    have hnn' : ¬ (n : Int) = (n' : Int) := by omega
    clear hr hr' hl hl' hst hnn
    go_enter Try.func32, Try.ntmps32
    go_wp2
    go_ret
    exact ⟨rfl, 0, rfl⟩
end Go.Proofs.Ytchbgececcclgaa
