/- Scope: Resolve. -/
import Derived.Test.YtlenhcmgcgccmaaDoorVa
import Derived.Test.YtlenhcmgcgccmaaDoorVb
import Derived.Test.YtlenhcmgcgccmaaDoorTs
namespace Go.Proofs.YtlenhcmgcgccmaaDoor
open Go.RowKit Go
set_option linter.unusedVariables false
set_option linter.unusedSimpArgs false
def startO (t : Tr) : Out := ⟨[⟨t.at_, -1, 0, 0⟩], [], []⟩
def startE : Env := ⟨0, [], 0, []⟩
/-- what Resolve computes. -/
def resP (t : Tr) : Except Er Out := if rightP t = true then bodyW (iterW 300) startE noD t.kids (startO t) else .error (t.at_, 70)
def ResR (w : World) (t : Tr) (e : Ending) (w' : World) : Prop := Below w.heap.size w w' ∧
  (∀ o, resP t = .ok o → ∃ sv vv uv, e = .returned (.tuple #[.agg #[sv, vv, uv], .int .i64 0, .int .i64 0]) ∧ w'.ownsRow w.heap.size 41 4 sv o.scopes.length (o.scopes.flatMap Sc.cells) ∧ w'.ownsRow w.heap.size 44 6 vv o.vars.length (o.vars.flatMap Vr.cells) ∧ w'.ownsRow w.heap.size 46 2 uv o.uses.length (o.uses.flatMap Us.cells)) ∧
  (∀ c, resP t = .error c → e = .returned (.tuple #[.agg #[.slice none 0 0, .slice none 0 0, .slice none 0 0], .int .i64 c.1, .int .i64 c.2]))
theorem five (w : World) (c0 c1 c2 c3 c4 : Array Value) (U : World) (hU : ((((w.alloc (.cells c0 31)).alloc (.cells c1 36)).alloc (.cells c2 3)).alloc (.cells c3 37)).alloc (.cells c4 64) = U) : Blk U w.heap.size 31 c0 ∧ Blk U (w.heap.size + 1) 36 c1 ∧ Blk U (w.heap.size + 1 + 1) 3 c2 ∧ Blk U (w.heap.size + 1 + 1 + 1) 37 c3 ∧ Blk U (w.heap.size + 1 + 1 + 1 + 1) 64 c4 := by
  subst hU
  have h1 := Blk.new (w.alloc (.cells c0 31)) 36 c1
  have h2 := Blk.new ((w.alloc (.cells c0 31)).alloc (.cells c1 36)) 3 c2
  have h3 := Blk.new (((w.alloc (.cells c0 31)).alloc (.cells c1 36)).alloc (.cells c2 3)) 37 c3
  have h4 := Blk.new ((((w.alloc (.cells c0 31)).alloc (.cells c1 36)).alloc (.cells c2 3)).alloc (.cells c3 37)) 64 c4
  simp only [size_alloc] at h1 h2 h3 h4
  exact ⟨((((Blk.new _ _ _).alloc _).alloc _).alloc _).alloc _, ((h1.alloc _).alloc _).alloc _, (h2.alloc _).alloc _, h3.alloc _, h4⟩
set_option maxRecDepth 100000 in
set_option maxHeartbeats 8000000 in
theorem resolve_wrong (w : World) (B : Nat) (t : Tr) (kv : Value) (htab : Lib.TabIs Tryd.prog w "strings.asciiSpace" .u8 Lib.asciiSpaceTab) (hB : B ≤ w.heap.size) (hk : KidsAt w B kv t.kids) (hr : rightP t = false) :
    Calls Tryd.prog 13 #[.agg #[.int .i64 t.kind, .int .i64 t.at_, .string t.name, .int .u64 t.num, .string t.op, kv]] w (ResR w t) := by
  obtain ⟨A, cap, rfl, hcl, hcm, hA⟩ := hk.slice
  have hmf : ∀ (fn : Fn) (first cap : Array Value) (w : World), (Instr.makeFunc fn first cap).run Tryd.prog w = .ok (.func fn first cap) w := fun _ _ _ _ => rfl
  have hn : ∀ (b : Bool) w1, (Op.unary .not (.bool b)).run Tryd.prog w1 = .ok (.bool (!b)) w1 := fun _ _ => rfl
  obtain ⟨U, hU⟩ : ∃ U, (((((w.alloc (.cells #[.int .i64 t.kind, .int .i64 t.at_, .string t.name, .int .u64 t.num, .string t.op, .slice A t.kids.length cap] 31)).alloc (.cells #[.slice none 0 0, .slice none 0 0, .slice none 0 0] 36)).alloc (.cells #[.int .i64 0] 3)).alloc (.cells #[.int .i64 0] 37)).alloc (.cells #[.slice none 0 0, .slice none 0 0, .slice none 0 0, .slice none 0 0, .int .i64 0, .slice none 0 0, .int .i64 0] 64)) = U := ⟨_, rfl⟩
  have W1 : Below w.heap.size w U := by rw [← hU]; exact below_alloc (below_alloc (below_alloc (below_alloc (below_alloc (Below.refl _ _)))))
  have RC := right_calls U w.heap.size t (.slice A t.kids.length cap) ((tabl_of htab).on W1).here W1.size ((hk.under (W1.mono hB)).more hB)
  have BX := five w #[.int .i64 t.kind, .int .i64 t.at_, .string t.name, .int .u64 t.num, .string t.op, .slice A t.kids.length cap] #[.slice none 0 0, .slice none 0 0, .slice none 0 0] #[.int .i64 0] #[.int .i64 0] #[.slice none 0 0, .slice none 0 0, .slice none 0 0, .slice none 0 0, .int .i64 0, .slice none 0 0, .int .i64 0] U hU
  have HSU := Lib.hid (show U.heap.size = w.heap.size + 1 + 1 + 1 + 1 + 1 from by rw [← hU]; simp only [size_alloc])
  rw [hr] at RC
  replace RC := Lib.hid RC
  have HR := Lib.hid (show resP t = .error (t.at_, 70) from by unfold resP; rw [hr]; rfl)
  have HW1 := Lib.hid W1
  obtain ⟨b0, b1, b2, b3, b4⟩ := BX
  have KX := Lib.hid (fun (v : World) (f : Below U.heap.size U v) => show Blk v w.heap.size 31 #[.int .i64 t.kind, .int .i64 t.at_, .string t.name, .int .u64 t.num, .string t.op, .slice A t.kids.length cap] ∧ Blk v (w.heap.size + 1) 36 #[.slice none 0 0, .slice none 0 0, .slice none 0 0] ∧ Blk v (w.heap.size + 1 + 1) 3 #[.int .i64 0] ∧ Blk v (w.heap.size + 1 + 1 + 1) 37 #[.int .i64 0] ∧ Blk v (w.heap.size + 1 + 1 + 1 + 1) 64 #[.slice none 0 0, .slice none 0 0, .slice none 0 0, .slice none 0 0, .int .i64 0, .slice none 0 0, .int .i64 0] from ⟨b0.below f b0.lt, b1.below f b1.lt, b2.below f b2.lt, b3.below f b3.lt, b4.below f b4.lt⟩)
  clear htab hB hk hr W1 hcl hcm hA b0 b1 b2 b3 b4
  subst hU
  go_enter_defers Tryd.func13, Tryd.ntmps13
  go_wp2_with (first | (go_at_call 19; (with_reducible refine RC.out.mono ?_); rintro e v1 ⟨rfl, g1⟩; obtain ⟨k0, k1, k2, k3, k4⟩ := KX.out _ g1; have G1 := Lib.hid (HW1.out.trans (g1.mono HW1.out.size)); clear g1))
  clear KX RC HW1 HSU k4
  have hq0 : w.heap.size < w.heap.size + 1 := Nat.lt_succ_self _
  generalize hq1 : w.heap.size + 1 = q1 at *
  generalize hq2 : q1 + 1 = q2 at *
  generalize hq3 : q2 + 1 = q3 at *
  generalize hq4 : q3 + 1 = q4 at *
  have n10 : w.heap.size ≠ q1 ∧ w.heap.size ≠ q2 ∧ w.heap.size ≠ q3 ∧ w.heap.size ≠ q4 := by omega
  have n12 : q1 ≠ q2 ∧ q1 ≠ q3 ∧ q1 ≠ q4 ∧ q2 ≠ q3 ∧ q2 ≠ q4 ∧ q3 ≠ q4 := by omega
  have a1 := k0.cell 1
  have c0 := k1.cell 0
  have c1 := k1.cell 1
  have c2 := k1.cell 2
  have d0 := k2.cell 0
  have e0 := k3.cell 0
  have fc0 := k1.frozen 0
  have fc1 := k1.frozen 1
  have fc2 := k1.frozen 2
  have fd0 := k2.frozen 0
  have fe0 := k3.frozen 0
  simp only [List.getElem?_toArray, List.getElem?_cons_succ, List.getElem?_cons_zero] at a1 c0 c1 c2 d0 e0
  have l0 := k0.lt
  have l1 := k1.lt
  have l2 := k2.lt
  have l3 := k3.lt
  have K0 := Lib.hid k0
  have K1 := Lib.hid k1
  have K2 := Lib.hid k2
  have K3 := Lib.hid k3
  clear k0 k1 k2 k3
  go_wp2
  go_region
  go_wp2
  obtain ⟨n101, n102, n103, n104⟩ := n10
  obtain ⟨n112, n113, n114, n123, n124, n134⟩ := n12
  have k1 := ((((((K1.out.set_ 0 (.slice none 0 0)).set_ 1 (.slice none 0 0)).set_ 2 (.slice none 0 0)).far (p := ⟨q2, 0, none⟩) n112 (.int .i64 t.at_)).far (p := ⟨q3, 0, none⟩) n113 (.int .i64 70)).drew).alloc (.cells #[.int .i64 0, .int .i64 0] 58)
  have k2 := ((((((K2.out.far (p := ⟨q1, 0, none⟩) (Ne.symm n112) (.slice none 0 0)).far (p := ⟨q1, 1, none⟩) (Ne.symm n112) (.slice none 0 0)).far (p := ⟨q1, 2, none⟩) (Ne.symm n112) (.slice none 0 0)).set_ 0 (.int .i64 t.at_)).far (p := ⟨q3, 0, none⟩) n123 (.int .i64 70)).drew).alloc (.cells #[.int .i64 0, .int .i64 0] 58)
  have k3 := ((((((K3.out.far (p := ⟨q1, 0, none⟩) (Ne.symm n113) (.slice none 0 0)).far (p := ⟨q1, 1, none⟩) (Ne.symm n113) (.slice none 0 0)).far (p := ⟨q1, 2, none⟩) (Ne.symm n113) (.slice none 0 0)).far (p := ⟨q2, 0, none⟩) (Ne.symm n123) (.int .i64 t.at_)).set_ 0 (.int .i64 70)).drew).alloc (.cells #[.int .i64 0, .int .i64 0] 58)
  have bw : Below w.heap.size w (((((((v1.setCell ⟨q1, 0, none⟩ (.slice none 0 0)).setCell ⟨q1, 1, none⟩ (.slice none 0 0)).setCell ⟨q1, 2, none⟩ (.slice none 0 0)).setCell ⟨q2, 0, none⟩ (.int .i64 t.at_)).setCell ⟨q3, 0, none⟩ (.int .i64 70)).drew).alloc (.cells #[.int .i64 0, .int .i64 0] 58)) :=
    below_alloc ((((((G1.out.setCell (p := ⟨q1, 0, none⟩) (by show w.heap.size ≤ q1; omega) _).setCell (p := ⟨q1, 1, none⟩) (by show w.heap.size ≤ q1; omega) _).setCell (p := ⟨q1, 2, none⟩) (by show w.heap.size ≤ q1; omega) _).setCell (p := ⟨q2, 0, none⟩) (by show w.heap.size ≤ q2; omega) _).setCell (p := ⟨q3, 0, none⟩) (by show w.heap.size ≤ q3; omega) _).drew)
  clear a1 c0 c1 c2 d0 e0 fc0 fc1 fc2 fd0 fe0
  generalize ((((((v1.setCell ⟨q1, 0, none⟩ (.slice none 0 0)).setCell ⟨q1, 1, none⟩ (.slice none 0 0)).setCell ⟨q1, 2, none⟩ (.slice none 0 0)).setCell ⟨q2, 0, none⟩ (.int .i64 t.at_)).setCell ⟨q3, 0, none⟩ (.int .i64 70)).drew) = Y at *
  refine leaves_cons (f := 21) (args := #[.pointer (some ⟨q1, 0, none⟩), .pointer (some ⟨q2, 0, none⟩), .pointer (some ⟨q3, 0, none⟩)]) (by simp) (by simp [go_sem]) ?_
  refine (catch_idle ⟨q1, 0, none⟩ ⟨q2, 0, none⟩ ⟨q3, 0, none⟩ _).mono ?_
  rintro e u' w'' ⟨rfl, rfl, rfl⟩
  have c0 : (Y.alloc (.cells #[.int .i64 0, .int .i64 0] 58)).cell? ⟨q1, 0, none⟩ = some (.slice none 0 0) := k1.cell 0
  have c1 : (Y.alloc (.cells #[.int .i64 0, .int .i64 0] 58)).cell? ⟨q1, 1, none⟩ = some (.slice none 0 0) := k1.cell 1
  have c2 : (Y.alloc (.cells #[.int .i64 0, .int .i64 0] 58)).cell? ⟨q1, 2, none⟩ = some (.slice none 0 0) := k1.cell 2
  have d0 : (Y.alloc (.cells #[.int .i64 0, .int .i64 0] 58)).cell? ⟨q2, 0, none⟩ = some (.int .i64 t.at_) := k2.cell 0
  have e0 : (Y.alloc (.cells #[.int .i64 0, .int .i64 0] 58)).cell? ⟨q3, 0, none⟩ = some (.int .i64 70) := k3.cell 0
  refine ⟨.tuple #[.agg #[.slice none 0 0, .slice none 0 0, .slice none 0 0], .int .i64 t.at_, .int .i64 70], by simp [results, Tryd.results13, go_sem, c0, c1, c2, d0, e0], ?_⟩
  exact ⟨bw, fun o ho => (by rw [HR.out] at ho; cases ho), fun c hc => (by rw [HR.out] at hc; injection hc with hc; subst hc; rfl)⟩
theorem pan_blks {w : World} {b0 b1 b2 : Nat} {a c : Int} {s0 s1 s2 x0 y0 : Value} (h0 : Blk w b0 36 #[s0, s1, s2]) (h1 : Blk w b1 3 #[x0]) (h2 : Blk w b2 37 #[y0]) : Blk (pan w b0 b1 b2 a c) b0 36 #[.slice none 0 0, .slice none 0 0, .slice none 0 0] ∧ Blk (pan w b0 b1 b2 a c) b1 3 #[.int .i64 a] ∧ Blk (pan w b0 b1 b2 a c) b2 37 #[.int .i64 c] := by
  have n01 : b0 ≠ b1 := Blk.ne_ h0 h1 (by decide)
  have n02 : b0 ≠ b2 := Blk.ne_ h0 h2 (by decide)
  have n12 : b1 ≠ b2 := Blk.ne_ h1 h2 (by decide)
  refine ⟨?_, ?_, ?_⟩
  · exact ((((((h0.set_ 0 (.slice none 0 0)).set_ 1 (.slice none 0 0)).set_ 2 (.slice none 0 0)).far (p := ⟨b1, 0, none⟩) n01 (.int .i64 a)).far (p := ⟨b2, 0, none⟩) n02 (.int .i64 c)).alloc _).drew
  · exact ((((((h1.far (p := ⟨b0, 0, none⟩) (Ne.symm n01) (.slice none 0 0)).far (p := ⟨b0, 1, none⟩) (Ne.symm n01) (.slice none 0 0)).far (p := ⟨b0, 2, none⟩) (Ne.symm n01) (.slice none 0 0)).set_ 0 (.int .i64 a)).far (p := ⟨b2, 0, none⟩) n12 (.int .i64 c)).alloc _).drew
  · exact ((((((h2.far (p := ⟨b0, 0, none⟩) (Ne.symm n02) (.slice none 0 0)).far (p := ⟨b0, 1, none⟩) (Ne.symm n02) (.slice none 0 0)).far (p := ⟨b0, 2, none⟩) (Ne.symm n02) (.slice none 0 0)).far (p := ⟨b1, 0, none⟩) (Ne.symm n12) (.int .i64 a)).set_ 0 (.int .i64 c)).alloc _).drew
theorem pan_below {w V : World} {n b0 b1 b2 : Nat} {a c : Int} (h : Below n w V) (hw : n ≤ V.heap.size) (h0 : n ≤ b0) (h1 : n ≤ b1) (h2 : n ≤ b2) : Below n w (pan V b0 b1 b2 a c) := by
  refine Below.drew (Below.alloc (((((h.setCell (p := ⟨b0, 0, none⟩) h0 _).setCell (p := ⟨b0, 1, none⟩) h0 _).setCell (p := ⟨b0, 2, none⟩) h0 _).setCell (p := ⟨b1, 0, none⟩) h1 _).setCell (p := ⟨b2, 0, none⟩) h2 _) ?_ _)
  simpa [World.setCell] using hw
theorem own_base {w : World} {base base' n s : Nat} {e : TypeId} {v : Value} {xs : List Value} (h : w.ownsRow base e s v n xs) (hb : base' ≤ base) : w.ownsRow base' e s v n xs := by
  obtain ⟨h3, h4⟩ := h
  refine ⟨h3, ?_⟩
  rcases h4 with h4 | ⟨g, cap, cur, e1, e2, e3⟩
  · exact .inl h4
  · exact .inr ⟨g, cap, cur, e1, Nat.le_trans hb e2, e3⟩
theorem start_wat (v1 : World) (q : Nat) (t : Tr) (hb : Blk v1 q 64 #[.slice none 0 0, .slice none 0 0, .slice none 0 0, .slice none 0 0, .int .i64 0, .slice none 0 0, .int .i64 0]) :
    WAt ((v1.setCell ⟨q, 0, none⟩ (.slice (some ⟨v1.heap.size, 0, none⟩) 1 1)).alloc (.cells #[.int .i64 t.at_, .int .i64 (-1), .int .i64 0, .int .i64 0] 41)) q q [] startE (startO t) ⟨.slice (some ⟨v1.heap.size, 0, none⟩) 1 1, .slice none 0 0, .slice none 0 0, .slice none 0 0, .slice none 0 0⟩ := by
  have b1 := (hb.set_ 0 (.slice (some ⟨v1.heap.size, 0, none⟩) 1 1)).alloc (.cells #[.int .i64 t.at_, .int .i64 (-1), .int .i64 0, .int .i64 0] 41)
  have hq : v1.heap.size ≠ q := by have := hb.lt; omega
  have b2 : Blk ((v1.setCell ⟨q, 0, none⟩ (.slice (some ⟨v1.heap.size, 0, none⟩) 1 1)).alloc (.cells #[.int .i64 t.at_, .int .i64 (-1), .int .i64 0, .int .i64 0] 41)) v1.heap.size 41 #[.int .i64 t.at_, .int .i64 (-1), .int .i64 0, .int .i64 0] := by have h1 := Blk.new (v1.setCell ⟨q, 0, none⟩ (.slice (some ⟨v1.heap.size, 0, none⟩) 1 1)) 41 #[.int .i64 t.at_, .int .i64 (-1), .int .i64 0, .int .i64 0]; rw [show (v1.setCell ⟨q, 0, none⟩ (.slice (some ⟨v1.heap.size, 0, none⟩) 1 1)).heap.size = v1.heap.size by simp [World.setCell]] at h1; exact h1
  refine ⟨Nat.le_refl _, b1, ⟨Nat.le_of_lt b1.lt, ⟨rfl, .inr ⟨v1.heap.size, 1, #[.int .i64 t.at_, .int .i64 (-1), .int .i64 0, .int .i64 0], rfl, Nat.le_of_lt hb.lt, b2, Nat.le_refl _, by unfold maxLen; omega, rfl, rfl⟩⟩, World.ownsRow_nil _ _ _ _, World.ownsRow_nil _ _ _ _, World.ownsRow_nil _ _ _ _, World.ownsRow_nil _ _ _ _, rfl, fun i m b h _ => by simp at h, List.nodup_nil, by simp [startE, startO], fun x hx => ?_⟩, fun b hb => by cases hb⟩
  simp only [startO, List.mem_singleton] at hx
  subst hx
  exact ⟨by show (0 : Int) ≤ 0; omega, by show (0 : Int) ≤ 201; omega⟩
set_option maxRecDepth 100000 in
set_option maxHeartbeats 8000000 in
theorem resolve_right (w : World) (B : Nat) (t : Tr) (kv : Value) (htab : Lib.TabIs Tryd.prog w "strings.asciiSpace" .u8 Lib.asciiSpaceTab) (hB : B ≤ w.heap.size) (hk : KidsAt w B kv t.kids) (hr : rightP t = true) :
    Calls Tryd.prog 13 #[.agg #[.int .i64 t.kind, .int .i64 t.at_, .string t.name, .int .u64 t.num, .string t.op, kv]] w (ResR w t) := by
  have hok := right_ok hr
  obtain ⟨A, cap, rfl, hcl, hcm, hA⟩ := hk.slice
  have hmf : ∀ (fn : Fn) (first cap : Array Value) (w : World), (Instr.makeFunc fn first cap).run Tryd.prog w = .ok (.func fn first cap) w := fun _ _ _ _ => rfl
  have hn : ∀ (b : Bool) w1, (Op.unary .not (.bool b)).run Tryd.prog w1 = .ok (.bool (!b)) w1 := fun _ _ => rfl
  obtain ⟨U, hU⟩ : ∃ U, (((((w.alloc (.cells #[.int .i64 t.kind, .int .i64 t.at_, .string t.name, .int .u64 t.num, .string t.op, .slice A t.kids.length cap] 31)).alloc (.cells #[.slice none 0 0, .slice none 0 0, .slice none 0 0] 36)).alloc (.cells #[.int .i64 0] 3)).alloc (.cells #[.int .i64 0] 37)).alloc (.cells #[.slice none 0 0, .slice none 0 0, .slice none 0 0, .slice none 0 0, .int .i64 0, .slice none 0 0, .int .i64 0] 64)) = U := ⟨_, rfl⟩
  have W1 : Below w.heap.size w U := by rw [← hU]; exact below_alloc (below_alloc (below_alloc (below_alloc (below_alloc (Below.refl _ _)))))
  have RC := right_calls U w.heap.size t (.slice A t.kids.length cap) ((tabl_of htab).on W1).here W1.size ((hk.under (W1.mono hB)).more hB)
  have BX := five w #[.int .i64 t.kind, .int .i64 t.at_, .string t.name, .int .u64 t.num, .string t.op, .slice A t.kids.length cap] #[.slice none 0 0, .slice none 0 0, .slice none 0 0] #[.int .i64 0] #[.int .i64 0] #[.slice none 0 0, .slice none 0 0, .slice none 0 0, .slice none 0 0, .int .i64 0, .slice none 0 0, .int .i64 0] U hU
  have HSU := Lib.hid (show U.heap.size = w.heap.size + 1 + 1 + 1 + 1 + 1 from by rw [← hU]; simp only [size_alloc])
  rw [hr] at RC
  replace RC := Lib.hid RC
  have HR := Lib.hid (show resP t = bodyW (iterW 300) startE noD t.kids (startO t) from by unfold resP; rw [hr]; rfl)
  have HW1 := Lib.hid W1
  have HK := Lib.hid hk
  have HKB := Lib.hid hB
  have HOK := Lib.hid hok
  obtain ⟨b0, b1, b2, b3, b4⟩ := BX
  have KX := Lib.hid (fun (v : World) (f : Below U.heap.size U v) => show Blk v w.heap.size 31 #[.int .i64 t.kind, .int .i64 t.at_, .string t.name, .int .u64 t.num, .string t.op, .slice A t.kids.length cap] ∧ Blk v (w.heap.size + 1) 36 #[.slice none 0 0, .slice none 0 0, .slice none 0 0] ∧ Blk v (w.heap.size + 1 + 1) 3 #[.int .i64 0] ∧ Blk v (w.heap.size + 1 + 1 + 1) 37 #[.int .i64 0] ∧ Blk v (w.heap.size + 1 + 1 + 1 + 1) 64 #[.slice none 0 0, .slice none 0 0, .slice none 0 0, .slice none 0 0, .int .i64 0, .slice none 0 0, .int .i64 0] from ⟨b0.below f b0.lt, b1.below f b1.lt, b2.below f b2.lt, b3.below f b3.lt, b4.below f b4.lt⟩)
  clear htab hB hk hr W1 hcl hcm hA b0 b1 b2 b3 b4 hok
  have SW := Lib.hid start_wat
  subst hU
  have BC : ∀ v1, Below w.heap.size w v1 → Blk v1 (w.heap.size + 1 + 1 + 1 + 1) 64 #[.slice none 0 0, .slice none 0 0, .slice none 0 0, .slice none 0 0, .int .i64 0, .slice none 0 0, .int .i64 0] → Calls Tryd.prog 22 #[.pointer (some ⟨w.heap.size + 1 + 1 + 1 + 1, 0, none⟩), .slice A t.kids.length cap, .nilFunc] ((v1.setCell ⟨w.heap.size + 1 + 1 + 1 + 1, 0, none⟩ (.slice (some ⟨v1.heap.size, 0, none⟩) 1 1)).alloc (.cells #[.int .i64 t.at_, .int .i64 (-1), .int .i64 0, .int .i64 0] 41))
      (WP ((v1.setCell ⟨w.heap.size + 1 + 1 + 1 + 1, 0, none⟩ (.slice (some ⟨v1.heap.size, 0, none⟩) 1 1)).alloc (.cells #[.int .i64 t.at_, .int .i64 (-1), .int .i64 0, .int .i64 0] 41)) (w.heap.size + 1 + 1 + 1 + 1) (w.heap.size + 1 + 1 + 1 + 1) [] startE ⟨.slice (some ⟨v1.heap.size, 0, none⟩) 1 1, .slice none 0 0, .slice none 0 0, .slice none 0 0, .slice none 0 0⟩ (bodyW (iterW 300) startE noD t.kids (startO t))) := fun v1 hb1 hb4 => by
    have hbw : Below w.heap.size w ((v1.setCell ⟨w.heap.size + 1 + 1 + 1 + 1, 0, none⟩ (.slice (some ⟨v1.heap.size, 0, none⟩) 1 1)).alloc (.cells #[.int .i64 t.at_, .int .i64 (-1), .int .i64 0, .int .i64 0] 41)) := below_alloc (hb1.setCell (p := ⟨w.heap.size + 1 + 1 + 1 + 1, 0, none⟩) (by show w.heap.size ≤ w.heap.size + 1 + 1 + 1 + 1; omega) _)
    have hkk := (HK.out.under (hbw.mono HKB.out)).more (show B ≤ w.heap.size + 1 + 1 + 1 + 1 from Nat.le_trans HKB.out (by omega))
    exact body_nil (goodW 300 (by omega)) (lenW 300) _ _ _ [] startE (startO t) _ t.kids A cap noD 0 (SW.out v1 _ t hb4) hkk (fun k hk => Tr.fitsD_mono (by omega) (Tr.fitsD_kid (n := 299) HOK.out.2.1 hk)) HOK.out.2.2.2 hkk.wf (by have h1 := HOK.out.2.2.1; have h2 := Tr.size_eq t; simp only [bnd, Out.len, startE, startO, List.length_nil, List.length_singleton]; omega) (fun x hx => by injection hx with hx; subst hx; simp) rfl
  replace BC := Lib.hid BC
  have NF := Lib.hid (fun (v1 : World) (hb4 : Blk v1 (w.heap.size + 1 + 1 + 1 + 1) 64 #[.slice none 0 0, .slice none 0 0, .slice none 0 0, .slice none 0 0, .int .i64 0, .slice none 0 0, .int .i64 0]) (v6 : World) (f : Fr (Ft (w.heap.size + 1 + 1 + 1 + 1) ⟨.slice (some ⟨v1.heap.size, 0, none⟩) 1 1, .slice none 0 0, .slice none 0 0, .slice none 0 0, .slice none 0 0⟩) ((v1.setCell ⟨w.heap.size + 1 + 1 + 1 + 1, 0, none⟩ (.slice (some ⟨v1.heap.size, 0, none⟩) 1 1)).alloc (.cells #[.int .i64 t.at_, .int .i64 (-1), .int .i64 0, .int .i64 0] 41)) v6) (q : Nat) (ty : TypeId) (cs : Array Value) (h : Blk v1 q ty cs) (ht : ty ≠ 64 ∧ ty ≠ 41 ∧ ty ≠ 44 ∧ ty ≠ 46 ∧ ty ≠ 78 ∧ ty ≠ 99) => show Blk v6 q ty cs from by
    have h1 := (h.far (p := ⟨w.heap.size + 1 + 1 + 1 + 1, 0, none⟩) (Blk.ne_ h hb4 ht.1) (.slice (some ⟨v1.heap.size, 0, none⟩) 1 1)).alloc (.cells #[.int .i64 t.at_, .int .i64 (-1), .int .i64 0, .int .i64 0] 41)
    exact f.blk h1 ((SW.out v1 _ t hb4).not_ft h1 ht))
  cases hbo : bodyW (iterW 300) startE noD t.kids (startO t) with
  | error cc =>
    have HR := Lib.hid (HR.out.trans hbo)
    have BC := Lib.hid (fun v1 h1 h4 => WP.errC (BC.out v1 h1 h4) hbo)
    clear hbo
    obtain ⟨c1, c2⟩ := cc
    unfold bad at BC
    go_enter_defers Tryd.func13, Tryd.ntmps13
    go_wp2_with (first | (go_at_call 19; (with_reducible refine RC.out.mono ?_); rintro e v1 ⟨rfl, g1⟩; obtain ⟨k0, k1, k2, k3, k4⟩ := KX.out _ g1; have G1 := Lib.hid (HW1.out.trans (g1.mono HW1.out.size)); have a1 := k0.cell 1; have a5 := k0.cell 5; have p0 := k4.cell 0; have pf0 := k4.frozen 0; have pl := k4.lt; have kl := k0.lt; have pn : v1.heap.size ≠ w.heap.size + 1 + 1 + 1 + 1 := (by have := k4.lt; omega); have pm : v1.heap.size ≠ w.heap.size := (by have := k0.lt; omega); simp only [List.getElem?_toArray, List.getElem?_cons_succ, List.getElem?_cons_zero] at a1 a5 p0; have BC1 := Lib.hid (BC.out v1 G1.out k4); have K0 := Lib.hid k0; have K1 := Lib.hid k1; have K2 := Lib.hid k2; have K3 := Lib.hid k3; have K4 := Lib.hid k4; clear g1 k0 k1 k2 k3 k4) | (go_at_call 22; (with_reducible refine BC1.out.mono ?_); rintro e v6 ⟨rfl, g6⟩; have G6 := Lib.hid g6; clear g6))
    have kk := fun {q : Nat} {ty : TypeId} {cs : Array Value} (h : Blk v1 q ty cs) (ht : ty ≠ 64) (hq : q < w.heap.size + 1 + 1 + 1 + 1) => show Blk v6 q ty cs from ((h.far (p := ⟨w.heap.size + 1 + 1 + 1 + 1, 0, none⟩) (Blk.ne_ h K4.out ht) (.slice (some ⟨v1.heap.size, 0, none⟩) 1 1)).alloc (.cells #[.int .i64 t.at_, .int .i64 (-1), .int .i64 0, .int .i64 0] 41)).below G6.out hq
    have k1 := kk K1.out (by decide) (by omega)
    have k2 := kk K2.out (by decide) (by omega)
    have k3 := kk K3.out (by decide) (by omega)
    have bw : Below w.heap.size w v6 := (below_alloc (G1.out.setCell (p := ⟨w.heap.size + 1 + 1 + 1 + 1, 0, none⟩) (by show w.heap.size ≤ w.heap.size + 1 + 1 + 1 + 1; omega) _)).trans (G6.out.mono (by omega))
    have hv6 : w.heap.size ≤ v6.heap.size := bw.size
    refine leaves_cons (f := 21) (args := #[.pointer (some ⟨w.heap.size + 1, 0, none⟩), .pointer (some ⟨w.heap.size + 1 + 1, 0, none⟩), .pointer (some ⟨w.heap.size + 1 + 1 + 1, 0, none⟩)]) (by simp) (by simp [go_sem]) ?_
    refine (catch_pan (w.heap.size + 1) (w.heap.size + 1 + 1) (w.heap.size + 1 + 1 + 1) c1 c2 [] _ _ _ _ _ _ k1 k2 k3).mono ?_
    rintro e u' w'' ⟨rfl, rfl, rfl⟩
    obtain ⟨j1, j2, j3⟩ := pan_blks (a := c1) (c := c2) k1 k2 k3
    have bp := pan_below (a := c1) (c := c2) (b0 := w.heap.size + 1) (b1 := w.heap.size + 1 + 1) (b2 := w.heap.size + 1 + 1 + 1) bw hv6 (by omega) (by omega) (by omega)
    generalize pan v6 (w.heap.size + 1) (w.heap.size + 1 + 1) (w.heap.size + 1 + 1 + 1) c1 c2 = Y at *
    have c0 : Y.cell? ⟨w.heap.size + 1, 0, none⟩ = some (.slice none 0 0) := j1.cell 0
    have cc1 : Y.cell? ⟨w.heap.size + 1, 1, none⟩ = some (.slice none 0 0) := j1.cell 1
    have cc2 : Y.cell? ⟨w.heap.size + 1, 2, none⟩ = some (.slice none 0 0) := j1.cell 2
    have d0 : Y.cell? ⟨w.heap.size + 1 + 1, 0, none⟩ = some (.int .i64 c1) := j2.cell 0
    have e0 : Y.cell? ⟨w.heap.size + 1 + 1 + 1, 0, none⟩ = some (.int .i64 c2) := j3.cell 0
    show Leaves Tryd.prog Tryd.f13 _ _ [] .returning Y
    refine ⟨.tuple #[.agg #[.slice none 0 0, .slice none 0 0, .slice none 0 0], .int .i64 c1, .int .i64 c2], by simp [results, Tryd.results13, go_sem, c0, cc1, cc2, d0, e0], ?_⟩
    exact ⟨bp, fun o ho => (by rw [HR.out] at ho; cases ho), fun c hc => (by rw [HR.out] at hc; injection hc with hc; subst hc; rfl)⟩
  | ok o1 =>
    have HR := Lib.hid (HR.out.trans hbo)
    have BC := Lib.hid (fun v1 h1 h4 => (BC.out v1 h1 h4).mono (R' := fun e w' => (∃ x, e = .returned x) ∧ ∃ R1, WAt w' (w.heap.size + 1 + 1 + 1 + 1) (w.heap.size + 1 + 1 + 1 + 1) [] startE o1 R1 ∧ Fr (Ft (w.heap.size + 1 + 1 + 1 + 1) ⟨.slice (some ⟨v1.heap.size, 0, none⟩) 1 1, .slice none 0 0, .slice none 0 0, .slice none 0 0, .slice none 0 0⟩) ((v1.setCell ⟨w.heap.size + 1 + 1 + 1 + 1, 0, none⟩ (.slice (some ⟨v1.heap.size, 0, none⟩) 1 1)).alloc (.cells #[.int .i64 t.at_, .int .i64 (-1), .int .i64 0, .int .i64 0] 41)) w' ∧ Gr _ (w.heap.size + 1 + 1 + 1 + 1) _ R1) fun e w' hh => hh.1 o1 hbo)
    clear hbo
    go_enter_defers Tryd.func13, Tryd.ntmps13
    go_wp2_with (first | (go_at_call 19; (with_reducible refine RC.out.mono ?_); rintro e v1 ⟨rfl, g1⟩; obtain ⟨k0, k1, k2, k3, k4⟩ := KX.out _ g1; have G1 := Lib.hid (HW1.out.trans (g1.mono HW1.out.size)); have a1 := k0.cell 1; have a5 := k0.cell 5; have p0 := k4.cell 0; have pf0 := k4.frozen 0; have pl := k4.lt; have kl := k0.lt; have pn : v1.heap.size ≠ w.heap.size + 1 + 1 + 1 + 1 := (by have := k4.lt; omega); have pm : v1.heap.size ≠ w.heap.size := (by have := k0.lt; omega); simp only [List.getElem?_toArray, List.getElem?_cons_succ, List.getElem?_cons_zero] at a1 a5 p0; have BC1 := Lib.hid (BC.out v1 G1.out k4); have K0 := Lib.hid k0; have K1 := Lib.hid k1; have K2 := Lib.hid k2; have K3 := Lib.hid k3; have K4 := Lib.hid k4; clear g1 k0 k1 k2 k3 k4) | (go_at_call 22; (with_reducible refine BC1.out.mono ?_); rintro e v6 ⟨⟨xx, rfl⟩, R1, g1, g2, g3⟩; obtain ⟨A1, x1, hSV⟩ := own_is_slice g1.inn.sc; obtain ⟨A2, x2, hVV⟩ := own_is_slice g1.inn.vr; obtain ⟨A3, x3, hUV⟩ := own_is_slice g1.inn.us; have hb6 := g1.blk; rw [hSV, hVV, hUV] at hb6; have p0' := hb6.cell 0; have p1' := hb6.cell 1; have p2' := hb6.cell 2; have k1 := NF.out v1 K4.out v6 g2 _ _ _ K1.out (by decide); have k2 := NF.out v1 K4.out v6 g2 _ _ _ K2.out (by decide); have k3 := NF.out v1 K4.out v6 g2 _ _ _ K3.out (by decide); have c0 := k1.cell 0; have cc1 := k1.cell 1; have cc2 := k1.cell 2; have d0 := k2.cell 0; have e0 := k3.cell 0; have fc0 := k1.frozen 0; have fc1 := k1.frozen 1; have fc2 := k1.frozen 2; have fd0 := k2.frozen 0; have fe0 := k3.frozen 0; simp only [List.getElem?_toArray, List.getElem?_cons_succ, List.getElem?_cons_zero] at p0' p1' p2' c0 cc1 cc2 d0 e0; have l1 := k1.lt; have l2 := k2.lt; have l3 := k3.lt; have L1 := Lib.hid k1; have L2 := Lib.hid k2; have L3 := Lib.hid k3; have G7 := Lib.hid g1; have G8 := Lib.hid g2; have HSV := Lib.hid hSV; have HVV := Lib.hid hVV; have HUV := Lib.hid hUV; clear g1 g2 g3 hb6 k1 k2 k3 hSV hVV hUV))
    have n12 : w.heap.size + 1 ≠ w.heap.size + 1 + 1 := by omega
    have n13 : w.heap.size + 1 ≠ w.heap.size + 1 + 1 + 1 := by omega
    have n23 : w.heap.size + 1 + 1 ≠ w.heap.size + 1 + 1 + 1 := by omega
    have rows : ∀ {e s n : Nat} {v : Value} {xs : List Value}, v6.ownsRow (w.heap.size + 1 + 1 + 1 + 1) e s v n xs → e ≠ 36 → e ≠ 3 → e ≠ 37 → ((((((v6.setCell ⟨w.heap.size + 1, 0, none⟩ (.slice A1 o1.scopes.length x1)).setCell ⟨w.heap.size + 1, 1, none⟩ (.slice A2 o1.vars.length x2)).setCell ⟨w.heap.size + 1, 2, none⟩ (.slice A3 o1.uses.length x3)).setCell ⟨w.heap.size + 1 + 1, 0, none⟩ (.int .i64 0)).setCell ⟨w.heap.size + 1 + 1 + 1, 0, none⟩ (.int .i64 0)).alloc (.cells #[.int .i64 0, .int .i64 0] 58)).ownsRow w.heap.size e s v n xs := fun h h1 h2 h3 => by
      have b1 := L1.out.set_ 0 (.slice A1 o1.scopes.length x1)
      have b1' := b1.set_ 1 (.slice A2 o1.vars.length x2)
      have b2 := ((L2.out.far (p := ⟨w.heap.size + 1, 0, none⟩) (Ne.symm n12) (.slice A1 o1.scopes.length x1)).far (p := ⟨w.heap.size + 1, 1, none⟩) (Ne.symm n12) (.slice A2 o1.vars.length x2)).far (p := ⟨w.heap.size + 1, 2, none⟩) (Ne.symm n12) (.slice A3 o1.uses.length x3)
      have b3 := (((L3.out.far (p := ⟨w.heap.size + 1, 0, none⟩) (Ne.symm n13) (.slice A1 o1.scopes.length x1)).far (p := ⟨w.heap.size + 1, 1, none⟩) (Ne.symm n13) (.slice A2 o1.vars.length x2)).far (p := ⟨w.heap.size + 1, 2, none⟩) (Ne.symm n13) (.slice A3 o1.uses.length x3)).far (p := ⟨w.heap.size + 1 + 1, 0, none⟩) (Ne.symm n23) (.int .i64 0)
      exact own_base (own_below (below_alloc (Below.refl _ _)) (own_set (own_set (own_set (own_set (own_set h L1.out h1 0 (.slice A1 o1.scopes.length x1)) b1 h1 1 (.slice A2 o1.vars.length x2)) b1' h1 2 (.slice A3 o1.uses.length x3)) b2 h2 0 (.int .i64 0)) b3 h3 0 (.int .i64 0))) (by omega)
    have bV := below_alloc (o := .cells #[.int .i64 t.at_, .int .i64 (-1), .int .i64 0, .int .i64 0] 41) (G1.out.setCell (p := ⟨w.heap.size + 1 + 1 + 1 + 1, 0, none⟩) (by show w.heap.size ≤ w.heap.size + 1 + 1 + 1 + 1; omega) (.slice (some ⟨v1.heap.size, 0, none⟩) 1 1))
    have bw : Below w.heap.size w v6 := bV.trans (((SW.out v1 _ t K4.out).under G8.out).mono (by omega))
    have k1 := ((((((L1.out.set_ 0 (.slice A1 o1.scopes.length x1)).set_ 1 (.slice A2 o1.vars.length x2)).set_ 2 (.slice A3 o1.uses.length x3)).far (p := ⟨w.heap.size + 1 + 1, 0, none⟩) n12 (.int .i64 0)).far (p := ⟨w.heap.size + 1 + 1 + 1, 0, none⟩) n13 (.int .i64 0))).alloc (.cells #[.int .i64 0, .int .i64 0] 58)
    have k2 := ((((((L2.out.far (p := ⟨w.heap.size + 1, 0, none⟩) (Ne.symm n12) (.slice A1 o1.scopes.length x1)).far (p := ⟨w.heap.size + 1, 1, none⟩) (Ne.symm n12) (.slice A2 o1.vars.length x2)).far (p := ⟨w.heap.size + 1, 2, none⟩) (Ne.symm n12) (.slice A3 o1.uses.length x3)).set_ 0 (.int .i64 0)).far (p := ⟨w.heap.size + 1 + 1 + 1, 0, none⟩) n23 (.int .i64 0))).alloc (.cells #[.int .i64 0, .int .i64 0] 58)
    have k3 := ((((((L3.out.far (p := ⟨w.heap.size + 1, 0, none⟩) (Ne.symm n13) (.slice A1 o1.scopes.length x1)).far (p := ⟨w.heap.size + 1, 1, none⟩) (Ne.symm n13) (.slice A2 o1.vars.length x2)).far (p := ⟨w.heap.size + 1, 2, none⟩) (Ne.symm n13) (.slice A3 o1.uses.length x3)).far (p := ⟨w.heap.size + 1 + 1, 0, none⟩) (Ne.symm n23) (.int .i64 0)).set_ 0 (.int .i64 0))).alloc (.cells #[.int .i64 0, .int .i64 0] 58)
    have by_ : Below w.heap.size w ((((((v6.setCell ⟨w.heap.size + 1, 0, none⟩ (.slice A1 o1.scopes.length x1)).setCell ⟨w.heap.size + 1, 1, none⟩ (.slice A2 o1.vars.length x2)).setCell ⟨w.heap.size + 1, 2, none⟩ (.slice A3 o1.uses.length x3)).setCell ⟨w.heap.size + 1 + 1, 0, none⟩ (.int .i64 0)).setCell ⟨w.heap.size + 1 + 1 + 1, 0, none⟩ (.int .i64 0)).alloc (.cells #[.int .i64 0, .int .i64 0] 58)) := below_alloc (((((bw.setCell (p := ⟨w.heap.size + 1, 0, none⟩) (by show w.heap.size ≤ w.heap.size + 1; omega) _).setCell (p := ⟨w.heap.size + 1, 1, none⟩) (by show w.heap.size ≤ w.heap.size + 1; omega) _).setCell (p := ⟨w.heap.size + 1, 2, none⟩) (by show w.heap.size ≤ w.heap.size + 1; omega) _).setCell (p := ⟨w.heap.size + 1 + 1, 0, none⟩) (by show w.heap.size ≤ w.heap.size + 1 + 1; omega) _).setCell (p := ⟨w.heap.size + 1 + 1 + 1, 0, none⟩) (by show w.heap.size ≤ w.heap.size + 1 + 1 + 1; omega) _)
    have r1 := rows G7.out.inn.sc (by decide) (by decide) (by decide)
    have r2 := rows G7.out.inn.vr (by decide) (by decide) (by decide)
    have r3 := rows G7.out.inn.us (by decide) (by decide) (by decide)
    rw [HSV.out] at r1
    rw [HVV.out] at r2
    rw [HUV.out] at r3
    clear rows c0 cc1 cc2 d0 e0 fc0 fc1 fc2 fd0 fe0 p0' p1' p2'
    generalize (((((v6.setCell ⟨w.heap.size + 1, 0, none⟩ (.slice A1 o1.scopes.length x1)).setCell ⟨w.heap.size + 1, 1, none⟩ (.slice A2 o1.vars.length x2)).setCell ⟨w.heap.size + 1, 2, none⟩ (.slice A3 o1.uses.length x3)).setCell ⟨w.heap.size + 1 + 1, 0, none⟩ (.int .i64 0)).setCell ⟨w.heap.size + 1 + 1 + 1, 0, none⟩ (.int .i64 0)) = Y at *
    refine leaves_cons (f := 21) (args := #[.pointer (some ⟨w.heap.size + 1, 0, none⟩), .pointer (some ⟨w.heap.size + 1 + 1, 0, none⟩), .pointer (some ⟨w.heap.size + 1 + 1 + 1, 0, none⟩)]) (by simp) (by simp [go_sem]) ?_
    refine (catch_idle ⟨w.heap.size + 1, 0, none⟩ ⟨w.heap.size + 1 + 1, 0, none⟩ ⟨w.heap.size + 1 + 1 + 1, 0, none⟩ _).mono ?_
    rintro e u' w'' ⟨rfl, rfl, rfl⟩
    have c0 : (Y.alloc (.cells #[.int .i64 0, .int .i64 0] 58)).cell? ⟨w.heap.size + 1, 0, none⟩ = some (.slice A1 o1.scopes.length x1) := k1.cell 0
    have cc1 : (Y.alloc (.cells #[.int .i64 0, .int .i64 0] 58)).cell? ⟨w.heap.size + 1, 1, none⟩ = some (.slice A2 o1.vars.length x2) := k1.cell 1
    have cc2 : (Y.alloc (.cells #[.int .i64 0, .int .i64 0] 58)).cell? ⟨w.heap.size + 1, 2, none⟩ = some (.slice A3 o1.uses.length x3) := k1.cell 2
    have d0 : (Y.alloc (.cells #[.int .i64 0, .int .i64 0] 58)).cell? ⟨w.heap.size + 1 + 1, 0, none⟩ = some (.int .i64 0) := k2.cell 0
    have e0 : (Y.alloc (.cells #[.int .i64 0, .int .i64 0] 58)).cell? ⟨w.heap.size + 1 + 1 + 1, 0, none⟩ = some (.int .i64 0) := k3.cell 0
    refine ⟨.tuple #[.agg #[.slice A1 o1.scopes.length x1, .slice A2 o1.vars.length x2, .slice A3 o1.uses.length x3], .int .i64 0, .int .i64 0], by simp [results, Tryd.results13, go_sem, c0, cc1, cc2, d0, e0], ?_⟩
    exact ⟨by_, fun o ho => (by rw [HR.out] at ho; injection ho with ho; subst ho; exact ⟨_, _, _, rfl, r1, r2, r3⟩), fun c hc => (by rw [HR.out] at hc; cases hc)⟩
theorem resolve_calls (w : World) (B : Nat) (t : Tr) (kv : Value) (htab : Lib.TabIs Tryd.prog w "strings.asciiSpace" .u8 Lib.asciiSpaceTab) (hB : B ≤ w.heap.size) (hk : KidsAt w B kv t.kids) :
    Calls Tryd.prog 13 #[.agg #[.int .i64 t.kind, .int .i64 t.at_, .string t.name, .int .u64 t.num, .string t.op, kv]] w (ResR w t) := by
  cases hr : rightP t with
  | true => exact resolve_right w B t kv htab hB hk hr
  | false => exact resolve_wrong w B t kv htab hB hk hr
end Go.Proofs.YtlenhcmgcgccmaaDoor
