/- For every number of shapes and every script whose data together hold at most 1048576 values and letters, the call of ShapesMost returns true, and its arguments read as before. -/
import Derived.Test.YtchbgececcclgaaPv
import Derived.Test.YtchbgececcclgaaRows
import Derived.ProofKit
import Derived.OpenShut
import Derived.Carry
import Derived.JoinedCond
namespace Go.Proofs.Ytchbgececcclgaa.shapesMost
open Go.ChangeShapes Go.WideShapes Go.ChangeAt Go.RowKit Go.Deep Go
set_option linter.unusedSimpArgs false
set_option linter.unusedVariables false
set_option maxRecDepth 100000 in
set_option maxHeartbeats 16000000 in
theorem walkP (w : World) (most : Int) (hm : 0 ≤ most) (A : Option Addr) (n c : Nat) (Os : List Opp) (hr : Reads w w.heap.size 5 A n (Os.flatMap opv)) (hO : ∀ o ∈ Os, o.Ok) (hn : n ≤ 174763) :
    Calls Try.prog 4 #[.int .i64 most, .slice A n c] w fun e w' => e = .returned (.bool true) ∧ Below w.heap.size w w' := by
  have hl := reads_len opv_len (by decide) hr
  have NC := Lib.hid (show Calls Try.prog 7 #[.int .i64 most] w (fun e w' => ∃ g, e = .returned (.pointer (some ⟨g, 0, none⟩)) ∧ TreeIs w' w.heap.size g most [] ∧ Below w.heap.size w w') from by
    have := new_calls w most
    rw [Int.max_eq_left hm] at this; exact this)
  have AL := Lib.hid alive_calls
  have HR := Lib.hid hr
  have HL := Lib.hid hl
  have HO := Lib.hid hO
  have HM := Lib.hid hm
  have hM : (0 : Int) ≤ most := by omega
  clear hr hl hO HM
  go_enter Try.func4, Try.ntmps4
  go_wp2_with (first | (go_at_call 7; (with_reducible refine NC.out.mono ?_); rintro e w1 ⟨g, rfl, ht1, hb1⟩; have ht1 := Lib.hid ht1; have hb1 := Lib.hid hb1) |
    (go_at_call 8; (with_reducible refine (AL.out _).mono ?_); rintro e w2 ⟨rfl, hb2⟩; have hb2 := Lib.hid hb2))
  have S0 := Sta.first (Below.refl w.heap.size w) ht1.out hb1.out hb2.out
  generalize w2.heap.size = z at S0 ⊢
  have S0 := Lib.hid S0
  go_loopg [25] n (fun fu ix wr => ∃ k : Nat, ix = .int .i64 k ∧ k + fu = n ∧ Sta w wr w.heap.size g z most (runP most [] (Os.take k)))
  case atStart => exact ⟨0, rfl, by omega, by simpa [runP] using S0.out⟩
  case round =>
    obtain ⟨k, rfl, hf, hS⟩ := hrel
    have HS := Lib.hid hS
    have HF := Lib.hid hf
    by_cases hk : k < n
    · obtain ⟨o, ho⟩ : ∃ o, Os[k]? = some o := ⟨_, List.getElem?_eq_getElem (by have := HL.out; omega)⟩
      have hfar := far_take (M := most) HO.out k (by have := HL.out; omega) (by omega)
      have hok := HO.out o (List.mem_of_getElem? ho)
      obtain ⟨hfar2, hpre⟩ := hfar.step hok (by omega)
      rw [← run_take ho] at hfar2 hpre
      have hsm := far_small hfar (by omega)
      have hsm2 := far_small hfar2 (by omega)
      have hlen := hpre.length_le
      have htop := hfar2.top
      rw [Int.max_eq_left hM] at htop
      have hrt := run_take (M := most) ho
      obtain ⟨b, off, rfl, hbl, hc⟩ := reads_get opv_len (by decide) (HR.out.below hS.bel) ho
      have c0 : wr.cell? ⟨b, off + k * 5, none⟩ = some (.int .i64 o.kind) := hc 0 _ rfl
      have c1 : wr.cell? ⟨b, off + k * 5 + 1, none⟩ = some (.int .i64 o.shape) := hc 1 _ rfl
      have c2 : wr.cell? ⟨b, off + k * 5 + 2, none⟩ = some (.int .i64 o.flags) := hc 2 _ rfl
      have c3 : wr.cell? ⟨b, off + k * 5 + 3, none⟩ = some (.int .u64 o.proto) := hc 3 _ rfl
      have c4 : wr.cell? ⟨b, off + k * 5 + 4, none⟩ = some (.string o.key) := hc 4 _ rfl
      obtain ⟨A0, n0, c0', hbz, hrt0⟩ := hS.ref
      have hal : Below wr.heap.size wr (wr.alloc (.cells #[.int .i64 o.kind, .int .i64 o.shape, .int .i64 o.flags, .int .u64 o.proto, .string o.key] 25)) := (Below.refl _ _).alloc (Nat.le_refl _) _
      have CC := Lib.hid (tree_count (hS.tree.below hal))
      have SC := Lib.hid (show Calls Try.prog 9 #[.pointer (some ⟨g, 0, none⟩), .agg #[.int .i64 most, .slice A0 n0 c0'], .agg #[.int .i64 o.kind, .int .i64 o.shape, .int .i64 o.flags, .int .u64 o.proto, .string o.key]] (wr.alloc (.cells #[.int .i64 o.kind, .int .i64 o.shape, .int .i64 o.flags, .int .u64 o.proto, .string o.key] 25)) (StepGives (wr.alloc (.cells #[.int .i64 o.kind, .int .i64 o.shape, .int .i64 o.flags, .int .u64 o.proto, .string o.key] 25)) w.heap.size g most (runP most [] (Os.take (k + 1)))) from hrt ▸ step_calls _ w.heap.size g most A0 n0 c0' _ (hS.tree.below hal) (hrt0.keep (Kept.below hal hS.tree.base)) hS.wf o hok hsm (by rw [← hrt]; omega))
      have CC2 := Lib.hid (fun (w' : World) (h : TreeIs w' w.heap.size g most (runP most [] (Os.take (k + 1)))) => tree_count h)
      obtain ⟨y0, y1, y2, y3⟩ := (hbz.alloc (.cells #[.int .i64 o.kind, .int .i64 o.shape, .int .i64 o.flags, .int .u64 o.proto, .string o.key] 25)).two
      have HBZ := Lib.hid hbz
      have HNx := Lib.hid (fun (w' : World) (A' : Option Addr) (n' c' : Nat) (ht : TreeIs w' w.heap.size g most (runP most [] (Os.take (k + 1)))) (hr : RTree w.heap.size w' A' n' (runP most [] (Os.take (k + 1)))) (hk : Kept w.heap.size (wr.alloc (.cells #[.int .i64 o.kind, .int .i64 o.shape, .int .i64 o.flags, .int .u64 o.proto, .string o.key] 25)) w') => show Sta w ((w'.setCell ⟨z, 0, none⟩ (.int .i64 most)).setCell ⟨z, 1, none⟩ (.slice A' n' c')) w.heap.size g z most (runP most [] (Os.take (k + 1))) from by
        rw [hrt] at ht hr ⊢; exact HS.out.next hok ht hr hk)
      have hk' : (k : Int) < (n : Int) := by omega
      obtain ⟨f', hf'⟩ : ∃ f', gk = f' + 1 := ⟨gk - 1, by omega⟩
      have HF' := Lib.hid hf'
      generalize hL1 : runP most [] (Os.take (k + 1)) = L1 at *
      generalize hL0 : runP most [] (Os.take k) = L0 at *
      have t1 : ¬ ((L1.length : Int) < (L0.length : Int)) := by omega
      have t2 : ¬ ((most : Int) < (L1.length : Int)) := by omega
      have hl1 := Lib.hid hL1
      clear hf hf' hS ho hfar hok hfar2 hpre hsm hsm2 hlen htop hrt hbl hc hal hbz hrt0 hL1 hL0 ht1 S0
      go_wp2_with (first | (go_at_call 11; (with_reducible refine CC.out.mono ?_); rintro e w3 ⟨rfl, rfl⟩) |
        (go_at_call 9; (with_reducible refine SC.out.mono ?_); rintro e w4 ⟨A4, n4, c4', rfl, ht4, hr4, hk4⟩; obtain ⟨y0, y1, y2, y3⟩ := ((hk4.blk (HBZ.out.alloc _) (by decide) (by decide)).alloc (.cells #[.int .i64 most, .slice A4 n4 c4'] 32)).two; have ht4 := Lib.hid ht4; have hr4 := Lib.hid hr4; have hk4 := Lib.hid hk4) |
        (go_at_call 11; (with_reducible refine (CC2.out _ (ht4.out.below ((Below.refl _ _).alloc (Nat.le_refl _) _))).mono ?_); rintro e w5 ⟨rfl, rfl⟩))
      go_roundg f'
      case measure => have := HF'.out; omega
      case rel =>
        refine ⟨k + 1, by simp, by have := HF'.out; have := HF.out; omega, ?_⟩
        rw [hl1.out]
        exact HNx.out _ A4 n4 c4' (ht4.out.below ((Below.refl _ _).alloc (Nat.le_refl _) _)) (hr4.out.keep (Kept.below ((Below.refl _ _).alloc (Nat.le_refl _) _) ht4.out.base)) (hk4.out.trans (Kept.below ((Below.refl _ _).alloc (Nat.le_refl _) _) ht4.out.base))
    · have hk' : ¬ (k : Int) < (n : Int) := by omega
      clear hf hS
      go_wp2
      go_ret
      exact ⟨rfl, HS.out.bel⟩
set_option maxRecDepth 100000 in
set_option maxHeartbeats 16000000 in
theorem walkN (w : World) (most : Int) (hm : ¬ 0 ≤ most) (A : Option Addr) (n c : Nat) (Os : List Opp) (hr : Reads w w.heap.size 5 A n (Os.flatMap opv)) (hO : ∀ o ∈ Os, o.Ok) (hn : n ≤ 174763) :
    Calls Try.prog 4 #[.int .i64 most, .slice A n c] w fun e w' => e = .returned (.bool true) ∧ Below w.heap.size w w' := by
  have hl := reads_len opv_len (by decide) hr
  have NC := Lib.hid (show Calls Try.prog 7 #[.int .i64 most] w (fun e w' => ∃ g, e = .returned (.pointer (some ⟨g, 0, none⟩)) ∧ TreeIs w' w.heap.size g 0 [] ∧ Below w.heap.size w w') from by
    have := new_calls w most
    rw [Int.max_eq_right (by omega)] at this; exact this)
  have AL := Lib.hid alive_calls
  have HR := Lib.hid hr
  have HL := Lib.hid hl
  have HO := Lib.hid hO
  have HM := Lib.hid hm
  have hM : (0 : Int) ≤ 0 := by omega
  clear hr hl hO HM
  go_enter Try.func4, Try.ntmps4
  go_wp2_with (first | (go_at_call 7; (with_reducible refine NC.out.mono ?_); rintro e w1 ⟨g, rfl, ht1, hb1⟩; have ht1 := Lib.hid ht1; have hb1 := Lib.hid hb1) |
    (go_at_call 8; (with_reducible refine (AL.out _).mono ?_); rintro e w2 ⟨rfl, hb2⟩; have hb2 := Lib.hid hb2))
  have S0 := Sta.first (Below.refl w.heap.size w) ht1.out hb1.out hb2.out
  generalize w2.heap.size = z at S0 ⊢
  have S0 := Lib.hid S0
  go_loopg [25] n (fun fu ix wr => ∃ k : Nat, ix = .int .i64 k ∧ k + fu = n ∧ Sta w wr w.heap.size g z 0 (runP 0 [] (Os.take k)))
  case atStart => exact ⟨0, rfl, by omega, by simpa [runP] using S0.out⟩
  case round =>
    obtain ⟨k, rfl, hf, hS⟩ := hrel
    have HS := Lib.hid hS
    have HF := Lib.hid hf
    by_cases hk : k < n
    · obtain ⟨o, ho⟩ : ∃ o, Os[k]? = some o := ⟨_, List.getElem?_eq_getElem (by have := HL.out; omega)⟩
      have hfar := far_take (M := 0) HO.out k (by have := HL.out; omega) (by omega)
      have hok := HO.out o (List.mem_of_getElem? ho)
      obtain ⟨hfar2, hpre⟩ := hfar.step hok (by omega)
      rw [← run_take ho] at hfar2 hpre
      have hsm := far_small hfar (by omega)
      have hsm2 := far_small hfar2 (by omega)
      have hlen := hpre.length_le
      have htop := hfar2.top
      rw [Int.max_eq_left hM] at htop
      have hrt := run_take (M := 0) ho
      obtain ⟨b, off, rfl, hbl, hc⟩ := reads_get opv_len (by decide) (HR.out.below hS.bel) ho
      have c0 : wr.cell? ⟨b, off + k * 5, none⟩ = some (.int .i64 o.kind) := hc 0 _ rfl
      have c1 : wr.cell? ⟨b, off + k * 5 + 1, none⟩ = some (.int .i64 o.shape) := hc 1 _ rfl
      have c2 : wr.cell? ⟨b, off + k * 5 + 2, none⟩ = some (.int .i64 o.flags) := hc 2 _ rfl
      have c3 : wr.cell? ⟨b, off + k * 5 + 3, none⟩ = some (.int .u64 o.proto) := hc 3 _ rfl
      have c4 : wr.cell? ⟨b, off + k * 5 + 4, none⟩ = some (.string o.key) := hc 4 _ rfl
      obtain ⟨A0, n0, c0', hbz, hrt0⟩ := hS.ref
      have hal : Below wr.heap.size wr (wr.alloc (.cells #[.int .i64 o.kind, .int .i64 o.shape, .int .i64 o.flags, .int .u64 o.proto, .string o.key] 25)) := (Below.refl _ _).alloc (Nat.le_refl _) _
      have CC := Lib.hid (tree_count (hS.tree.below hal))
      have SC := Lib.hid (show Calls Try.prog 9 #[.pointer (some ⟨g, 0, none⟩), .agg #[.int .i64 0, .slice A0 n0 c0'], .agg #[.int .i64 o.kind, .int .i64 o.shape, .int .i64 o.flags, .int .u64 o.proto, .string o.key]] (wr.alloc (.cells #[.int .i64 o.kind, .int .i64 o.shape, .int .i64 o.flags, .int .u64 o.proto, .string o.key] 25)) (StepGives (wr.alloc (.cells #[.int .i64 o.kind, .int .i64 o.shape, .int .i64 o.flags, .int .u64 o.proto, .string o.key] 25)) w.heap.size g 0 (runP 0 [] (Os.take (k + 1)))) from hrt ▸ step_calls _ w.heap.size g 0 A0 n0 c0' _ (hS.tree.below hal) (hrt0.keep (Kept.below hal hS.tree.base)) hS.wf o hok hsm (by rw [← hrt]; omega))
      have CC2 := Lib.hid (fun (w' : World) (h : TreeIs w' w.heap.size g 0 (runP 0 [] (Os.take (k + 1)))) => tree_count h)
      obtain ⟨y0, y1, y2, y3⟩ := (hbz.alloc (.cells #[.int .i64 o.kind, .int .i64 o.shape, .int .i64 o.flags, .int .u64 o.proto, .string o.key] 25)).two
      have HBZ := Lib.hid hbz
      have HNx := Lib.hid (fun (w' : World) (A' : Option Addr) (n' c' : Nat) (ht : TreeIs w' w.heap.size g 0 (runP 0 [] (Os.take (k + 1)))) (hr : RTree w.heap.size w' A' n' (runP 0 [] (Os.take (k + 1)))) (hk : Kept w.heap.size (wr.alloc (.cells #[.int .i64 o.kind, .int .i64 o.shape, .int .i64 o.flags, .int .u64 o.proto, .string o.key] 25)) w') => show Sta w ((w'.setCell ⟨z, 0, none⟩ (.int .i64 0)).setCell ⟨z, 1, none⟩ (.slice A' n' c')) w.heap.size g z 0 (runP 0 [] (Os.take (k + 1))) from by
        rw [hrt] at ht hr ⊢; exact HS.out.next hok ht hr hk)
      have hk' : (k : Int) < (n : Int) := by omega
      obtain ⟨f', hf'⟩ : ∃ f', gk = f' + 1 := ⟨gk - 1, by omega⟩
      have HF' := Lib.hid hf'
      generalize hL1 : runP 0 [] (Os.take (k + 1)) = L1 at *
      generalize hL0 : runP 0 [] (Os.take k) = L0 at *
      have t1 : ¬ ((L1.length : Int) < (L0.length : Int)) := by omega
      have t2 : ¬ ((0 : Int) < (L1.length : Int)) := by omega
      have hl1 := Lib.hid hL1
      clear hf hf' hS ho hfar hok hfar2 hpre hsm hsm2 hlen htop hrt hbl hc hal hbz hrt0 hL1 hL0 ht1 S0
      go_wp2_with (first | (go_at_call 11; (with_reducible refine CC.out.mono ?_); rintro e w3 ⟨rfl, rfl⟩) |
        (go_at_call 9; (with_reducible refine SC.out.mono ?_); rintro e w4 ⟨A4, n4, c4', rfl, ht4, hr4, hk4⟩; obtain ⟨y0, y1, y2, y3⟩ := ((hk4.blk (HBZ.out.alloc _) (by decide) (by decide)).alloc (.cells #[.int .i64 0, .slice A4 n4 c4'] 32)).two; have ht4 := Lib.hid ht4; have hr4 := Lib.hid hr4; have hk4 := Lib.hid hk4) |
        (go_at_call 11; (with_reducible refine (CC2.out _ (ht4.out.below ((Below.refl _ _).alloc (Nat.le_refl _) _))).mono ?_); rintro e w5 ⟨rfl, rfl⟩))
      go_roundg f'
      case measure => have := HF'.out; omega
      case rel =>
        refine ⟨k + 1, by simp, by have := HF'.out; have := HF.out; omega, ?_⟩
        rw [hl1.out]
        exact HNx.out _ A4 n4 c4' (ht4.out.below ((Below.refl _ _).alloc (Nat.le_refl _) _)) (hr4.out.keep (Kept.below ((Below.refl _ _).alloc (Nat.le_refl _) _) ht4.out.base)) (hk4.out.trans (Kept.below ((Below.refl _ _).alloc (Nat.le_refl _) _) ht4.out.base))
    · have hk' : ¬ (k : Int) < (n : Int) := by omega
      clear hf hS
      go_wp2
      go_ret
      exact ⟨rfl, HS.out.bel⟩
theorem call {H : Type} {enc : TypeId × Value → H} {W : World} {base : Nat} {v0 : Value} {d0 : DataW H} {p0 : List MemPlace} {v1 : Value} {d1 : DataW H} {p1 : List MemPlace}
    (o0 : Value.okWide Try.prog W .any base 3 v0) (h0 : DataW.Trod enc Try.prog W 0 (fun _ => true) true 3 v0 d0 p0) (o1 : Value.okWide Try.prog W .any base 22 v1) (h1 : DataW.Trod enc Try.prog W 0 (fun _ => true) true 22 v1 d1 p1) (hb : Rows.uptoBulk d0 + Rows.uptoBulk d1 ≤ 1048576) :
    Calls Try.prog 4 #[v0, v1] W fun e w' => e = .returned (.bool true) ∧ Below W.heap.size W w' := by
  obtain ⟨m, rfl⟩ := okWide_int Try.underlying3 o0
  obtain ⟨fuel, hf⟩ := h1
  have hv : v1.cells.toList = [v1] := by
    obtain ⟨a, l, c, rfl⟩ := okWide_slice Try.underlying22 o1
    rfl
  rw [hv] at hf
  obtain ⟨A, n, c, Os, rfl, hr, hO, hbk, _⟩ := open_ops hf
  have hn : n ≤ 174763 := by
    have : n * 6 ≤ Rows.uptoBulk d1 := hbk
    omega
  by_cases hm : 0 ≤ m
  · exact walkP W m hm A n c Os hr hO hn
  · exact walkN W m hm A n c Os hr hO hn
theorem own : ownKnob Try.prog.godebug = none := by kernel_rfl
theorem laidOut : laidOutB Try.prog = true := by kernel_rfl
set_option maxHeartbeats 0 in
/-- what the walk gives. -/
theorem contract (H : Type) (enc : TypeId × Value → H) (W : World) (base : Nat) (args : Array Value) (ds gs : List (DataW H)) (before : List MemPlace)
    (hval : ∀ (j : Nat) t v, Try.f4.params[j]? = some t → args[j]? = some v → Value.okWide Try.prog W .any base t v)
    (hW : DataW.Whole enc Try.prog Try.f4.params.toList Rows.shapesMostSpec.vars false W args.toList ds gs before) (hk : Rows.uptoSmall H (ds ++ gs) = true) :
    Calls Try.prog 4 args W fun e W' => ∃ v, e = .returned v ∧ Rows.shapesMostSpec.post enc Try.prog Try.f4 false true false false W args v W' := by
  have hW' := hW
  obtain ⟨p, q, hA0, hV, rfl, hfz, hnd⟩ := hW
  have hA : DataW.TrodAll enc Try.prog W 0 (fun _ => true) true Try.f4.params.toList args.toList ds p := hA0
  rw [Try.params4] at hA hval
  obtain ⟨v0, vs0, d0, ds0, p0, q0, hargs, rfl, rfl, h0, r0⟩ := trodAll_cons hA
  obtain ⟨v1, vs1, d1, ds1, p1, q1, rfl, rfl, rfl, h1, r1⟩ := trodAll_cons r0
  obtain ⟨rfl, rfl, rfl⟩ := trodAll_nil r1
  obtain rfl : args = #[v0, v1] := by cases args; simp_all
  obtain ⟨rfl, rfl⟩ := trodVars_none hV
  clear hA0
  simp only [List.append_nil] at hW' hk
  have lt0 : ∀ x ∈ p0, x.block < W.heap.size := fun x hx => hW'.lt x (by simp [hx])
  have lt1 : ∀ x ∈ p1, x.block < W.heap.size := fun x hx => hW'.lt x (by simp [hx])
  have hb : Rows.uptoBulk d0 + Rows.uptoBulk d1 ≤ 1048576 := by
    have h := of_decide_eq_true hk
    simp only [List.cons_append, List.nil_append, Rows.uptoBulkAll] at h
    omega
  refine (call (hval 0 3 v0 rfl rfl) h0 (hval 1 22 v1 rfl rfl) h1 hb).mono fun e W' ⟨he, bel⟩ => ?_
  subst he
  exact ⟨_, rfl, _, _, _, [], _, [], hW', (trodAll_cons_mk (shut_bool Try.underlying4 _) trodAll_mk0), (trodAll_cons_mk (Below.trod laidOut (by kernel_rfl) (of_decide_eq_true (by kernel_rfl)) h0 bel lt0) (trodAll_cons_mk (Below.trod laidOut (by kernel_rfl) (of_decide_eq_true (by kernel_rfl)) h1 bel lt1) trodAll_mk0)), rfl, bel.frame _, fun h => by cases h⟩
set_option maxRecDepth 100000 in
theorem lifted (os : Os) (started : os.Started) (H : Type) (enc : TypeId × Value → H) (F : Stop.Interp) :
    ReturnsInHanded {} Try.checked os 4 .any ((Rows.OpenSpec.upto Rows.shapesMostSpec).pre6 enc Try.prog Try.f4 Rows.shapesMostUptoRow.domain false) (((Rows.OpenSpec.upto Rows.shapesMostSpec).at F).post enc Try.prog Try.f4 false true false false) := by
  refine returnsInHanded_of_cond (C := Try.checked) (s := Rows.OpenSpec.upto Rows.shapesMostSpec) (k := Rows.uptoSmall) rfl own started (by kernel_rfl) Try.func4
    (OpenSpec.witness (enc := enc) (C := Try.checked) (s := Rows.OpenSpec.upto Rows.shapesMostSpec) (k := Rows.uptoSmall) rfl false ⟨#[], #[.int .i64 0, .slice none 0 0], []⟩ 8 (by kernel_rfl) (by kernel_rfl) (by kernel_rfl)
      (x := ([.lit (.int .i64 0), .nil], [], [])) (by kernel_rfl) rfl (by kernel_rfl)) ?_
  intro W base args ds gs before hval hW _ hk _
  exact contract H enc W base args ds gs before hval hW hk
set_option maxHeartbeats 0 in
theorem over : Rows.shapesMostUptoRow.holds Try.pinned (Rows.OpenSpec.upto Rows.shapesMostSpec) :=
  OpenClaim.holds_of_cond 4 Try.f4 rfl rfl rfl rfl rfl rfl rfl ⟨rfl, rfl, rfl, rfl, rfl⟩ rfl rfl rfl rfl rfl (by as_aux_lemma => kernel_rfl) Try.func4 (by as_aux_lemma => kernel_rfl)
    (of_decide_eq_true (by as_aux_lemma => kernel_rfl)) (by as_aux_lemma => unfold Func.isWrapper; first | (rw [if_pos (by decide +kernel)]; kernel_rfl) | (rw [if_neg (by decide +kernel)]; exact ⟨rfl, rfl⟩))
    (fun os started H enc _ F => lifted os started H enc F)
theorem proved : Rows.ShapesMostUptoSaid :=
  over
#print axioms proved
end Go.Proofs.Ytchbgececcclgaa.shapesMost
namespace Go.Proofs.Ytchbgececcclgaa
theorem shapesMost_holds : Rows.ShapesMostUptoSaid := shapesMost.proved
end Go.Proofs.Ytchbgececcclgaa
