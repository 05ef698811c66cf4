/- For every number of shapes, every script and every two calls whose data together hold at most 1048576 values and letters, the call of ShapesOnce returns true, and its arguments read as before. -/
import Derived.Test.YtchbgececcclgaaPw
import Derived.Test.YtchbgececcclgaaRows
import Derived.ProofKit
import Derived.OpenShut
import Derived.Carry
import Derived.JoinedCond
namespace Go.Proofs.Ytchbgececcclgaa.shapesOnce
open Go.ChangeShapes Go.WideShapes Go.ChangeAt Go.RowKit Go.Deep Go
set_option linter.unusedSimpArgs false
set_option linter.unusedVariables false
theorem ten_cells {w : World} {b : Nat} {t : TypeId} {x0 x1 x2 x3 x4 x5 x6 x7 x8 x9 : Value} (h : Blk w b t #[x0, x1, x2, x3, x4, x5, x6, x7, x8, x9]) : w.cell? ⟨b, 0, none⟩ = some x0 ∧ w.cell? ⟨b, 1, none⟩ = some x1 ∧ w.cell? ⟨b, 2, none⟩ = some x2 ∧ w.cell? ⟨b, 3, none⟩ = some x3 ∧ w.cell? ⟨b, 4, none⟩ = some x4 ∧ w.cell? ⟨b, 5, none⟩ = some x5 ∧ w.cell? ⟨b, 6, none⟩ = some x6 ∧ w.cell? ⟨b, 7, none⟩ = some x7 ∧ w.cell? ⟨b, 8, none⟩ = some x8 ∧ w.cell? ⟨b, 9, none⟩ = some x9 :=
  ⟨h.cell 0, h.cell 1, h.cell 2, h.cell 3, h.cell 4, h.cell 5, h.cell 6, h.cell 7, h.cell 8, h.cell 9⟩
theorem run_takeL {M : Int} {L : List Sh} {Os : List Opp} {k : Nat} {o : Opp} (h : Os[k]? = some o) : runP M L (Os.take (k + 1)) = (stepP M (runP M L (Os.take k)) o).1 := by
  rw [List.take_add_one, h, runP_append]
  rfl
set_option maxRecDepth 100000 in
set_option maxHeartbeats 16000000 in
theorem walkP (w : World) (most : Int) (hm : 0 ≤ most) (A : Option Addr) (n c : Nat) (Os : List Opp) (a b' : Opp) (ha : a.Ok) (hb : b'.Ok) (hr : Reads w w.heap.size 5 A n (Os.flatMap opv)) (hO : ∀ o ∈ Os, o.Ok) (hn : n ≤ 174763) :
    Calls Try.prog 3 #[.int .i64 most, .slice A n c, .agg #[.int .i64 a.kind, .int .i64 a.shape, .int .i64 a.flags, .int .u64 a.proto, .string a.key, .int .i64 b'.kind, .int .i64 b'.shape, .int .i64 b'.flags, .int .u64 b'.proto, .string b'.key]] w fun e w' => e = .returned (.bool true) ∧ Below w.heap.size w w' := by
  have hl := reads_len opv_len (by decide) hr
  have W1 := below_alloc (o := .cells #[.int .i64 a.kind, .int .i64 a.shape, .int .i64 a.flags, .int .u64 a.proto, .string a.key, .int .i64 b'.kind, .int .i64 b'.shape, .int .i64 b'.flags, .int .u64 b'.proto, .string b'.key] 26) (Below.refl w.heap.size w)
  have b5 := Blk.new w 26 #[.int .i64 a.kind, .int .i64 a.shape, .int .i64 a.flags, .int .u64 a.proto, .string a.key, .int .i64 b'.kind, .int .i64 b'.shape, .int .i64 b'.flags, .int .u64 b'.proto, .string b'.key]
  have hr := (hr.below W1).more W1.size
  have hbl0 := b5.lt
  have AL := Lib.hid alive_calls
  have HR := Lib.hid hr
  have HL := Lib.hid hl
  have HO := Lib.hid hO
  have Ha := Lib.hid ha
  have Hb := Lib.hid hb
  have HM0 := Lib.hid hm
  have hM : (0 : Int) ≤ most := by omega
  clear hl hO ha hb hm hr
  go_enter Try.func3, Try.ntmps3
  go_wp2_with fail
  generalize w.alloc (.cells #[.int .i64 a.kind, .int .i64 a.shape, .int .i64 a.flags, .int .u64 a.proto, .string a.key, .int .i64 b'.kind, .int .i64 b'.shape, .int .i64 b'.flags, .int .u64 b'.proto, .string b'.key] 26) = W at *
  have NC := Lib.hid (show Calls Try.prog 7 #[.int .i64 most] W (fun e w' => ∃ g, e = .returned (.pointer (some ⟨g, 0, none⟩)) ∧ TreeIs w' W.heap.size g most [] ∧ Below W.heap.size W w') from by
    have := new_calls W most
    have hm := HM0.out
    rw [Int.max_eq_left hm] at this; exact this)
  have HW1 := Lib.hid W1
  have HB5 := Lib.hid b5
  have hm := HM0.out
  clear W1 b5 hbl0 HM0
  go_wp2_with (first | (go_at_call 7; (with_reducible refine NC.out.mono ?_); rintro e w1 ⟨g, rfl, ht1, hb1⟩; have ht1 := Lib.hid ht1; have hb1 := Lib.hid hb1) |
    (go_at_call 8; (with_reducible refine (AL.out _).mono ?_); rintro e w2 ⟨rfl, hb2⟩; have hb2 := Lib.hid hb2))
  have S0 := Sta.first (Below.refl W.heap.size W) ht1.out hb1.out hb2.out
  generalize w2.heap.size = z at S0 ⊢
  have S0 := Lib.hid S0
  clear NC AL ht1 hb1 hb2
  go_loopg [31] n (fun fu ix wr => ∃ k : Nat, ix = .int .i64 k ∧ k + fu = n ∧ Sta W wr W.heap.size g z most (runP most [] (Os.take k)))
  case atStart => exact ⟨0, rfl, by omega, by simpa [runP] using S0.out⟩
  case round =>
    obtain ⟨k, rfl, hf, hS⟩ := hrel
    have HS := Lib.hid hS
    have HF := Lib.hid hf
    by_cases hk : k < n
    · obtain ⟨o, ho⟩ : ∃ o, Os[k]? = some o := ⟨_, List.getElem?_eq_getElem (by have := HL.out; omega)⟩
      have hfar := far_take (M := most) HO.out k (by have := HL.out; omega) (by omega)
      have hok := HO.out o (List.mem_of_getElem? ho)
      have hfar2 := (hfar.step hok (by omega)).1
      rw [← run_take ho] at hfar2
      have hsm := far_small hfar (by omega)
      have hsm2 := far_small hfar2 (by omega)
      clear hfar hfar2
      have hrt : runP most [] (Os.take (k + 1)) = (stepP most (runP most [] (Os.take k)) o).1 := run_takeL ho
      obtain ⟨b, off, rfl, hbl, hc⟩ := reads_get opv_len (by decide) (HR.out.below hS.bel) ho
      have c0 : wr.cell? ⟨b, off + k * 5, none⟩ = some (.int .i64 o.kind) := hc 0 _ rfl
      have c1 : wr.cell? ⟨b, off + k * 5 + 1, none⟩ = some (.int .i64 o.shape) := hc 1 _ rfl
      have c2 : wr.cell? ⟨b, off + k * 5 + 2, none⟩ = some (.int .i64 o.flags) := hc 2 _ rfl
      have c3 : wr.cell? ⟨b, off + k * 5 + 3, none⟩ = some (.int .u64 o.proto) := hc 3 _ rfl
      have c4 : wr.cell? ⟨b, off + k * 5 + 4, none⟩ = some (.string o.key) := hc 4 _ rfl
      obtain ⟨A0, n0, c0', hbz, hrt0⟩ := hS.ref
      have hal : Below wr.heap.size wr (wr.alloc (.cells #[.int .i64 o.kind, .int .i64 o.shape, .int .i64 o.flags, .int .u64 o.proto, .string o.key] 25)) := (Below.refl _ _).alloc (Nat.le_refl _) _
      have SC := Lib.hid (show Calls Try.prog 9 #[.pointer (some ⟨g, 0, none⟩), .agg #[.int .i64 most, .slice A0 n0 c0'], .agg #[.int .i64 o.kind, .int .i64 o.shape, .int .i64 o.flags, .int .u64 o.proto, .string o.key]] (wr.alloc (.cells #[.int .i64 o.kind, .int .i64 o.shape, .int .i64 o.flags, .int .u64 o.proto, .string o.key] 25)) (StepGives (wr.alloc (.cells #[.int .i64 o.kind, .int .i64 o.shape, .int .i64 o.flags, .int .u64 o.proto, .string o.key] 25)) W.heap.size g most (runP most [] (Os.take (k + 1)))) from hrt ▸ step_calls _ W.heap.size g most A0 n0 c0' _ (hS.tree.below hal) (hrt0.keep (Kept.below hal hS.tree.base)) hS.wf o hok hsm (by rw [← hrt]; omega))
      obtain ⟨y0, y1, y2, y3⟩ := (hbz.alloc (.cells #[.int .i64 o.kind, .int .i64 o.shape, .int .i64 o.flags, .int .u64 o.proto, .string o.key] 25)).two
      have HBZ := Lib.hid hbz
      have HNx := Lib.hid (fun (w' : World) (A' : Option Addr) (n' c' : Nat) (ht : TreeIs w' W.heap.size g most (runP most [] (Os.take (k + 1)))) (hr : RTree W.heap.size w' A' n' (runP most [] (Os.take (k + 1)))) (hk : Kept W.heap.size (wr.alloc (.cells #[.int .i64 o.kind, .int .i64 o.shape, .int .i64 o.flags, .int .u64 o.proto, .string o.key] 25)) w') => show Sta W ((w'.setCell ⟨z, 0, none⟩ (.int .i64 most)).setCell ⟨z, 1, none⟩ (.slice A' n' c')) W.heap.size g z most (runP most [] (Os.take (k + 1))) from by
        rw [hrt] at ht hr ⊢; exact HS.out.next hok ht hr hk)
      have hk' : (k : Int) < (n : Int) := by omega
      obtain ⟨f', hf'⟩ : ∃ f', gk = f' + 1 := ⟨gk - 1, by omega⟩
      have HF' := Lib.hid hf'
      clear hf hf' hS ho hok hsm hsm2 hrt hbl hc hal hbz hrt0
      go_wp2_with (first | (go_at_call 9; (with_reducible refine SC.out.mono ?_); rintro e w4 ⟨A4, n4, c4', rfl, ht4, hr4, hk4⟩; obtain ⟨y0, y1, y2, y3⟩ := (hk4.blk (HBZ.out.alloc _) (by decide) (by decide)).two; have ht4 := Lib.hid ht4; have hr4 := Lib.hid hr4; have hk4 := Lib.hid hk4))
      go_roundg f'
      case measure => have := HF'.out; omega
      case rel => exact ⟨k + 1, by simp, by have := HF'.out; have := HF.out; omega, HNx.out _ A4 n4 c4' ht4.out hr4.out hk4.out⟩
    · have hk' : ¬ (k : Int) < (n : Int) := by omega
      obtain rfl : k = n := by omega
      obtain ⟨L, hLdef⟩ : ∃ L, runP most [] (Os.take k) = L := ⟨_, rfl⟩
      have hfar := far_take (M := most) HO.out k (by have := HL.out; omega) (by omega)
      rw [hLdef] at hS hfar
      have hsm := far_small hfar (by omega)
      have hg1 := addP_grown most hS.wf (n := a.shape) Ha.out.key Ha.out.flags
      have hg1m := hg1.many
      have hag := addP_again most L a.shape a.key a.flags
      have hon := @once_law most L a.shape a.key b'.key a.flags b'.flags
      have A1 := Lib.hid (add_calls wr W.heap.size g most L hS.tree hS.wf a.shape a.key a.flags Ha.out.key Ha.out.flags (by omega))
      have A2 := Lib.hid (fun w' (h : TreeIs w' W.heap.size g most (addP most L a.shape a.key a.flags).1) => hag ▸ add_calls w' W.heap.size g most _ h hg1.wf a.shape a.key a.flags Ha.out.key Ha.out.flags (by omega))
      have A3 := Lib.hid (fun w' (h : TreeIs w' W.heap.size g most (addP most L a.shape a.key a.flags).1) => add_calls w' W.heap.size g most _ h hg1.wf a.shape b'.key b'.flags Hb.out.key Hb.out.flags (by omega))
      have HB5r := Lib.hid (HB5.out.below hS.bel HB5.out.lt)
      have C5 := Lib.hid (fun (w' : World) (b : Below W.heap.size wr w') => ten_cells ((HB5.out.below (hS.bel.trans b) HB5.out.lt)))
      generalize addP most (addP most L a.shape a.key a.flags).1 a.shape b'.key b'.flags = r3 at *
      generalize addP most L a.shape a.key a.flags = r1 at *
      obtain ⟨t0, t1, t2, t3, t4, t5, t6, t7, t8, t9⟩ := C5.out _ (Below.refl _ _)
      obtain ⟨L1, bb, one⟩ := r1
      obtain ⟨L3, d, three⟩ := r3
      simp only at *
      have hks := str_eq a.key b'.key
      have HON := Lib.hid hon
      clear hf hS hk hLdef hfar hsm hg1 hg1m hag hon S0 Ha Hb
      have key : ∀ (x : Bool), (x = decide (a.key = b'.key)) → ∀ y : Bool, y = (a.flags == b'.flags) → ∀ q : Bool, q = (bb == d) → (one = true → three = true → q = (x && y)) := by
        intro x hx y hy q hq h1 h2
        have := HON.out h1 h2
        rw [hx, hy, hq, Bool.eq_iff_iff]
        simp only [beq_iff_eq, Bool.and_eq_true, decide_eq_true_eq]
        exact this
      have KEY := Lib.hid key
      clear key HON
      have fin : (one = true ∧ three = true) ∨ (one = false ∨ (one = true ∧ three = false)) := by cases one <;> cases three <;> simp
      rcases fin with ⟨rfl, rfl⟩ | rfl | ⟨rfl, rfl⟩
      · cases hx : decide (a.key = b'.key) <;> cases hy : (a.flags == b'.flags) <;> cases hq : (bb == d)
        all_goals first
          | exact absurd (KEY.out _ hx.symm _ hy.symm _ hq.symm rfl rfl) (by decide)
          | (rw [hx] at hks
             clear hx KEY
             go_wp2_with (first | (go_at_call 10; (with_reducible refine A1.out.mono ?_); rintro e w5 ⟨rfl, ht5, k5⟩; clear t0 t1 t2 t3 t4 t5 t6 t7 t8 t9; obtain ⟨t0, t1, t2, t3, t4, t5, t6, t7, t8, t9⟩ := C5.out _ k5.bel; have ht5 := Lib.hid ht5; have k5 := Lib.hid k5) |
               (go_at_call 10; (with_reducible refine (A2.out _ ht5.out).mono ?_); rintro e w6 ⟨rfl, ht6, k6⟩; clear t0 t1 t2 t3 t4 t5 t6 t7 t8 t9; obtain ⟨t0, t1, t2, t3, t4, t5, t6, t7, t8, t9⟩ := C5.out _ (k5.out.bel.trans k6.bel); have ht6 := Lib.hid ht6; have k6 := Lib.hid k6) |
               (go_at_call 10; (with_reducible refine (A3.out _ ht6.out).mono ?_); rintro e w7 ⟨rfl, ht7, k7⟩; clear t0 t1 t2 t3 t4 t5 t6 t7 t8 t9; obtain ⟨t0, t1, t2, t3, t4, t5, t6, t7, t8, t9⟩ := C5.out _ (k5.out.bel.trans (k6.out.bel.trans k7.bel)); have k7 := Lib.hid k7))
             go_ret
             exact ⟨rfl, HW1.out.trans ((HS.out.bel.trans (k5.out.bel.trans (k6.out.bel.trans k7.out.bel))).mono HW1.out.size)⟩)
      · cases hx : decide (a.key = b'.key)
        all_goals
            (rw [hx] at hks
             clear hx KEY
             go_wp2_with (first | (go_at_call 10; (with_reducible refine A1.out.mono ?_); rintro e w5 ⟨rfl, ht5, k5⟩; clear t0 t1 t2 t3 t4 t5 t6 t7 t8 t9; obtain ⟨t0, t1, t2, t3, t4, t5, t6, t7, t8, t9⟩ := C5.out _ k5.bel; have ht5 := Lib.hid ht5; have k5 := Lib.hid k5) |
               (go_at_call 10; (with_reducible refine (A2.out _ ht5.out).mono ?_); rintro e w6 ⟨rfl, ht6, k6⟩; clear t0 t1 t2 t3 t4 t5 t6 t7 t8 t9; obtain ⟨t0, t1, t2, t3, t4, t5, t6, t7, t8, t9⟩ := C5.out _ (k5.out.bel.trans k6.bel); have ht6 := Lib.hid ht6; have k6 := Lib.hid k6) |
               (go_at_call 10; (with_reducible refine (A3.out _ ht6.out).mono ?_); rintro e w7 ⟨rfl, ht7, k7⟩; clear t0 t1 t2 t3 t4 t5 t6 t7 t8 t9; obtain ⟨t0, t1, t2, t3, t4, t5, t6, t7, t8, t9⟩ := C5.out _ (k5.out.bel.trans (k6.out.bel.trans k7.bel)); have k7 := Lib.hid k7))
             go_ret
             exact ⟨rfl, HW1.out.trans ((HS.out.bel.trans (k5.out.bel.trans (k6.out.bel.trans k7.out.bel))).mono HW1.out.size)⟩)
      · cases hx : decide (a.key = b'.key)
        all_goals
            (rw [hx] at hks
             clear hx KEY
             go_wp2_with (first | (go_at_call 10; (with_reducible refine A1.out.mono ?_); rintro e w5 ⟨rfl, ht5, k5⟩; clear t0 t1 t2 t3 t4 t5 t6 t7 t8 t9; obtain ⟨t0, t1, t2, t3, t4, t5, t6, t7, t8, t9⟩ := C5.out _ k5.bel; have ht5 := Lib.hid ht5; have k5 := Lib.hid k5) |
               (go_at_call 10; (with_reducible refine (A2.out _ ht5.out).mono ?_); rintro e w6 ⟨rfl, ht6, k6⟩; clear t0 t1 t2 t3 t4 t5 t6 t7 t8 t9; obtain ⟨t0, t1, t2, t3, t4, t5, t6, t7, t8, t9⟩ := C5.out _ (k5.out.bel.trans k6.bel); have ht6 := Lib.hid ht6; have k6 := Lib.hid k6) |
               (go_at_call 10; (with_reducible refine (A3.out _ ht6.out).mono ?_); rintro e w7 ⟨rfl, ht7, k7⟩; clear t0 t1 t2 t3 t4 t5 t6 t7 t8 t9; obtain ⟨t0, t1, t2, t3, t4, t5, t6, t7, t8, t9⟩ := C5.out _ (k5.out.bel.trans (k6.out.bel.trans k7.bel)); have k7 := Lib.hid k7))
             go_ret
             exact ⟨rfl, HW1.out.trans ((HS.out.bel.trans (k5.out.bel.trans (k6.out.bel.trans k7.out.bel))).mono HW1.out.size)⟩)
set_option maxRecDepth 100000 in
set_option maxHeartbeats 16000000 in
theorem walkN (w : World) (most : Int) (hm : ¬ 0 ≤ most) (A : Option Addr) (n c : Nat) (Os : List Opp) (a b' : Opp) (ha : a.Ok) (hb : b'.Ok) (hr : Reads w w.heap.size 5 A n (Os.flatMap opv)) (hO : ∀ o ∈ Os, o.Ok) (hn : n ≤ 174763) :
    Calls Try.prog 3 #[.int .i64 most, .slice A n c, .agg #[.int .i64 a.kind, .int .i64 a.shape, .int .i64 a.flags, .int .u64 a.proto, .string a.key, .int .i64 b'.kind, .int .i64 b'.shape, .int .i64 b'.flags, .int .u64 b'.proto, .string b'.key]] w fun e w' => e = .returned (.bool true) ∧ Below w.heap.size w w' := by
  have hl := reads_len opv_len (by decide) hr
  have W1 := below_alloc (o := .cells #[.int .i64 a.kind, .int .i64 a.shape, .int .i64 a.flags, .int .u64 a.proto, .string a.key, .int .i64 b'.kind, .int .i64 b'.shape, .int .i64 b'.flags, .int .u64 b'.proto, .string b'.key] 26) (Below.refl w.heap.size w)
  have b5 := Blk.new w 26 #[.int .i64 a.kind, .int .i64 a.shape, .int .i64 a.flags, .int .u64 a.proto, .string a.key, .int .i64 b'.kind, .int .i64 b'.shape, .int .i64 b'.flags, .int .u64 b'.proto, .string b'.key]
  have hr := (hr.below W1).more W1.size
  have hbl0 := b5.lt
  have AL := Lib.hid alive_calls
  have HR := Lib.hid hr
  have HL := Lib.hid hl
  have HO := Lib.hid hO
  have Ha := Lib.hid ha
  have Hb := Lib.hid hb
  have HM0 := Lib.hid hm
  have hM : (0 : Int) ≤ 0 := by omega
  clear hl hO ha hb hm hr
  go_enter Try.func3, Try.ntmps3
  go_wp2_with fail
  generalize w.alloc (.cells #[.int .i64 a.kind, .int .i64 a.shape, .int .i64 a.flags, .int .u64 a.proto, .string a.key, .int .i64 b'.kind, .int .i64 b'.shape, .int .i64 b'.flags, .int .u64 b'.proto, .string b'.key] 26) = W at *
  have NC := Lib.hid (show Calls Try.prog 7 #[.int .i64 most] W (fun e w' => ∃ g, e = .returned (.pointer (some ⟨g, 0, none⟩)) ∧ TreeIs w' W.heap.size g 0 [] ∧ Below W.heap.size W w') from by
    have := new_calls W most
    have hm := HM0.out
    rw [Int.max_eq_right (by omega)] at this; exact this)
  have HW1 := Lib.hid W1
  have HB5 := Lib.hid b5
  have hm := HM0.out
  clear W1 b5 hbl0 HM0
  go_wp2_with (first | (go_at_call 7; (with_reducible refine NC.out.mono ?_); rintro e w1 ⟨g, rfl, ht1, hb1⟩; have ht1 := Lib.hid ht1; have hb1 := Lib.hid hb1) |
    (go_at_call 8; (with_reducible refine (AL.out _).mono ?_); rintro e w2 ⟨rfl, hb2⟩; have hb2 := Lib.hid hb2))
  have S0 := Sta.first (Below.refl W.heap.size W) ht1.out hb1.out hb2.out
  generalize w2.heap.size = z at S0 ⊢
  have S0 := Lib.hid S0
  clear NC AL ht1 hb1 hb2
  go_loopg [31] n (fun fu ix wr => ∃ k : Nat, ix = .int .i64 k ∧ k + fu = n ∧ Sta W wr W.heap.size g z 0 (runP 0 [] (Os.take k)))
  case atStart => exact ⟨0, rfl, by omega, by simpa [runP] using S0.out⟩
  case round =>
    obtain ⟨k, rfl, hf, hS⟩ := hrel
    have HS := Lib.hid hS
    have HF := Lib.hid hf
    by_cases hk : k < n
    · obtain ⟨o, ho⟩ : ∃ o, Os[k]? = some o := ⟨_, List.getElem?_eq_getElem (by have := HL.out; omega)⟩
      have hfar := far_take (M := 0) HO.out k (by have := HL.out; omega) (by omega)
      have hok := HO.out o (List.mem_of_getElem? ho)
      have hfar2 := (hfar.step hok (by omega)).1
      rw [← run_take ho] at hfar2
      have hsm := far_small hfar (by omega)
      have hsm2 := far_small hfar2 (by omega)
      clear hfar hfar2
      have hrt : runP 0 [] (Os.take (k + 1)) = (stepP 0 (runP 0 [] (Os.take k)) o).1 := run_takeL ho
      obtain ⟨b, off, rfl, hbl, hc⟩ := reads_get opv_len (by decide) (HR.out.below hS.bel) ho
      have c0 : wr.cell? ⟨b, off + k * 5, none⟩ = some (.int .i64 o.kind) := hc 0 _ rfl
      have c1 : wr.cell? ⟨b, off + k * 5 + 1, none⟩ = some (.int .i64 o.shape) := hc 1 _ rfl
      have c2 : wr.cell? ⟨b, off + k * 5 + 2, none⟩ = some (.int .i64 o.flags) := hc 2 _ rfl
      have c3 : wr.cell? ⟨b, off + k * 5 + 3, none⟩ = some (.int .u64 o.proto) := hc 3 _ rfl
      have c4 : wr.cell? ⟨b, off + k * 5 + 4, none⟩ = some (.string o.key) := hc 4 _ rfl
      obtain ⟨A0, n0, c0', hbz, hrt0⟩ := hS.ref
      have hal : Below wr.heap.size wr (wr.alloc (.cells #[.int .i64 o.kind, .int .i64 o.shape, .int .i64 o.flags, .int .u64 o.proto, .string o.key] 25)) := (Below.refl _ _).alloc (Nat.le_refl _) _
      have SC := Lib.hid (show Calls Try.prog 9 #[.pointer (some ⟨g, 0, none⟩), .agg #[.int .i64 0, .slice A0 n0 c0'], .agg #[.int .i64 o.kind, .int .i64 o.shape, .int .i64 o.flags, .int .u64 o.proto, .string o.key]] (wr.alloc (.cells #[.int .i64 o.kind, .int .i64 o.shape, .int .i64 o.flags, .int .u64 o.proto, .string o.key] 25)) (StepGives (wr.alloc (.cells #[.int .i64 o.kind, .int .i64 o.shape, .int .i64 o.flags, .int .u64 o.proto, .string o.key] 25)) W.heap.size g 0 (runP 0 [] (Os.take (k + 1)))) from hrt ▸ step_calls _ W.heap.size g 0 A0 n0 c0' _ (hS.tree.below hal) (hrt0.keep (Kept.below hal hS.tree.base)) hS.wf o hok hsm (by rw [← hrt]; omega))
      obtain ⟨y0, y1, y2, y3⟩ := (hbz.alloc (.cells #[.int .i64 o.kind, .int .i64 o.shape, .int .i64 o.flags, .int .u64 o.proto, .string o.key] 25)).two
      have HBZ := Lib.hid hbz
      have HNx := Lib.hid (fun (w' : World) (A' : Option Addr) (n' c' : Nat) (ht : TreeIs w' W.heap.size g 0 (runP 0 [] (Os.take (k + 1)))) (hr : RTree W.heap.size w' A' n' (runP 0 [] (Os.take (k + 1)))) (hk : Kept W.heap.size (wr.alloc (.cells #[.int .i64 o.kind, .int .i64 o.shape, .int .i64 o.flags, .int .u64 o.proto, .string o.key] 25)) w') => show Sta W ((w'.setCell ⟨z, 0, none⟩ (.int .i64 0)).setCell ⟨z, 1, none⟩ (.slice A' n' c')) W.heap.size g z 0 (runP 0 [] (Os.take (k + 1))) from by
        rw [hrt] at ht hr ⊢; exact HS.out.next hok ht hr hk)
      have hk' : (k : Int) < (n : Int) := by omega
      obtain ⟨f', hf'⟩ : ∃ f', gk = f' + 1 := ⟨gk - 1, by omega⟩
      have HF' := Lib.hid hf'
      clear hf hf' hS ho hok hsm hsm2 hrt hbl hc hal hbz hrt0
      go_wp2_with (first | (go_at_call 9; (with_reducible refine SC.out.mono ?_); rintro e w4 ⟨A4, n4, c4', rfl, ht4, hr4, hk4⟩; obtain ⟨y0, y1, y2, y3⟩ := (hk4.blk (HBZ.out.alloc _) (by decide) (by decide)).two; have ht4 := Lib.hid ht4; have hr4 := Lib.hid hr4; have hk4 := Lib.hid hk4))
      go_roundg f'
      case measure => have := HF'.out; omega
      case rel => exact ⟨k + 1, by simp, by have := HF'.out; have := HF.out; omega, HNx.out _ A4 n4 c4' ht4.out hr4.out hk4.out⟩
    · have hk' : ¬ (k : Int) < (n : Int) := by omega
      obtain rfl : k = n := by omega
      obtain ⟨L, hLdef⟩ : ∃ L, runP 0 [] (Os.take k) = L := ⟨_, rfl⟩
      have hfar := far_take (M := 0) HO.out k (by have := HL.out; omega) (by omega)
      rw [hLdef] at hS hfar
      have hsm := far_small hfar (by omega)
      have hg1 := addP_grown 0 hS.wf (n := a.shape) Ha.out.key Ha.out.flags
      have hg1m := hg1.many
      have hag := addP_again 0 L a.shape a.key a.flags
      have hon := @once_law 0 L a.shape a.key b'.key a.flags b'.flags
      have A1 := Lib.hid (add_calls wr W.heap.size g 0 L hS.tree hS.wf a.shape a.key a.flags Ha.out.key Ha.out.flags (by omega))
      have A2 := Lib.hid (fun w' (h : TreeIs w' W.heap.size g 0 (addP 0 L a.shape a.key a.flags).1) => hag ▸ add_calls w' W.heap.size g 0 _ h hg1.wf a.shape a.key a.flags Ha.out.key Ha.out.flags (by omega))
      have A3 := Lib.hid (fun w' (h : TreeIs w' W.heap.size g 0 (addP 0 L a.shape a.key a.flags).1) => add_calls w' W.heap.size g 0 _ h hg1.wf a.shape b'.key b'.flags Hb.out.key Hb.out.flags (by omega))
      have HB5r := Lib.hid (HB5.out.below hS.bel HB5.out.lt)
      have C5 := Lib.hid (fun (w' : World) (b : Below W.heap.size wr w') => ten_cells ((HB5.out.below (hS.bel.trans b) HB5.out.lt)))
      generalize addP 0 (addP 0 L a.shape a.key a.flags).1 a.shape b'.key b'.flags = r3 at *
      generalize addP 0 L a.shape a.key a.flags = r1 at *
      obtain ⟨t0, t1, t2, t3, t4, t5, t6, t7, t8, t9⟩ := C5.out _ (Below.refl _ _)
      obtain ⟨L1, bb, one⟩ := r1
      obtain ⟨L3, d, three⟩ := r3
      simp only at *
      have hks := str_eq a.key b'.key
      have HON := Lib.hid hon
      clear hf hS hk hLdef hfar hsm hg1 hg1m hag hon S0 Ha Hb
      have key : ∀ (x : Bool), (x = decide (a.key = b'.key)) → ∀ y : Bool, y = (a.flags == b'.flags) → ∀ q : Bool, q = (bb == d) → (one = true → three = true → q = (x && y)) := by
        intro x hx y hy q hq h1 h2
        have := HON.out h1 h2
        rw [hx, hy, hq, Bool.eq_iff_iff]
        simp only [beq_iff_eq, Bool.and_eq_true, decide_eq_true_eq]
        exact this
      have KEY := Lib.hid key
      clear key HON
      have fin : (one = true ∧ three = true) ∨ (one = false ∨ (one = true ∧ three = false)) := by cases one <;> cases three <;> simp
      rcases fin with ⟨rfl, rfl⟩ | rfl | ⟨rfl, rfl⟩
      · cases hx : decide (a.key = b'.key) <;> cases hy : (a.flags == b'.flags) <;> cases hq : (bb == d)
        all_goals first
          | exact absurd (KEY.out _ hx.symm _ hy.symm _ hq.symm rfl rfl) (by decide)
          | (rw [hx] at hks
             clear hx KEY
             go_wp2_with (first | (go_at_call 10; (with_reducible refine A1.out.mono ?_); rintro e w5 ⟨rfl, ht5, k5⟩; clear t0 t1 t2 t3 t4 t5 t6 t7 t8 t9; obtain ⟨t0, t1, t2, t3, t4, t5, t6, t7, t8, t9⟩ := C5.out _ k5.bel; have ht5 := Lib.hid ht5; have k5 := Lib.hid k5) |
               (go_at_call 10; (with_reducible refine (A2.out _ ht5.out).mono ?_); rintro e w6 ⟨rfl, ht6, k6⟩; clear t0 t1 t2 t3 t4 t5 t6 t7 t8 t9; obtain ⟨t0, t1, t2, t3, t4, t5, t6, t7, t8, t9⟩ := C5.out _ (k5.out.bel.trans k6.bel); have ht6 := Lib.hid ht6; have k6 := Lib.hid k6) |
               (go_at_call 10; (with_reducible refine (A3.out _ ht6.out).mono ?_); rintro e w7 ⟨rfl, ht7, k7⟩; clear t0 t1 t2 t3 t4 t5 t6 t7 t8 t9; obtain ⟨t0, t1, t2, t3, t4, t5, t6, t7, t8, t9⟩ := C5.out _ (k5.out.bel.trans (k6.out.bel.trans k7.bel)); have k7 := Lib.hid k7))
             go_ret
             exact ⟨rfl, HW1.out.trans ((HS.out.bel.trans (k5.out.bel.trans (k6.out.bel.trans k7.out.bel))).mono HW1.out.size)⟩)
      · cases hx : decide (a.key = b'.key)
        all_goals
            (rw [hx] at hks
             clear hx KEY
             go_wp2_with (first | (go_at_call 10; (with_reducible refine A1.out.mono ?_); rintro e w5 ⟨rfl, ht5, k5⟩; clear t0 t1 t2 t3 t4 t5 t6 t7 t8 t9; obtain ⟨t0, t1, t2, t3, t4, t5, t6, t7, t8, t9⟩ := C5.out _ k5.bel; have ht5 := Lib.hid ht5; have k5 := Lib.hid k5) |
               (go_at_call 10; (with_reducible refine (A2.out _ ht5.out).mono ?_); rintro e w6 ⟨rfl, ht6, k6⟩; clear t0 t1 t2 t3 t4 t5 t6 t7 t8 t9; obtain ⟨t0, t1, t2, t3, t4, t5, t6, t7, t8, t9⟩ := C5.out _ (k5.out.bel.trans k6.bel); have ht6 := Lib.hid ht6; have k6 := Lib.hid k6) |
               (go_at_call 10; (with_reducible refine (A3.out _ ht6.out).mono ?_); rintro e w7 ⟨rfl, ht7, k7⟩; clear t0 t1 t2 t3 t4 t5 t6 t7 t8 t9; obtain ⟨t0, t1, t2, t3, t4, t5, t6, t7, t8, t9⟩ := C5.out _ (k5.out.bel.trans (k6.out.bel.trans k7.bel)); have k7 := Lib.hid k7))
             go_ret
             exact ⟨rfl, HW1.out.trans ((HS.out.bel.trans (k5.out.bel.trans (k6.out.bel.trans k7.out.bel))).mono HW1.out.size)⟩)
      · cases hx : decide (a.key = b'.key)
        all_goals
            (rw [hx] at hks
             clear hx KEY
             go_wp2_with (first | (go_at_call 10; (with_reducible refine A1.out.mono ?_); rintro e w5 ⟨rfl, ht5, k5⟩; clear t0 t1 t2 t3 t4 t5 t6 t7 t8 t9; obtain ⟨t0, t1, t2, t3, t4, t5, t6, t7, t8, t9⟩ := C5.out _ k5.bel; have ht5 := Lib.hid ht5; have k5 := Lib.hid k5) |
               (go_at_call 10; (with_reducible refine (A2.out _ ht5.out).mono ?_); rintro e w6 ⟨rfl, ht6, k6⟩; clear t0 t1 t2 t3 t4 t5 t6 t7 t8 t9; obtain ⟨t0, t1, t2, t3, t4, t5, t6, t7, t8, t9⟩ := C5.out _ (k5.out.bel.trans k6.bel); have ht6 := Lib.hid ht6; have k6 := Lib.hid k6) |
               (go_at_call 10; (with_reducible refine (A3.out _ ht6.out).mono ?_); rintro e w7 ⟨rfl, ht7, k7⟩; clear t0 t1 t2 t3 t4 t5 t6 t7 t8 t9; obtain ⟨t0, t1, t2, t3, t4, t5, t6, t7, t8, t9⟩ := C5.out _ (k5.out.bel.trans (k6.out.bel.trans k7.bel)); have k7 := Lib.hid k7))
             go_ret
             exact ⟨rfl, HW1.out.trans ((HS.out.bel.trans (k5.out.bel.trans (k6.out.bel.trans k7.out.bel))).mono HW1.out.size)⟩)
theorem call {H : Type} {enc : TypeId × Value → H} {W : World} {base : Nat} {v0 : Value} {d0 : DataW H} {p0 : List MemPlace} {v1 : Value} {d1 : DataW H} {p1 : List MemPlace} {v2 : Value} {d2 : DataW H} {p2 : List MemPlace}
    (o0 : Value.okWide Try.prog W .any base 3 v0) (h0 : DataW.Trod enc Try.prog W 0 (fun _ => true) true 3 v0 d0 p0) (o1 : Value.okWide Try.prog W .any base 22 v1) (h1 : DataW.Trod enc Try.prog W 0 (fun _ => true) true 22 v1 d1 p1) (o2 : Value.okWide Try.prog W .any base 26 v2) (h2 : DataW.Trod enc Try.prog W 0 (fun _ => true) true 26 v2 d2 p2) (hb : Rows.uptoBulk d0 + Rows.uptoBulk d1 + Rows.uptoBulk d2 ≤ 1048576) :
    Calls Try.prog 3 #[v0, v1, v2] W fun e w' => e = .returned (.bool true) ∧ Below W.heap.size W w' := by
  obtain ⟨m, rfl⟩ := okWide_int Try.underlying3 o0
  obtain ⟨fuel, hf⟩ := h1
  have hv : v1.cells.toList = [v1] := by
    obtain ⟨a, l, c, rfl⟩ := okWide_slice Try.underlying22 o1
    rfl
  rw [hv] at hf
  obtain ⟨A, n, c, Os, rfl, hr, hO, hbk, _⟩ := open_ops hf
  have hn : n ≤ 174763 := by
    have : n * 6 ≤ Rows.uptoBulk d1 := hbk
    omega
  obtain ⟨a, b, ha, hb2, rfl⟩ := open_two o2 h2
  by_cases hm : 0 ≤ m
  · exact walkP W m hm A n c Os a b ha hb2 hr hO hn
  · exact walkN W m hm A n c Os a b ha hb2 hr hO hn
theorem own : ownKnob Try.prog.godebug = none := by kernel_rfl
theorem laidOut : laidOutB Try.prog = true := by kernel_rfl
set_option maxHeartbeats 0 in
/-- what the walk gives. -/
theorem contract (H : Type) (enc : TypeId × Value → H) (W : World) (base : Nat) (args : Array Value) (ds gs : List (DataW H)) (before : List MemPlace)
    (hval : ∀ (j : Nat) t v, Try.f3.params[j]? = some t → args[j]? = some v → Value.okWide Try.prog W .any base t v)
    (hW : DataW.Whole enc Try.prog Try.f3.params.toList Rows.shapesOnceSpec.vars false W args.toList ds gs before) (hk : Rows.uptoSmall H (ds ++ gs) = true) :
    Calls Try.prog 3 args W fun e W' => ∃ v, e = .returned v ∧ Rows.shapesOnceSpec.post enc Try.prog Try.f3 false true false false W args v W' := by
  have hW' := hW
  obtain ⟨p, q, hA0, hV, rfl, hfz, hnd⟩ := hW
  have hA : DataW.TrodAll enc Try.prog W 0 (fun _ => true) true Try.f3.params.toList args.toList ds p := hA0
  rw [Try.params3] at hA hval
  obtain ⟨v0, vs0, d0, ds0, p0, q0, hargs, rfl, rfl, h0, r0⟩ := trodAll_cons hA
  obtain ⟨v1, vs1, d1, ds1, p1, q1, rfl, rfl, rfl, h1, r1⟩ := trodAll_cons r0
  obtain ⟨v2, vs2, d2, ds2, p2, q2, rfl, rfl, rfl, h2, r2⟩ := trodAll_cons r1
  obtain ⟨rfl, rfl, rfl⟩ := trodAll_nil r2
  obtain rfl : args = #[v0, v1, v2] := by cases args; simp_all
  obtain ⟨rfl, rfl⟩ := trodVars_none hV
  clear hA0
  simp only [List.append_nil] at hW' hk
  have lt0 : ∀ x ∈ p0, x.block < W.heap.size := fun x hx => hW'.lt x (by simp [hx])
  have lt1 : ∀ x ∈ p1, x.block < W.heap.size := fun x hx => hW'.lt x (by simp [hx])
  have lt2 : ∀ x ∈ p2, x.block < W.heap.size := fun x hx => hW'.lt x (by simp [hx])
  have hb : Rows.uptoBulk d0 + Rows.uptoBulk d1 + Rows.uptoBulk d2 ≤ 1048576 := by
    have h := of_decide_eq_true hk
    simp only [List.cons_append, List.nil_append, Rows.uptoBulkAll] at h
    omega
  refine (call (hval 0 3 v0 rfl rfl) h0 (hval 1 22 v1 rfl rfl) h1 (hval 2 26 v2 rfl rfl) h2 hb).mono fun e W' ⟨he, bel⟩ => ?_
  subst he
  exact ⟨_, rfl, _, _, _, [], _, [], hW', (trodAll_cons_mk (shut_bool Try.underlying4 _) trodAll_mk0), (trodAll_cons_mk (Below.trod laidOut (by kernel_rfl) (of_decide_eq_true (by kernel_rfl)) h0 bel lt0) (trodAll_cons_mk (Below.trod laidOut (by kernel_rfl) (of_decide_eq_true (by kernel_rfl)) h1 bel lt1) (trodAll_cons_mk (Below.trod laidOut (by kernel_rfl) (of_decide_eq_true (by kernel_rfl)) h2 bel lt2) trodAll_mk0))), rfl, bel.frame _, fun h => by cases h⟩
set_option maxRecDepth 100000 in
theorem lifted (os : Os) (started : os.Started) (H : Type) (enc : TypeId × Value → H) (F : Stop.Interp) :
    ReturnsInHanded {} Try.checked os 3 .any ((Rows.OpenSpec.upto Rows.shapesOnceSpec).pre6 enc Try.prog Try.f3 Rows.shapesOnceUptoRow.domain false) (((Rows.OpenSpec.upto Rows.shapesOnceSpec).at F).post enc Try.prog Try.f3 false true false false) := by
  refine returnsInHanded_of_cond (C := Try.checked) (s := Rows.OpenSpec.upto Rows.shapesOnceSpec) (k := Rows.uptoSmall) rfl own started (by kernel_rfl) Try.func3
    (OpenSpec.witness (enc := enc) (C := Try.checked) (s := Rows.OpenSpec.upto Rows.shapesOnceSpec) (k := Rows.uptoSmall) rfl false ⟨#[], #[.int .i64 0, .slice none 0 0, .agg #[.int .i64 0, .int .i64 0, .int .i64 0, .int .u64 0, .string ⟨#[]⟩, .int .i64 0, .int .i64 0, .int .i64 0, .int .u64 0, .string ⟨#[]⟩]], []⟩ 8 (by kernel_rfl) (by kernel_rfl) (by kernel_rfl)
      (x := ([.lit (.int .i64 0), .nil, .agg [.agg [.lit (.int .i64 0), .lit (.int .i64 0), .lit (.int .i64 0), .lit (.int .u64 0), .lit (.string [])], .agg [.lit (.int .i64 0), .lit (.int .i64 0), .lit (.int .i64 0), .lit (.int .u64 0), .lit (.string [])]]], [], [])) (by kernel_rfl) rfl (by kernel_rfl)) ?_
  intro W base args ds gs before hval hW _ hk _
  exact contract H enc W base args ds gs before hval hW hk
set_option maxHeartbeats 0 in
theorem over : Rows.shapesOnceUptoRow.holds Try.pinned (Rows.OpenSpec.upto Rows.shapesOnceSpec) :=
  OpenClaim.holds_of_cond 3 Try.f3 rfl rfl rfl rfl rfl rfl rfl ⟨rfl, rfl, rfl, rfl, rfl⟩ rfl rfl rfl rfl rfl (by as_aux_lemma => kernel_rfl) Try.func3 (by as_aux_lemma => kernel_rfl)
    (of_decide_eq_true (by as_aux_lemma => kernel_rfl)) (by as_aux_lemma => unfold Func.isWrapper; first | (rw [if_pos (by decide +kernel)]; kernel_rfl) | (rw [if_neg (by decide +kernel)]; exact ⟨rfl, rfl⟩))
    (fun os started H enc _ F => lifted os started H enc F)
theorem proved : Rows.ShapesOnceUptoSaid :=
  over
#print axioms proved
end Go.Proofs.Ytchbgececcclgaa.shapesOnce
namespace Go.Proofs.Ytchbgececcclgaa
theorem shapesOnce_holds : Rows.ShapesOnceUptoSaid := shapesOnce.proved
end Go.Proofs.Ytchbgececcclgaa
