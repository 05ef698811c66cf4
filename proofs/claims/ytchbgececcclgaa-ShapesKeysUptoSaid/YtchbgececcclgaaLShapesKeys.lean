/- For every number of shapes, every script and every text whose data together hold at most 1048576 values and letters, the call of ShapesKeys returns true, and its arguments read as before. -/
import Derived.Test.YtchbgececcclgaaPw
import Derived.Test.YtchbgececcclgaaRows
import Derived.ProofKit
import Derived.OpenShut
import Derived.Carry
import Derived.JoinedCond
namespace Go.Proofs.Ytchbgececcclgaa.shapesKeys
open Go.ChangeShapes Go.WideShapes Go.ChangeAt Go.RowKit Go.Deep Go
set_option linter.unusedSimpArgs false
set_option linter.unusedVariables false
theorem keysP_some {L : List Sh} {i : Nat} {x : Sh} (hx : L[i]? = some x) : keysP L (i : Int) = x.l := by unfold keysP; rw [getI_nat hx]
theorem run_takeL {M : Int} {L : List Sh} {Os : List Opp} {k : Nat} {o : Opp} (h : Os[k]? = some o) : runP M L (Os.take (k + 1)) = (stepP M (runP M L (Os.take k)) o).1 := by
  rw [List.take_add_one, h, runP_append]
  rfl
set_option maxRecDepth 100000 in
set_option maxHeartbeats 16000000 in
theorem walkP (w : World) (most : Int) (hm : 0 ≤ most) (A : Option Addr) (n c : Nat) (Os : List Opp) (key : ByteArray) (hr : Reads w w.heap.size 5 A n (Os.flatMap opv)) (hO : ∀ o ∈ Os, o.Ok) (hn : n ≤ 174763) :
    Calls Try.prog 5 #[.int .i64 most, .slice A n c, .string key] w fun e w' => e = .returned (.bool true) ∧ Below w.heap.size w w' := by
  have hl := reads_len opv_len (by decide) hr
  have AL := Lib.hid alive_calls
  have HR := Lib.hid hr
  have HL := Lib.hid hl
  have HO := Lib.hid hO
  have HM0 := Lib.hid hm
  have hM : (0 : Int) ≤ most := by omega
  have NC := Lib.hid (show Calls Try.prog 7 #[.int .i64 most] w (fun e w' => ∃ g, e = .returned (.pointer (some ⟨g, 0, none⟩)) ∧ TreeIs w' w.heap.size g most [] ∧ Below w.heap.size w w') from by
    have := new_calls w most
    rw [Int.max_eq_left hm] at this; exact this)
  clear hl hO hr
  go_enter Try.func5, Try.ntmps5
  go_wp2_with (first | (go_at_call 7; (with_reducible refine NC.out.mono ?_); rintro e w1 ⟨g, rfl, ht1, hb1⟩; have ht1 := Lib.hid ht1; have hb1 := Lib.hid hb1) |
    (go_at_call 8; (with_reducible refine (AL.out _).mono ?_); rintro e w2 ⟨rfl, hb2⟩; have hb2 := Lib.hid hb2))
  have S0 := Sta.first (Below.refl w.heap.size w) ht1.out hb1.out hb2.out
  generalize w2.heap.size = z at S0 ⊢
  have S0 := Lib.hid S0
  clear NC AL ht1 hb1 hb2
  go_loopg [34] n (fun fu ix wr => ∃ k : Nat, ix = .int .i64 k ∧ k + fu = n ∧ Sta w wr w.heap.size g z most (runP most [] (Os.take k)))
  case atStart => exact ⟨0, rfl, by omega, by simpa [runP] using S0.out⟩
  case round =>
    obtain ⟨k, rfl, hf, hS⟩ := hrel
    have HS := Lib.hid hS
    have HF := Lib.hid hf
    by_cases hk : k < n
    · obtain ⟨o, ho⟩ : ∃ o, Os[k]? = some o := ⟨_, List.getElem?_eq_getElem (by have := HL.out; omega)⟩
      have hfar := far_take (M := most) HO.out k (by have := HL.out; omega) (by omega)
      have hok := HO.out o (List.mem_of_getElem? ho)
      have hfar2 := (hfar.step hok (by omega)).1
      rw [← run_take ho] at hfar2
      have hsm := far_small hfar (by omega)
      have hsm2 := far_small hfar2 (by omega)
      clear hfar hfar2
      have hrt : runP most [] (Os.take (k + 1)) = (stepP most (runP most [] (Os.take k)) o).1 := run_takeL ho
      obtain ⟨b, off, rfl, hbl, hc⟩ := reads_get opv_len (by decide) (HR.out.below hS.bel) ho
      have c0 : wr.cell? ⟨b, off + k * 5, none⟩ = some (.int .i64 o.kind) := hc 0 _ rfl
      have c1 : wr.cell? ⟨b, off + k * 5 + 1, none⟩ = some (.int .i64 o.shape) := hc 1 _ rfl
      have c2 : wr.cell? ⟨b, off + k * 5 + 2, none⟩ = some (.int .i64 o.flags) := hc 2 _ rfl
      have c3 : wr.cell? ⟨b, off + k * 5 + 3, none⟩ = some (.int .u64 o.proto) := hc 3 _ rfl
      have c4 : wr.cell? ⟨b, off + k * 5 + 4, none⟩ = some (.string o.key) := hc 4 _ rfl
      obtain ⟨A0, n0, c0', hbz, hrt0⟩ := hS.ref
      have hal : Below wr.heap.size wr (wr.alloc (.cells #[.int .i64 o.kind, .int .i64 o.shape, .int .i64 o.flags, .int .u64 o.proto, .string o.key] 25)) := (Below.refl _ _).alloc (Nat.le_refl _) _
      have SC := Lib.hid (show Calls Try.prog 9 #[.pointer (some ⟨g, 0, none⟩), .agg #[.int .i64 most, .slice A0 n0 c0'], .agg #[.int .i64 o.kind, .int .i64 o.shape, .int .i64 o.flags, .int .u64 o.proto, .string o.key]] (wr.alloc (.cells #[.int .i64 o.kind, .int .i64 o.shape, .int .i64 o.flags, .int .u64 o.proto, .string o.key] 25)) (StepGives (wr.alloc (.cells #[.int .i64 o.kind, .int .i64 o.shape, .int .i64 o.flags, .int .u64 o.proto, .string o.key] 25)) w.heap.size g most (runP most [] (Os.take (k + 1)))) from hrt ▸ step_calls _ w.heap.size g most A0 n0 c0' _ (hS.tree.below hal) (hrt0.keep (Kept.below hal hS.tree.base)) hS.wf o hok hsm (by rw [← hrt]; omega))
      obtain ⟨y0, y1, y2, y3⟩ := (hbz.alloc (.cells #[.int .i64 o.kind, .int .i64 o.shape, .int .i64 o.flags, .int .u64 o.proto, .string o.key] 25)).two
      have HBZ := Lib.hid hbz
      have HNx := Lib.hid (fun (w' : World) (A' : Option Addr) (n' c' : Nat) (ht : TreeIs w' w.heap.size g most (runP most [] (Os.take (k + 1)))) (hr : RTree w.heap.size w' A' n' (runP most [] (Os.take (k + 1)))) (hk : Kept w.heap.size (wr.alloc (.cells #[.int .i64 o.kind, .int .i64 o.shape, .int .i64 o.flags, .int .u64 o.proto, .string o.key] 25)) w') => show Sta w ((w'.setCell ⟨z, 0, none⟩ (.int .i64 most)).setCell ⟨z, 1, none⟩ (.slice A' n' c')) w.heap.size g z most (runP most [] (Os.take (k + 1))) from by
        rw [hrt] at ht hr ⊢; exact HS.out.next hok ht hr hk)
      have hk' : (k : Int) < (n : Int) := by omega
      obtain ⟨f', hf'⟩ : ∃ f', gk = f' + 1 := ⟨gk - 1, by omega⟩
      have HF' := Lib.hid hf'
      clear hf hf' hS ho hok hsm hsm2 hrt hbl hc hal hbz hrt0
      go_wp2_with (first | (go_at_call 9; (with_reducible refine SC.out.mono ?_); rintro e w4 ⟨A4, n4, c4', rfl, ht4, hr4, hk4⟩; obtain ⟨y0, y1, y2, y3⟩ := (hk4.blk (HBZ.out.alloc _) (by decide) (by decide)).two; have ht4 := Lib.hid ht4; have hr4 := Lib.hid hr4; have hk4 := Lib.hid hk4))
      go_roundg f'
      case measure => have := HF'.out; omega
      case rel => exact ⟨k + 1, by simp, by have := HF'.out; have := HF.out; omega, HNx.out _ A4 n4 c4' ht4.out hr4.out hk4.out⟩
    · have hk' : ¬ (k : Int) < (n : Int) := by omega
      obtain rfl : k = n := by omega
      obtain ⟨L, hLdef⟩ : ∃ L, runP most [] (Os.take k) = L := ⟨_, rfl⟩
      have hfar := far_take (M := most) HO.out k (by have := HL.out; omega) (by omega)
      rw [hLdef] at hS hfar
      have hsm := far_small hfar (by omega)
      have hsl : L.length ≤ 1000000000000 := by omega
      have HT := Lib.hid hS.tree
      have HWF := Lib.hid hS.wf
      have HBel := Lib.hid hS.bel
      have CC := Lib.hid (tree_count hS.tree)
      have KC := Lib.hid (fun w' (b : Below wr.heap.size wr w') (i : Nat) (x : Sh) (hx : L[i]? = some x) => (keysP_some hx) ▸ keys_calls w' w.heap.size g most L (hS.tree.below b) hS.wf (i : Int) hsl)
      have FC := Lib.hid (fun w' (b : Below wr.heap.size wr w') (i : Nat) (k : ByteArray) => find_calls w' w.heap.size g most L (hS.tree.below b) hS.wf (i : Int) k hsl)
      have hdep := hS.wf.depth
      have HDep := Lib.hid hdep
      clear hf hS hk hLdef hfar hsm S0 HL HR HO hk' HS HF hdep
      clear HM0
      go_wp2_with (first | (go_at_call 11; (with_reducible refine CC.out.mono ?_); rintro e w3 ⟨rfl, rfl⟩))
      obtain ⟨wq, rfl⟩ : ∃ wq : World, wq = wr := ⟨_, rfl⟩
      obtain ⟨N, hN⟩ : ∃ N, L.length = N := ⟨_, rfl⟩
      rw [hN] at hsl ⊢
      have HN := Lib.hid hN
      clear hN
      go_loopg [48] N (fun fu ix wo => ∃ i : Nat, ix = .int .i64 i ∧ i + fu = N ∧ Below wq.heap.size wq wo)
      case atStart => exact ⟨0, rfl, by omega, Below.refl _ _⟩
      case round =>
        obtain ⟨wo, rfl⟩ : ∃ wo : World, wo = wr := ⟨_, rfl⟩
        obtain ⟨i, rfl, hf, hbo⟩ := hrel
        have HF := Lib.hid hf
        have HBo := Lib.hid hbo
        by_cases hi : i < N
        · obtain ⟨x, hx⟩ : ∃ x, L[i]? = some x := ⟨_, List.getElem?_eq_getElem (by have := HN.out; omega)⟩
          have HX := Lib.hid hx
          have hi2 : (i : Int) < (N : Int) := by omega
          have hxl : x.l.length ≤ 1000000000000 := by have := (HDep.out i x hx).1; omega
          have K1 := Lib.hid (KC.out wo hbo i x hx)
          have F2 := Lib.hid (fun w' (b : Below wo.heap.size wo w') => FC.out w' (below_via hbo b) i key)
          have F1 := Lib.hid (fun w' (b : Below wo.heap.size wo w') (j : Nat) (q : Pr) (hq : x.l[j]? = some q) => (find_own HWF.out hx hq) ▸ FC.out w' (below_via hbo b) i q.k)
          have hoth := find_other hx key
          obtain ⟨fo', hfo'⟩ : ∃ f', gk = f' + 1 := ⟨gk - 1, by omega⟩
          have HFo := Lib.hid hfo'
          generalize findP L (i : Int) key = fp at *
          obtain ⟨p1, p2, p3⟩ := fp
          simp only at hoth
          have HOth := Lib.hid hoth
          obtain ⟨m, hm2⟩ : ∃ m, x.l.length = m := ⟨_, rfl⟩
          rw [hm2] at K1 hxl
          have HM := Lib.hid hm2
          clear hf hbo hi hx hfo' hoth hm2
          go_wp2_with (first | (go_at_call 12; (with_reducible refine K1.out.mono ?_); rintro e w4 ⟨A4, c4, rfl, ho4, hb4⟩; have ho4 := Lib.hid ho4; have hb4 := Lib.hid hb4))
          go_loopg [13, 56] m (fun fu hs ix wi => ∃ j : Nat, hs = .bool (hasK (x.l.take j) key) ∧ ix = .int .i64 j ∧ j + fu = m ∧ Below w4.heap.size w4 wi)
          case atStart => exact ⟨0, rfl, rfl, by omega, Below.refl _ _⟩
          case round =>
            obtain ⟨wi, rfl⟩ : ∃ wi : World, wi = wr := ⟨_, rfl⟩
            obtain ⟨j, rfl, rfl, hf2, hbi⟩ := hrel
            have HF2 := Lib.hid hf2
            have HBi := Lib.hid hbi
            by_cases hj : j < m
            · obtain ⟨q, hq⟩ : ∃ q, x.l[j]? = some q := ⟨_, List.getElem?_eq_getElem (by have := HM.out; omega)⟩
              have hkq : (keysV x.l)[j]? = some (.string q.k) := by unfold keysV; rw [List.getElem?_map, hq]; rfl
              obtain ⟨g3, c3', hA3, _, _⟩ := ho4.out.form (by omega)
              injection hA3 with hA3 _ hc3
              subst hA3
              have k3 := own_cell1 ho4.out hkq
              have hlt3 := (ho4.out.lt g3 rfl).2
              have k3' : wi.cell? ⟨g3, j, none⟩ = _ := (hbi.cell (p := ⟨g3, j, none⟩) hlt3).trans k3
              have FQ := Lib.hid (F1.out wi (hb4.out.trans (hbi.mono hb4.out.size)) j q hq)
              have hsn := hasK_snoc hq key
              have HSn := Lib.hid hsn
              have HC3 := Lib.hid (fun (w' : World) (b : Below wi.heap.size wi w') => (b.cell (p := ⟨g3, j, none⟩) (Nat.lt_of_lt_of_le hlt3 hbi.size)).trans k3')
              have hjm : (j : Int) < (m : Int) := by omega
              have hst := str_eq q.k key
              obtain ⟨f2', hf2'⟩ : ∃ f', gk = f' + 1 := ⟨gk - 1, by omega⟩
              have HF2' := Lib.hid hf2'
              cases hh : hasK (x.l.take j) key <;> cases hd : decide (q.k = key)
              all_goals
                rw [hh, hd] at hsn
                rw [hd] at hst
                have HSn2 := Lib.hid hsn
                clear hsn hf2 hf2' hq hkq k3 hlt3 hbi hh hd hj hc3
                go_wp2_with (first | (go_at_call 13; (with_reducible refine FQ.out.mono ?_); rintro e w5 ⟨rfl, hb5⟩; have k5 := HC3.out _ hb5; have hb5 := Lib.hid hb5))
                go_roundg f2'
                case measure => have := HF2'.out; omega
                case rel => exact ⟨j + 1, by rw [HSn2.out]; rfl, by simp, by have := HF2'.out; have := HF2.out; omega, HBi.out.trans (hb5.out.mono HBi.out.size)⟩
            · have hj' : ¬ (j : Int) < (m : Int) := by omega
              have hall : hasK (x.l.take j) key = p3 := by rw [List.take_of_length_le (by have := HM.out; omega)]; exact HOth.out.symm
              rw [hall]
              have F3 := Lib.hid (F2.out wi (hb4.out.trans (hbi.mono hb4.out.size)))
              clear hf2 hbi hj hall
              go_wp2_with (first | (go_at_call 13; (with_reducible refine F3.out.mono ?_); rintro e w6 ⟨rfl, hb6⟩; have hb6 := Lib.hid hb6))
              go_roundg fo'
              case measure => have := HFo.out; omega
              case rel => exact ⟨i + 1, by simp, by have := HFo.out; have := HF.out; omega, below_via (below_via (below_via HBo.out hb4.out) HBi.out) hb6.out⟩
        · have hi' : ¬ (i : Int) < (N : Int) := by omega
          clear hf hbo hi
          go_wp2
          go_ret
          exact ⟨rfl, HBel.out.trans (HBo.out.mono HBel.out.size)⟩
set_option maxRecDepth 100000 in
set_option maxHeartbeats 16000000 in
theorem walkN (w : World) (most : Int) (hm : ¬ 0 ≤ most) (A : Option Addr) (n c : Nat) (Os : List Opp) (key : ByteArray) (hr : Reads w w.heap.size 5 A n (Os.flatMap opv)) (hO : ∀ o ∈ Os, o.Ok) (hn : n ≤ 174763) :
    Calls Try.prog 5 #[.int .i64 most, .slice A n c, .string key] w fun e w' => e = .returned (.bool true) ∧ Below w.heap.size w w' := by
  have hl := reads_len opv_len (by decide) hr
  have AL := Lib.hid alive_calls
  have HR := Lib.hid hr
  have HL := Lib.hid hl
  have HO := Lib.hid hO
  have HM0 := Lib.hid hm
  have hM : (0 : Int) ≤ 0 := by omega
  have NC := Lib.hid (show Calls Try.prog 7 #[.int .i64 most] w (fun e w' => ∃ g, e = .returned (.pointer (some ⟨g, 0, none⟩)) ∧ TreeIs w' w.heap.size g 0 [] ∧ Below w.heap.size w w') from by
    have := new_calls w most
    rw [Int.max_eq_right (by omega)] at this; exact this)
  clear hl hO hr
  go_enter Try.func5, Try.ntmps5
  go_wp2_with (first | (go_at_call 7; (with_reducible refine NC.out.mono ?_); rintro e w1 ⟨g, rfl, ht1, hb1⟩; have ht1 := Lib.hid ht1; have hb1 := Lib.hid hb1) |
    (go_at_call 8; (with_reducible refine (AL.out _).mono ?_); rintro e w2 ⟨rfl, hb2⟩; have hb2 := Lib.hid hb2))
  have S0 := Sta.first (Below.refl w.heap.size w) ht1.out hb1.out hb2.out
  generalize w2.heap.size = z at S0 ⊢
  have S0 := Lib.hid S0
  clear NC AL ht1 hb1 hb2
  go_loopg [34] n (fun fu ix wr => ∃ k : Nat, ix = .int .i64 k ∧ k + fu = n ∧ Sta w wr w.heap.size g z 0 (runP 0 [] (Os.take k)))
  case atStart => exact ⟨0, rfl, by omega, by simpa [runP] using S0.out⟩
  case round =>
    obtain ⟨k, rfl, hf, hS⟩ := hrel
    have HS := Lib.hid hS
    have HF := Lib.hid hf
    by_cases hk : k < n
    · obtain ⟨o, ho⟩ : ∃ o, Os[k]? = some o := ⟨_, List.getElem?_eq_getElem (by have := HL.out; omega)⟩
      have hfar := far_take (M := 0) HO.out k (by have := HL.out; omega) (by omega)
      have hok := HO.out o (List.mem_of_getElem? ho)
      have hfar2 := (hfar.step hok (by omega)).1
      rw [← run_take ho] at hfar2
      have hsm := far_small hfar (by omega)
      have hsm2 := far_small hfar2 (by omega)
      clear hfar hfar2
      have hrt : runP 0 [] (Os.take (k + 1)) = (stepP 0 (runP 0 [] (Os.take k)) o).1 := run_takeL ho
      obtain ⟨b, off, rfl, hbl, hc⟩ := reads_get opv_len (by decide) (HR.out.below hS.bel) ho
      have c0 : wr.cell? ⟨b, off + k * 5, none⟩ = some (.int .i64 o.kind) := hc 0 _ rfl
      have c1 : wr.cell? ⟨b, off + k * 5 + 1, none⟩ = some (.int .i64 o.shape) := hc 1 _ rfl
      have c2 : wr.cell? ⟨b, off + k * 5 + 2, none⟩ = some (.int .i64 o.flags) := hc 2 _ rfl
      have c3 : wr.cell? ⟨b, off + k * 5 + 3, none⟩ = some (.int .u64 o.proto) := hc 3 _ rfl
      have c4 : wr.cell? ⟨b, off + k * 5 + 4, none⟩ = some (.string o.key) := hc 4 _ rfl
      obtain ⟨A0, n0, c0', hbz, hrt0⟩ := hS.ref
      have hal : Below wr.heap.size wr (wr.alloc (.cells #[.int .i64 o.kind, .int .i64 o.shape, .int .i64 o.flags, .int .u64 o.proto, .string o.key] 25)) := (Below.refl _ _).alloc (Nat.le_refl _) _
      have SC := Lib.hid (show Calls Try.prog 9 #[.pointer (some ⟨g, 0, none⟩), .agg #[.int .i64 0, .slice A0 n0 c0'], .agg #[.int .i64 o.kind, .int .i64 o.shape, .int .i64 o.flags, .int .u64 o.proto, .string o.key]] (wr.alloc (.cells #[.int .i64 o.kind, .int .i64 o.shape, .int .i64 o.flags, .int .u64 o.proto, .string o.key] 25)) (StepGives (wr.alloc (.cells #[.int .i64 o.kind, .int .i64 o.shape, .int .i64 o.flags, .int .u64 o.proto, .string o.key] 25)) w.heap.size g 0 (runP 0 [] (Os.take (k + 1)))) from hrt ▸ step_calls _ w.heap.size g 0 A0 n0 c0' _ (hS.tree.below hal) (hrt0.keep (Kept.below hal hS.tree.base)) hS.wf o hok hsm (by rw [← hrt]; omega))
      obtain ⟨y0, y1, y2, y3⟩ := (hbz.alloc (.cells #[.int .i64 o.kind, .int .i64 o.shape, .int .i64 o.flags, .int .u64 o.proto, .string o.key] 25)).two
      have HBZ := Lib.hid hbz
      have HNx := Lib.hid (fun (w' : World) (A' : Option Addr) (n' c' : Nat) (ht : TreeIs w' w.heap.size g 0 (runP 0 [] (Os.take (k + 1)))) (hr : RTree w.heap.size w' A' n' (runP 0 [] (Os.take (k + 1)))) (hk : Kept w.heap.size (wr.alloc (.cells #[.int .i64 o.kind, .int .i64 o.shape, .int .i64 o.flags, .int .u64 o.proto, .string o.key] 25)) w') => show Sta w ((w'.setCell ⟨z, 0, none⟩ (.int .i64 0)).setCell ⟨z, 1, none⟩ (.slice A' n' c')) w.heap.size g z 0 (runP 0 [] (Os.take (k + 1))) from by
        rw [hrt] at ht hr ⊢; exact HS.out.next hok ht hr hk)
      have hk' : (k : Int) < (n : Int) := by omega
      obtain ⟨f', hf'⟩ : ∃ f', gk = f' + 1 := ⟨gk - 1, by omega⟩
      have HF' := Lib.hid hf'
      clear hf hf' hS ho hok hsm hsm2 hrt hbl hc hal hbz hrt0
      go_wp2_with (first | (go_at_call 9; (with_reducible refine SC.out.mono ?_); rintro e w4 ⟨A4, n4, c4', rfl, ht4, hr4, hk4⟩; obtain ⟨y0, y1, y2, y3⟩ := (hk4.blk (HBZ.out.alloc _) (by decide) (by decide)).two; have ht4 := Lib.hid ht4; have hr4 := Lib.hid hr4; have hk4 := Lib.hid hk4))
      go_roundg f'
      case measure => have := HF'.out; omega
      case rel => exact ⟨k + 1, by simp, by have := HF'.out; have := HF.out; omega, HNx.out _ A4 n4 c4' ht4.out hr4.out hk4.out⟩
    · have hk' : ¬ (k : Int) < (n : Int) := by omega
      obtain rfl : k = n := by omega
      obtain ⟨L, hLdef⟩ : ∃ L, runP 0 [] (Os.take k) = L := ⟨_, rfl⟩
      have hfar := far_take (M := 0) HO.out k (by have := HL.out; omega) (by omega)
      rw [hLdef] at hS hfar
      have hsm := far_small hfar (by omega)
      have hsl : L.length ≤ 1000000000000 := by omega
      have HT := Lib.hid hS.tree
      have HWF := Lib.hid hS.wf
      have HBel := Lib.hid hS.bel
      have CC := Lib.hid (tree_count hS.tree)
      have KC := Lib.hid (fun w' (b : Below wr.heap.size wr w') (i : Nat) (x : Sh) (hx : L[i]? = some x) => (keysP_some hx) ▸ keys_calls w' w.heap.size g 0 L (hS.tree.below b) hS.wf (i : Int) hsl)
      have FC := Lib.hid (fun w' (b : Below wr.heap.size wr w') (i : Nat) (k : ByteArray) => find_calls w' w.heap.size g 0 L (hS.tree.below b) hS.wf (i : Int) k hsl)
      have hdep := hS.wf.depth
      have HDep := Lib.hid hdep
      clear hf hS hk hLdef hfar hsm S0 HL HR HO hk' HS HF hdep
      clear HM0
      go_wp2_with (first | (go_at_call 11; (with_reducible refine CC.out.mono ?_); rintro e w3 ⟨rfl, rfl⟩))
      obtain ⟨wq, rfl⟩ : ∃ wq : World, wq = wr := ⟨_, rfl⟩
      obtain ⟨N, hN⟩ : ∃ N, L.length = N := ⟨_, rfl⟩
      rw [hN] at hsl ⊢
      have HN := Lib.hid hN
      clear hN
      go_loopg [48] N (fun fu ix wo => ∃ i : Nat, ix = .int .i64 i ∧ i + fu = N ∧ Below wq.heap.size wq wo)
      case atStart => exact ⟨0, rfl, by omega, Below.refl _ _⟩
      case round =>
        obtain ⟨wo, rfl⟩ : ∃ wo : World, wo = wr := ⟨_, rfl⟩
        obtain ⟨i, rfl, hf, hbo⟩ := hrel
        have HF := Lib.hid hf
        have HBo := Lib.hid hbo
        by_cases hi : i < N
        · obtain ⟨x, hx⟩ : ∃ x, L[i]? = some x := ⟨_, List.getElem?_eq_getElem (by have := HN.out; omega)⟩
          have HX := Lib.hid hx
          have hi2 : (i : Int) < (N : Int) := by omega
          have hxl : x.l.length ≤ 1000000000000 := by have := (HDep.out i x hx).1; omega
          have K1 := Lib.hid (KC.out wo hbo i x hx)
          have F2 := Lib.hid (fun w' (b : Below wo.heap.size wo w') => FC.out w' (below_via hbo b) i key)
          have F1 := Lib.hid (fun w' (b : Below wo.heap.size wo w') (j : Nat) (q : Pr) (hq : x.l[j]? = some q) => (find_own HWF.out hx hq) ▸ FC.out w' (below_via hbo b) i q.k)
          have hoth := find_other hx key
          obtain ⟨fo', hfo'⟩ : ∃ f', gk = f' + 1 := ⟨gk - 1, by omega⟩
          have HFo := Lib.hid hfo'
          generalize findP L (i : Int) key = fp at *
          obtain ⟨p1, p2, p3⟩ := fp
          simp only at hoth
          have HOth := Lib.hid hoth
          obtain ⟨m, hm2⟩ : ∃ m, x.l.length = m := ⟨_, rfl⟩
          rw [hm2] at K1 hxl
          have HM := Lib.hid hm2
          clear hf hbo hi hx hfo' hoth hm2
          go_wp2_with (first | (go_at_call 12; (with_reducible refine K1.out.mono ?_); rintro e w4 ⟨A4, c4, rfl, ho4, hb4⟩; have ho4 := Lib.hid ho4; have hb4 := Lib.hid hb4))
          go_loopg [13, 56] m (fun fu hs ix wi => ∃ j : Nat, hs = .bool (hasK (x.l.take j) key) ∧ ix = .int .i64 j ∧ j + fu = m ∧ Below w4.heap.size w4 wi)
          case atStart => exact ⟨0, rfl, rfl, by omega, Below.refl _ _⟩
          case round =>
            obtain ⟨wi, rfl⟩ : ∃ wi : World, wi = wr := ⟨_, rfl⟩
            obtain ⟨j, rfl, rfl, hf2, hbi⟩ := hrel
            have HF2 := Lib.hid hf2
            have HBi := Lib.hid hbi
            by_cases hj : j < m
            · obtain ⟨q, hq⟩ : ∃ q, x.l[j]? = some q := ⟨_, List.getElem?_eq_getElem (by have := HM.out; omega)⟩
              have hkq : (keysV x.l)[j]? = some (.string q.k) := by unfold keysV; rw [List.getElem?_map, hq]; rfl
              obtain ⟨g3, c3', hA3, _, _⟩ := ho4.out.form (by omega)
              injection hA3 with hA3 _ hc3
              subst hA3
              have k3 := own_cell1 ho4.out hkq
              have hlt3 := (ho4.out.lt g3 rfl).2
              have k3' : wi.cell? ⟨g3, j, none⟩ = _ := (hbi.cell (p := ⟨g3, j, none⟩) hlt3).trans k3
              have FQ := Lib.hid (F1.out wi (hb4.out.trans (hbi.mono hb4.out.size)) j q hq)
              have hsn := hasK_snoc hq key
              have HSn := Lib.hid hsn
              have HC3 := Lib.hid (fun (w' : World) (b : Below wi.heap.size wi w') => (b.cell (p := ⟨g3, j, none⟩) (Nat.lt_of_lt_of_le hlt3 hbi.size)).trans k3')
              have hjm : (j : Int) < (m : Int) := by omega
              have hst := str_eq q.k key
              obtain ⟨f2', hf2'⟩ : ∃ f', gk = f' + 1 := ⟨gk - 1, by omega⟩
              have HF2' := Lib.hid hf2'
              cases hh : hasK (x.l.take j) key <;> cases hd : decide (q.k = key)
              all_goals
                rw [hh, hd] at hsn
                rw [hd] at hst
                have HSn2 := Lib.hid hsn
                clear hsn hf2 hf2' hq hkq k3 hlt3 hbi hh hd hj hc3
                go_wp2_with (first | (go_at_call 13; (with_reducible refine FQ.out.mono ?_); rintro e w5 ⟨rfl, hb5⟩; have k5 := HC3.out _ hb5; have hb5 := Lib.hid hb5))
                go_roundg f2'
                case measure => have := HF2'.out; omega
                case rel => exact ⟨j + 1, by rw [HSn2.out]; rfl, by simp, by have := HF2'.out; have := HF2.out; omega, HBi.out.trans (hb5.out.mono HBi.out.size)⟩
            · have hj' : ¬ (j : Int) < (m : Int) := by omega
              have hall : hasK (x.l.take j) key = p3 := by rw [List.take_of_length_le (by have := HM.out; omega)]; exact HOth.out.symm
              rw [hall]
              have F3 := Lib.hid (F2.out wi (hb4.out.trans (hbi.mono hb4.out.size)))
              clear hf2 hbi hj hall
              go_wp2_with (first | (go_at_call 13; (with_reducible refine F3.out.mono ?_); rintro e w6 ⟨rfl, hb6⟩; have hb6 := Lib.hid hb6))
              go_roundg fo'
              case measure => have := HFo.out; omega
              case rel => exact ⟨i + 1, by simp, by have := HFo.out; have := HF.out; omega, below_via (below_via (below_via HBo.out hb4.out) HBi.out) hb6.out⟩
        · have hi' : ¬ (i : Int) < (N : Int) := by omega
          clear hf hbo hi
          go_wp2
          go_ret
          exact ⟨rfl, HBel.out.trans (HBo.out.mono HBel.out.size)⟩
theorem call {H : Type} {enc : TypeId × Value → H} {W : World} {base : Nat} {v0 : Value} {d0 : DataW H} {p0 : List MemPlace} {v1 : Value} {d1 : DataW H} {p1 : List MemPlace} {v2 : Value} {d2 : DataW H} {p2 : List MemPlace}
    (o0 : Value.okWide Try.prog W .any base 3 v0) (h0 : DataW.Trod enc Try.prog W 0 (fun _ => true) true 3 v0 d0 p0) (o1 : Value.okWide Try.prog W .any base 22 v1) (h1 : DataW.Trod enc Try.prog W 0 (fun _ => true) true 22 v1 d1 p1) (o2 : Value.okWide Try.prog W .any base 9 v2) (h2 : DataW.Trod enc Try.prog W 0 (fun _ => true) true 9 v2 d2 p2) (hb : Rows.uptoBulk d0 + Rows.uptoBulk d1 + Rows.uptoBulk d2 ≤ 1048576) :
    Calls Try.prog 5 #[v0, v1, v2] W fun e w' => e = .returned (.bool true) ∧ Below W.heap.size W w' := by
  obtain ⟨m, rfl⟩ := okWide_int Try.underlying3 o0
  obtain ⟨fuel, hf⟩ := h1
  have hv : v1.cells.toList = [v1] := by
    obtain ⟨a, l, c, rfl⟩ := okWide_slice Try.underlying22 o1
    rfl
  rw [hv] at hf
  obtain ⟨A, n, c, Os, rfl, hr, hO, hbk, _⟩ := open_ops hf
  have hn : n ≤ 174763 := by
    have : n * 6 ≤ Rows.uptoBulk d1 := hbk
    omega
  obtain ⟨key, rfl⟩ := okWide_string Try.underlying9 o2
  by_cases hm : 0 ≤ m
  · exact walkP W m hm A n c Os key hr hO hn
  · exact walkN W m hm A n c Os key hr hO hn
theorem own : ownKnob Try.prog.godebug = none := by kernel_rfl
theorem laidOut : laidOutB Try.prog = true := by kernel_rfl
set_option maxHeartbeats 0 in
/-- what the walk gives. -/
theorem contract (H : Type) (enc : TypeId × Value → H) (W : World) (base : Nat) (args : Array Value) (ds gs : List (DataW H)) (before : List MemPlace)
    (hval : ∀ (j : Nat) t v, Try.f5.params[j]? = some t → args[j]? = some v → Value.okWide Try.prog W .any base t v)
    (hW : DataW.Whole enc Try.prog Try.f5.params.toList Rows.shapesKeysSpec.vars false W args.toList ds gs before) (hk : Rows.uptoSmall H (ds ++ gs) = true) :
    Calls Try.prog 5 args W fun e W' => ∃ v, e = .returned v ∧ Rows.shapesKeysSpec.post enc Try.prog Try.f5 false true false false W args v W' := by
  have hW' := hW
  obtain ⟨p, q, hA0, hV, rfl, hfz, hnd⟩ := hW
  have hA : DataW.TrodAll enc Try.prog W 0 (fun _ => true) true Try.f5.params.toList args.toList ds p := hA0
  rw [Try.params5] at hA hval
  obtain ⟨v0, vs0, d0, ds0, p0, q0, hargs, rfl, rfl, h0, r0⟩ := trodAll_cons hA
  obtain ⟨v1, vs1, d1, ds1, p1, q1, rfl, rfl, rfl, h1, r1⟩ := trodAll_cons r0
  obtain ⟨v2, vs2, d2, ds2, p2, q2, rfl, rfl, rfl, h2, r2⟩ := trodAll_cons r1
  obtain ⟨rfl, rfl, rfl⟩ := trodAll_nil r2
  obtain rfl : args = #[v0, v1, v2] := by cases args; simp_all
  obtain ⟨rfl, rfl⟩ := trodVars_none hV
  clear hA0
  simp only [List.append_nil] at hW' hk
  have lt0 : ∀ x ∈ p0, x.block < W.heap.size := fun x hx => hW'.lt x (by simp [hx])
  have lt1 : ∀ x ∈ p1, x.block < W.heap.size := fun x hx => hW'.lt x (by simp [hx])
  have lt2 : ∀ x ∈ p2, x.block < W.heap.size := fun x hx => hW'.lt x (by simp [hx])
  have hb : Rows.uptoBulk d0 + Rows.uptoBulk d1 + Rows.uptoBulk d2 ≤ 1048576 := by
    have h := of_decide_eq_true hk
    simp only [List.cons_append, List.nil_append, Rows.uptoBulkAll] at h
    omega
  refine (call (hval 0 3 v0 rfl rfl) h0 (hval 1 22 v1 rfl rfl) h1 (hval 2 9 v2 rfl rfl) h2 hb).mono fun e W' ⟨he, bel⟩ => ?_
  subst he
  exact ⟨_, rfl, _, _, _, [], _, [], hW', (trodAll_cons_mk (shut_bool Try.underlying4 _) trodAll_mk0), (trodAll_cons_mk (Below.trod laidOut (by kernel_rfl) (of_decide_eq_true (by kernel_rfl)) h0 bel lt0) (trodAll_cons_mk (Below.trod laidOut (by kernel_rfl) (of_decide_eq_true (by kernel_rfl)) h1 bel lt1) (trodAll_cons_mk (Below.trod laidOut (by kernel_rfl) (of_decide_eq_true (by kernel_rfl)) h2 bel lt2) trodAll_mk0))), rfl, bel.frame _, fun h => by cases h⟩
set_option maxRecDepth 100000 in
theorem lifted (os : Os) (started : os.Started) (H : Type) (enc : TypeId × Value → H) (F : Stop.Interp) :
    ReturnsInHanded {} Try.checked os 5 .any ((Rows.OpenSpec.upto Rows.shapesKeysSpec).pre6 enc Try.prog Try.f5 Rows.shapesKeysUptoRow.domain false) (((Rows.OpenSpec.upto Rows.shapesKeysSpec).at F).post enc Try.prog Try.f5 false true false false) := by
  refine returnsInHanded_of_cond (C := Try.checked) (s := Rows.OpenSpec.upto Rows.shapesKeysSpec) (k := Rows.uptoSmall) rfl own started (by kernel_rfl) Try.func5
    (OpenSpec.witness (enc := enc) (C := Try.checked) (s := Rows.OpenSpec.upto Rows.shapesKeysSpec) (k := Rows.uptoSmall) rfl false ⟨#[], #[.int .i64 0, .slice none 0 0, .string ⟨#[]⟩], []⟩ 8 (by kernel_rfl) (by kernel_rfl) (by kernel_rfl)
      (x := ([.lit (.int .i64 0), .nil, .lit (.string [])], [], [])) (by kernel_rfl) rfl (by kernel_rfl)) ?_
  intro W base args ds gs before hval hW _ hk _
  exact contract H enc W base args ds gs before hval hW hk
set_option maxHeartbeats 0 in
theorem over : Rows.shapesKeysUptoRow.holds Try.pinned (Rows.OpenSpec.upto Rows.shapesKeysSpec) :=
  OpenClaim.holds_of_cond 5 Try.f5 rfl rfl rfl rfl rfl rfl rfl ⟨rfl, rfl, rfl, rfl, rfl⟩ rfl rfl rfl rfl rfl (by as_aux_lemma => kernel_rfl) Try.func5 (by as_aux_lemma => kernel_rfl)
    (of_decide_eq_true (by as_aux_lemma => kernel_rfl)) (by as_aux_lemma => unfold Func.isWrapper; first | (rw [if_pos (by decide +kernel)]; kernel_rfl) | (rw [if_neg (by decide +kernel)]; exact ⟨rfl, rfl⟩))
    (fun os started H enc _ F => lifted os started H enc F)
theorem proved : Rows.ShapesKeysUptoSaid :=
  over
#print axioms proved
end Go.Proofs.Ytchbgececcclgaa.shapesKeys
namespace Go.Proofs.Ytchbgececcclgaa
theorem shapesKeys_holds : Rows.ShapesKeysUptoSaid := shapesKeys.proved
end Go.Proofs.Ytchbgececcclgaa
