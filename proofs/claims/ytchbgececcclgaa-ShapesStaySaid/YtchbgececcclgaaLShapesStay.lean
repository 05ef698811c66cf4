/- For every two scripts and every number the call of ShapesStay returns true, and its arguments read as before; no condition. -/
import Derived.Test.YtchbgececcclgaaPx
import Derived.Test.YtchbgececcclgaaRows
import Derived.ProofKit
import Derived.OpenShut
import Derived.Carry
import Derived.JoinedOf
import Derived.SizedLaws
namespace Go.Proofs.Ytchbgececcclgaa.shapesStay
open Go.ChangeShapes Go.WideShapes Go.ChangeAt Go.RowKit Go.Deep Go
set_option linter.unusedSimpArgs false
set_option linter.unusedVariables false
set_option maxRecDepth 100000 in
set_option maxHeartbeats 16000000 in
theorem walk (w : World) (A : Option Addr) (n c : Nat) (Os : List Opp) (A2 : Option Addr) (n2 c2 : Nat) (Qs : List Opp) (at_ : Int) (hr : Reads w w.heap.size 5 A n (Os.flatMap opv)) (hO : ∀ o ∈ Os, o.Ok) (hn : n ≤ 9223372036854775807) (hr2 : Reads w w.heap.size 5 A2 n2 (Qs.flatMap opv)) (hO2 : ∀ o ∈ Qs, o.Ok) (hn2 : n2 ≤ 9223372036854775807) :
    Calls Try.prog 6 #[.slice A n c, .slice A2 n2 c2, .int .i64 at_] w fun e w' => e = .returned (.bool true) ∧ Below w.heap.size w w' := by
  have hl := reads_len opv_len (by decide) hr
  have hl2 := reads_len opv_len (by decide) hr2
  have AL := Lib.hid alive_calls
  have HR := Lib.hid hr
  have HL := Lib.hid hl
  have HO := Lib.hid hO
  have HR2 := Lib.hid hr2
  have HL2 := Lib.hid hl2
  have HO2 := Lib.hid hO2
  have hM : (0 : Int) ≤ 1000 := by omega
  have HT1 := Lib.hid (fun k => (run_top (M := 1000) (fun o ho => hO o (List.mem_of_mem_take ho)) WF.nil (by simp) : ((runP 1000 [] (Os.take k)).length : Int) ≤ 1000 ∧ _).1)
  have NC := Lib.hid (show Calls Try.prog 7 #[.int .i64 1000] w (fun e w' => ∃ g, e = .returned (.pointer (some ⟨g, 0, none⟩)) ∧ TreeIs w' w.heap.size g 1000 [] ∧ Below w.heap.size w w') from new_calls w 1000)
  clear hl hO hr hl2 hO2 hr2
  go_enter Try.func6, Try.ntmps6
  go_wp2_with (first | (go_at_call 7; (with_reducible refine NC.out.mono ?_); rintro e w1 ⟨g, rfl, ht1, hb1⟩; have ht1 := Lib.hid ht1; have hb1 := Lib.hid hb1) |
    (go_at_call 8; (with_reducible refine (AL.out _).mono ?_); rintro e w2 ⟨rfl, hb2⟩; have hb2 := Lib.hid hb2))
  have S0 := Sta.first (Below.refl w.heap.size w) ht1.out hb1.out hb2.out
  generalize w2.heap.size = z at S0 ⊢
  have S0 := Lib.hid S0
  clear NC AL ht1 hb1 hb2
  go_loopg [30] n (fun fu ix wr => ∃ k : Nat, ix = .int .i64 k ∧ k + fu = n ∧ Sta w wr w.heap.size g z 1000 (runP 1000 [] (Os.take k)))
  case atStart => exact ⟨0, rfl, by omega, by simpa [runP] using S0.out⟩
  case round =>
    obtain ⟨k, rfl, hf, hS⟩ := hrel
    have HS := Lib.hid hS
    have HF := Lib.hid hf
    by_cases hk : k < n
    · obtain ⟨o, ho⟩ : ∃ o, Os[k]? = some o := ⟨_, List.getElem?_eq_getElem (by have := HL.out; omega)⟩
      have hok := HO.out o (List.mem_of_getElem? ho)
      have hsm : 2 * (runP 1000 [] (Os.take k)).length + 2 ≤ 1000000000000 := by have := HT1.out k; omega
      have hsm2 : 2 * (runP 1000 [] (Os.take (k + 1))).length + 2 ≤ 1000000000000 := by have := HT1.out (k + 1); omega
      have hrt : runP 1000 [] (Os.take (k + 1)) = (stepP 1000 (runP 1000 [] (Os.take k)) o).1 := run_takeL ho
      obtain ⟨b, off, rfl, hbl, hc⟩ := reads_get opv_len (by decide) (HR.out.below hS.bel) ho
      have c0 : wr.cell? ⟨b, off + k * 5, none⟩ = some (.int .i64 o.kind) := hc 0 _ rfl
      have c1 : wr.cell? ⟨b, off + k * 5 + 1, none⟩ = some (.int .i64 o.shape) := hc 1 _ rfl
      have c2 : wr.cell? ⟨b, off + k * 5 + 2, none⟩ = some (.int .i64 o.flags) := hc 2 _ rfl
      have c3 : wr.cell? ⟨b, off + k * 5 + 3, none⟩ = some (.int .u64 o.proto) := hc 3 _ rfl
      have c4 : wr.cell? ⟨b, off + k * 5 + 4, none⟩ = some (.string o.key) := hc 4 _ rfl
      obtain ⟨A0, n0, c0', hbz, hrt0⟩ := hS.ref
      have hal : Below wr.heap.size wr (wr.alloc (.cells #[.int .i64 o.kind, .int .i64 o.shape, .int .i64 o.flags, .int .u64 o.proto, .string o.key] 25)) := (Below.refl _ _).alloc (Nat.le_refl _) _
      have SC := Lib.hid (show Calls Try.prog 9 #[.pointer (some ⟨g, 0, none⟩), .agg #[.int .i64 1000, .slice A0 n0 c0'], .agg #[.int .i64 o.kind, .int .i64 o.shape, .int .i64 o.flags, .int .u64 o.proto, .string o.key]] (wr.alloc (.cells #[.int .i64 o.kind, .int .i64 o.shape, .int .i64 o.flags, .int .u64 o.proto, .string o.key] 25)) (StepGives (wr.alloc (.cells #[.int .i64 o.kind, .int .i64 o.shape, .int .i64 o.flags, .int .u64 o.proto, .string o.key] 25)) w.heap.size g 1000 (runP 1000 [] (Os.take (k + 1)))) from hrt ▸ step_calls _ w.heap.size g 1000 A0 n0 c0' _ (hS.tree.below hal) (hrt0.keep (Kept.below hal hS.tree.base)) hS.wf o hok hsm (by rw [← hrt]; omega))
      obtain ⟨y0, y1, y2, y3⟩ := (hbz.alloc (.cells #[.int .i64 o.kind, .int .i64 o.shape, .int .i64 o.flags, .int .u64 o.proto, .string o.key] 25)).two
      have HBZ := Lib.hid hbz
      have HNx := Lib.hid (fun (w' : World) (A' : Option Addr) (n' c' : Nat) (ht : TreeIs w' w.heap.size g 1000 (runP 1000 [] (Os.take (k + 1)))) (hr : RTree w.heap.size w' A' n' (runP 1000 [] (Os.take (k + 1)))) (hk : Kept w.heap.size (wr.alloc (.cells #[.int .i64 o.kind, .int .i64 o.shape, .int .i64 o.flags, .int .u64 o.proto, .string o.key] 25)) w') => show Sta w ((w'.setCell ⟨z, 0, none⟩ (.int .i64 1000)).setCell ⟨z, 1, none⟩ (.slice A' n' c')) w.heap.size g z 1000 (runP 1000 [] (Os.take (k + 1))) from by
        rw [hrt] at ht hr ⊢; exact HS.out.next hok ht hr hk)
      have hk' : (k : Int) < (n : Int) := by omega
      obtain ⟨f', hf'⟩ : ∃ f', gk = f' + 1 := ⟨gk - 1, by omega⟩
      have HF' := Lib.hid hf'
      clear hf hf' hS ho hok hsm hsm2 hrt hbl hc hal hbz hrt0
      go_wp2_with (first | (go_at_call 9; (with_reducible refine SC.out.mono ?_); rintro e w4 ⟨A4, n4, c4', rfl, ht4, hr4, hk4⟩; obtain ⟨y0, y1, y2, y3⟩ := (hk4.blk (HBZ.out.alloc _) (by decide) (by decide)).two; have ht4 := Lib.hid ht4; have hr4 := Lib.hid hr4; have hk4 := Lib.hid hk4))
      go_roundg f'
      case measure => have := HF'.out; omega
      case rel => exact ⟨k + 1, by simp, by have := HF'.out; have := HF.out; omega, HNx.out _ A4 n4 c4' ht4.out hr4.out hk4.out⟩
    · have hk' : ¬ (k : Int) < (n : Int) := by omega
      obtain rfl : k = n := by omega
      obtain ⟨L1, hLdef⟩ : ∃ L, runP 1000 [] (Os.take k) = L := ⟨_, rfl⟩
      have ht1 := HT1.out k
      rw [hLdef] at hS ht1
      have HS := Lib.hid hS
      have hsl : L1.length ≤ 1000000000000 := by omega
      have KC := Lib.hid (fun w' (b : Below wr.heap.size wr w') => keys_calls w' w.heap.size g 1000 L1 (hS.tree.below b) hS.wf at_ hsl)
      have PC := Lib.hid (fun w' (b : Below wr.heap.size wr w') => proto_calls w' w.heap.size g 1000 L1 (hS.tree.below b) hS.wf at_ hsl)
      cases e : getI L1 at_ with
      | none =>
        have f4 : protoP L1 at_ = (0, false) := by unfold protoP; rw [e]
        rw [f4] at PC
        clear hf hS hk hLdef ht1 hsl e f4 S0
        go_wp2_with (first | (go_at_call 12; (with_reducible refine (KC.out _ (Below.refl _ _)).mono ?_); rintro e w5 ⟨A5, c5, rfl, ho5, hb5⟩; have ho5 := Lib.hid ho5; have hb5 := Lib.hid hb5) |
          (go_at_call 14; (with_reducible refine (PC.out _ hb5.out).mono ?_); rintro e w6 ⟨rfl, rfl⟩))
        go_ret
        exact ⟨rfl, below_via HS.out.bel hb5.out⟩
      | some x =>
        have f3 : keysP L1 at_ = x.l := by unfold keysP; rw [e]
        have f4 : protoP L1 at_ = (x.p, true) := by unfold protoP; rw [e]
        rw [f3] at KC
        rw [f4] at PC
        have HE := Lib.hid e
        have hgi := getI_some e
        have hdep := (hS.wf.depth _ _ hgi.2.1).1
        have HT2 := Lib.hid (fun k => (run_top (M := 1000) (fun o ho => HO2.out o (List.mem_of_mem_take ho)) hS.wf ht1 : ((runP 1000 L1 (Qs.take k)).length : Int) ≤ 1000 ∧ _).1)
        have HPre := Lib.hid (fun k => (run_top (M := 1000) (fun o ho => HO2.out o (List.mem_of_mem_take ho)) hS.wf ht1 : _ ∧ L1 <+: (runP 1000 L1 (Qs.take k))).2)
        obtain ⟨m, hm⟩ : ∃ m, x.l.length = m := ⟨_, rfl⟩
        rw [hm] at KC hdep
        have hms : m ≤ 1000 := by omega
        have HMl := Lib.hid hm
        obtain ⟨wq, rfl⟩ : ∃ wq : World, wq = wr := ⟨_, rfl⟩
        clear hf hS hk hLdef ht1 hsl e f3 f4 hgi hdep hm S0 hk'
        go_wp2_with (first | (go_at_call 12; (with_reducible refine (KC.out _ (Below.refl _ _)).mono ?_); rintro e w5 ⟨A5, c5, rfl, ho5, hb5⟩; have ho5 := Lib.hid ho5; have hb5 := Lib.hid hb5) |
          (go_at_call 14; (with_reducible refine (PC.out _ hb5.out).mono ?_); rintro e w6 ⟨rfl, rfl⟩))
        have S1 := Lib.hid (HS.out.frame hb5.out)
        have HX5 := Lib.hid (Fix.of_own (B := w.heap.size) (by decide) ho5.out)
        clear HF HS KC PC ho5 hb5
        go_loopg [55] n2 (fun fu ix wr => ∃ k : Nat, ix = .int .i64 k ∧ k + fu = n2 ∧ Sta w wr w.heap.size g z 1000 (runP 1000 L1 (Qs.take k)) ∧ Fix w.heap.size wr 1 A5 m (keysV x.l))
        case atStart => exact ⟨0, rfl, by omega, by simpa [runP] using S1.out, HX5.out⟩
        case round =>
          obtain ⟨k, rfl, hf, hS, hfx⟩ := hrel
          have HS := Lib.hid hS
          have HF := Lib.hid hf
          by_cases hk : k < n2
          · obtain ⟨o, ho⟩ : ∃ o, Qs[k]? = some o := ⟨_, List.getElem?_eq_getElem (by have := HL2.out; omega)⟩
            have hok := HO2.out o (List.mem_of_getElem? ho)
            have hsm : 2 * (runP 1000 L1 (Qs.take k)).length + 2 ≤ 1000000000000 := by have := HT2.out k; omega
            have hsm2 : 2 * (runP 1000 L1 (Qs.take (k + 1))).length + 2 ≤ 1000000000000 := by have := HT2.out (k + 1); omega
            have hrt : runP 1000 L1 (Qs.take (k + 1)) = (stepP 1000 (runP 1000 L1 (Qs.take k)) o).1 := run_takeL ho
            obtain ⟨b, off, rfl, hbl, hc⟩ := reads_get opv_len (by decide) (HR2.out.below hS.bel) ho
            have c0 : wr.cell? ⟨b, off + k * 5, none⟩ = some (.int .i64 o.kind) := hc 0 _ rfl
            have c1 : wr.cell? ⟨b, off + k * 5 + 1, none⟩ = some (.int .i64 o.shape) := hc 1 _ rfl
            have c2 : wr.cell? ⟨b, off + k * 5 + 2, none⟩ = some (.int .i64 o.flags) := hc 2 _ rfl
            have c3 : wr.cell? ⟨b, off + k * 5 + 3, none⟩ = some (.int .u64 o.proto) := hc 3 _ rfl
            have c4 : wr.cell? ⟨b, off + k * 5 + 4, none⟩ = some (.string o.key) := hc 4 _ rfl
            obtain ⟨A0, n0, c0', hbz, hrt0⟩ := hS.ref
            have hal : Below wr.heap.size wr (wr.alloc (.cells #[.int .i64 o.kind, .int .i64 o.shape, .int .i64 o.flags, .int .u64 o.proto, .string o.key] 25)) := (Below.refl _ _).alloc (Nat.le_refl _) _
            have SC := Lib.hid (show Calls Try.prog 9 #[.pointer (some ⟨g, 0, none⟩), .agg #[.int .i64 1000, .slice A0 n0 c0'], .agg #[.int .i64 o.kind, .int .i64 o.shape, .int .i64 o.flags, .int .u64 o.proto, .string o.key]] (wr.alloc (.cells #[.int .i64 o.kind, .int .i64 o.shape, .int .i64 o.flags, .int .u64 o.proto, .string o.key] 25)) (StepGives (wr.alloc (.cells #[.int .i64 o.kind, .int .i64 o.shape, .int .i64 o.flags, .int .u64 o.proto, .string o.key] 25)) w.heap.size g 1000 (runP 1000 L1 (Qs.take (k + 1)))) from hrt ▸ step_calls _ w.heap.size g 1000 A0 n0 c0' _ (hS.tree.below hal) (hrt0.keep (Kept.below hal hS.tree.base)) hS.wf o hok hsm (by rw [← hrt]; omega))
            obtain ⟨y0, y1, y2, y3⟩ := (hbz.alloc (.cells #[.int .i64 o.kind, .int .i64 o.shape, .int .i64 o.flags, .int .u64 o.proto, .string o.key] 25)).two
            have HBZ := Lib.hid hbz
            have HNx := Lib.hid (fun (w' : World) (A' : Option Addr) (n' c' : Nat) (ht : TreeIs w' w.heap.size g 1000 (runP 1000 L1 (Qs.take (k + 1)))) (hr : RTree w.heap.size w' A' n' (runP 1000 L1 (Qs.take (k + 1)))) (hk : Kept w.heap.size (wr.alloc (.cells #[.int .i64 o.kind, .int .i64 o.shape, .int .i64 o.flags, .int .u64 o.proto, .string o.key] 25)) w') => show Sta w ((w'.setCell ⟨z, 0, none⟩ (.int .i64 1000)).setCell ⟨z, 1, none⟩ (.slice A' n' c')) w.heap.size g z 1000 (runP 1000 L1 (Qs.take (k + 1))) from by
              rw [hrt] at ht hr ⊢; exact HS.out.next hok ht hr hk)
            have hk' : (k : Int) < (n2 : Int) := by omega
            obtain ⟨f', hf'⟩ : ∃ f', gk = f' + 1 := ⟨gk - 1, by omega⟩
            have HF' := Lib.hid hf'
            have HFx := Lib.hid hfx
            have HKx := Lib.hid (fun (w' : World) (hk : Kept w.heap.size (wr.alloc (.cells #[.int .i64 o.kind, .int .i64 o.shape, .int .i64 o.flags, .int .u64 o.proto, .string o.key] 25)) w') (u v : Value) => hS.fix hk hfx u v)
            clear hf hf' hS ho hok hsm hsm2 hrt hbl hc hal hbz hrt0 hfx
            go_wp2_with (first | (go_at_call 9; (with_reducible refine SC.out.mono ?_); rintro e w4 ⟨A4, n4, c4', rfl, ht4, hr4, hk4⟩; obtain ⟨y0, y1, y2, y3⟩ := (hk4.blk (HBZ.out.alloc _) (by decide) (by decide)).two; have ht4 := Lib.hid ht4; have hr4 := Lib.hid hr4; have hk4 := Lib.hid hk4))
            go_roundg f'
            case measure => have := HF'.out; omega
            case rel => exact ⟨k + 1, by simp, by have := HF'.out; have := HF.out; omega, HNx.out _ A4 n4 c4' ht4.out hr4.out hk4.out, HKx.out _ hk4.out _ _⟩
          · have hk' : ¬ (k : Int) < (n2 : Int) := by omega
            obtain rfl : k = n2 := by omega
            obtain ⟨L2, hLdef2⟩ : ∃ L, runP 1000 L1 (Qs.take k) = L := ⟨_, rfl⟩
            have ht2 := HT2.out k
            have hpre := HPre.out k
            rw [hLdef2] at hS ht2 hpre
            have hsl : L2.length ≤ 1000000000000 := by omega
            have e2 := getI_prefix hpre HE.out
            have f3 : keysP L2 at_ = x.l := by unfold keysP; rw [e2]
            have f4 : protoP L2 at_ = (x.p, true) := by unfold protoP; rw [e2]
            have KC := keys_calls wr w.heap.size g 1000 L2 hS.tree hS.wf at_ hsl
            rw [f3, HMl.out] at KC
            have KC := Lib.hid KC
            have PC := Lib.hid (fun w' (b : Below wr.heap.size wr w') => f4 ▸ proto_calls w' w.heap.size g 1000 L2 (hS.tree.below b) hS.wf at_ hsl)
            have HBel := Lib.hid hS.bel
            have HFx := Lib.hid (fun w' (b : Below wr.heap.size wr w') => hfx.keep (Kept.below b hS.tree.base))
            clear hf hS hk hLdef2 ht2 hpre hsl e2 f3 f4 hfx S1 HX5 HF HS HT1 HT2 HPre HR HL HO HR2 HL2 HO2 hk'
            go_wp2_with (first | (go_at_call 12; (with_reducible refine KC.out.mono ?_); rintro e w7 ⟨A7, c7, rfl, ho7, hb7⟩; have ho7 := Lib.hid ho7; have hb7 := Lib.hid hb7) |
              (go_at_call 14; (with_reducible refine (PC.out _ hb7.out).mono ?_); rintro e w8 ⟨rfl, rfl⟩))
            obtain ⟨wz, rfl⟩ : ∃ wz : World, wz = wr := ⟨_, rfl⟩
            go_loopg [92] m (fun fu ix wi => ∃ j : Nat, ix = .int .i64 j ∧ j + fu = m ∧ Below w7.heap.size w7 wi)
            case atStart => exact ⟨0, rfl, by omega, Below.refl _ _⟩
            case round =>
              obtain ⟨wi, rfl⟩ : ∃ wi : World, wi = wr := ⟨_, rfl⟩
              obtain ⟨j, rfl, hf2, hbi⟩ := hrel
              have HF2 := Lib.hid hf2
              have HBi := Lib.hid hbi
              by_cases hj : j < m
              · obtain ⟨q, hq⟩ : ∃ q, x.l[j]? = some q := ⟨_, List.getElem?_eq_getElem (by have := HMl.out; omega)⟩
                have hkq : (keysV x.l)[j]? = some (.string q.k) := by unfold keysV; rw [List.getElem?_map, hq]; rfl
                obtain ⟨g3, c3', hA3, _, _⟩ := ho7.out.form (by omega)
                injection hA3 with hA3 _ hc3
                subst hA3
                have k3 := own_cell1 ho7.out hkq
                have k3' : wi.cell? ⟨g3, j, none⟩ = _ := (hbi.cell (p := ⟨g3, j, none⟩) (ho7.out.lt g3 rfl).2).trans k3
                obtain ⟨b5, off5, hA5, hbl5, hc5⟩ := fix_get1 (HFx.out _ hb7.out) hkq
                subst hA5
                have k5' : wi.cell? ⟨b5, off5 + j, none⟩ = _ := (hbi.cell (p := ⟨b5, off5 + j, none⟩) hbl5).trans hc5
                have hs : (q.k.toList == q.k.toList) = true := by simp
                have hjm : (j : Int) < (m : Int) := by omega
                obtain ⟨f2', hf2'⟩ : ∃ f', gk = f' + 1 := ⟨gk - 1, by omega⟩
                have HF2' := Lib.hid hf2'
                clear hf2 hf2' hbi hq hkq k3 hbl5 hc5 hc3 hj
                go_wp2
                go_quiet (fail)
                go_wp2
                go_roundg f2'
                case measure => have := HF2'.out; omega
                case rel => exact ⟨j + 1, by simp, by have := HF2'.out; have := HF2.out; omega, below_drewN2 HBi.out _⟩
              · have hj' : ¬ (j : Int) < (m : Int) := by omega
                clear hf2 hbi hj
                go_wp2
                go_ret
                exact ⟨rfl, below_via (below_via HBel.out hb7.out) HBi.out⟩
theorem call {H : Type} {enc : TypeId × Value → H} {W : World} {base : Nat} {v0 : Value} {d0 : DataW H} {p0 : List MemPlace} {v1 : Value} {d1 : DataW H} {p1 : List MemPlace} {v2 : Value} {d2 : DataW H} {p2 : List MemPlace}
    (o0 : Value.okWide Try.prog W .any base 22 v0) (h0 : DataW.Trod enc Try.prog W 0 (fun _ => true) true 22 v0 d0 p0) (o1 : Value.okWide Try.prog W .any base 22 v1) (h1 : DataW.Trod enc Try.prog W 0 (fun _ => true) true 22 v1 d1 p1) (o2 : Value.okWide Try.prog W .any base 3 v2) (h2 : DataW.Trod enc Try.prog W 0 (fun _ => true) true 3 v2 d2 p2) (z0 : ∀ n ∈ d0.weights Try.prog 22, n ≤ reachBytes) (z1 : ∀ n ∈ d1.weights Try.prog 22, n ≤ reachBytes) (z2 : ∀ n ∈ d2.weights Try.prog 3, n ≤ reachBytes) :
    Calls Try.prog 6 #[v0, v1, v2] W fun e w' => e = .returned (.bool true) ∧ Below W.heap.size W w' := by
  obtain ⟨m, rfl⟩ := okWide_int Try.underlying3 o2
  obtain ⟨fuel, hf⟩ := h0
  have hv : v0.cells.toList = [v0] := by
    obtain ⟨a, l, c, rfl⟩ := okWide_slice Try.underlying22 o0
    rfl
  rw [hv] at hf
  obtain ⟨A, n, c, Os, rfl, hr, hO, _, hn⟩ := open_ops hf
  obtain ⟨fuel2, hf2⟩ := h1
  have hv2 : v1.cells.toList = [v1] := by
    obtain ⟨a, l, c, rfl⟩ := okWide_slice Try.underlying22 o1
    rfl
  rw [hv2] at hf2
  obtain ⟨A2, n2, c2, Qs, rfl, hr2, hO2, _, hn2⟩ := open_ops hf2
  exact walk W A n c Os A2 n2 c2 Qs m hr hO hn hr2 hO2 hn2
theorem own : ownKnob Try.prog.godebug = none := by kernel_rfl
theorem laidOut : laidOutB Try.prog = true := by kernel_rfl
set_option maxHeartbeats 0 in
/-- what the walk gives. -/
theorem contract (H : Type) (enc : TypeId × Value → H) (W : World) (base : Nat) (args : Array Value) (ds gs : List (DataW H)) (before : List MemPlace)
    (hval : ∀ (j : Nat) t v, Try.f6.params[j]? = some t → args[j]? = some v → Value.okWide Try.prog W .any base t v)
    (hW : DataW.Whole enc Try.prog Try.f6.params.toList Rows.shapesStaySpec.vars false W args.toList ds gs before) (hsz : (DataW.weightsEach Try.prog (Try.f6.params.toList ++ Rows.shapesStaySpec.plain.varTypes Try.prog) (ds ++ gs)).all (· ≤ reachBytes) = true) :
    Calls Try.prog 6 args W fun e W' => ∃ v, e = .returned v ∧ Rows.shapesStaySpec.post enc Try.prog Try.f6 false true false false W args v W' := by
  have hW' := hW
  obtain ⟨p, q, hA0, hV, rfl, hfz, hnd⟩ := hW
  have hA : DataW.TrodAll enc Try.prog W 0 (fun _ => true) true Try.f6.params.toList args.toList ds p := hA0
  rw [Try.params6] at hA hval hsz
  obtain ⟨v0, vs0, d0, ds0, p0, q0, hargs, rfl, rfl, h0, r0⟩ := trodAll_cons hA
  obtain ⟨v1, vs1, d1, ds1, p1, q1, rfl, rfl, rfl, h1, r1⟩ := trodAll_cons r0
  obtain ⟨v2, vs2, d2, ds2, p2, q2, rfl, rfl, rfl, h2, r2⟩ := trodAll_cons r1
  obtain ⟨rfl, rfl, rfl⟩ := trodAll_nil r2
  obtain rfl : args = #[v0, v1, v2] := by cases args; simp_all
  obtain ⟨rfl, rfl⟩ := trodVars_none hV
  clear hA0
  simp only [List.append_nil] at hW'
  have lt0 : ∀ x ∈ p0, x.block < W.heap.size := fun x hx => hW'.lt x (by simp [hx])
  have lt1 : ∀ x ∈ p1, x.block < W.heap.size := fun x hx => hW'.lt x (by simp [hx])
  have lt2 : ∀ x ∈ p2, x.block < W.heap.size := fun x hx => hW'.lt x (by simp [hx])
  refine (call (hval 0 22 v0 rfl rfl) h0 (hval 1 22 v1 rfl rfl) h1 (hval 2 3 v2 rfl rfl) h2 (fun n hn => by have := List.all_eq_true.1 hsz n (DataW.weights_mem_each (j := 0) (t := 22) rfl rfl n hn); simpa using this) (fun n hn => by have := List.all_eq_true.1 hsz n (DataW.weights_mem_each (j := 1) (t := 22) rfl rfl n hn); simpa using this) (fun n hn => by have := List.all_eq_true.1 hsz n (DataW.weights_mem_each (j := 2) (t := 3) rfl rfl n hn); simpa using this)).mono fun e W' ⟨he, bel⟩ => ?_
  subst he
  exact ⟨_, rfl, _, _, _, [], _, [], hW', (trodAll_cons_mk (shut_bool Try.underlying4 _) trodAll_mk0), (trodAll_cons_mk (Below.trod laidOut (by kernel_rfl) (of_decide_eq_true (by kernel_rfl)) h0 bel lt0) (trodAll_cons_mk (Below.trod laidOut (by kernel_rfl) (of_decide_eq_true (by kernel_rfl)) h1 bel lt1) (trodAll_cons_mk (Below.trod laidOut (by kernel_rfl) (of_decide_eq_true (by kernel_rfl)) h2 bel lt2) trodAll_mk0))), rfl, bel.frame _, fun h => by cases h⟩
set_option maxRecDepth 100000 in
theorem lifted (os : Os) (started : os.Started) (H : Type) (enc : TypeId × Value → H) :
    ReturnsInHanded {} Try.checked os 6 .any (Rows.shapesStaySpec.pre6 enc Try.prog Try.f6 Rows.shapesStayRow.domain false) (Rows.shapesStaySpec.post enc Try.prog Try.f6 false true false false) := by
  refine returnsInHanded_of_change_sized (C := Try.checked) own started (by kernel_rfl) Try.func6
    (ChangeSpec.witness6 (enc := enc) (C := Try.checked) false ⟨#[], #[.slice none 0 0, .slice none 0 0, .int .i64 0], []⟩ 8 (by kernel_rfl) (by kernel_rfl) (by kernel_rfl) (by kernel_rfl)) ?_
  intro W base args ds gs before hval0 hW hcnd hsz _
  exact contract H enc W base args ds gs before hval0 hW hsz
set_option maxHeartbeats 0 in
theorem over : Rows.shapesStayRow.holds Try.pinned (OpenSpec.ofChange Rows.shapesStaySpec) :=
  OpenClaim.holds_of_wide 6 Try.f6 rfl rfl rfl rfl rfl rfl rfl ⟨rfl, rfl, rfl, rfl, rfl⟩ rfl rfl rfl rfl rfl (by as_aux_lemma => kernel_rfl) Try.func6 (by as_aux_lemma => kernel_rfl)
    (of_decide_eq_true (by as_aux_lemma => kernel_rfl)) (by as_aux_lemma => unfold Func.isWrapper; first | (rw [if_pos (by decide +kernel)]; kernel_rfl) | (rw [if_neg (by decide +kernel)]; exact ⟨rfl, rfl⟩))
    (fun os started H enc _ => lifted os started H enc)
theorem proved : Rows.ShapesStaySaid :=
  over
#print axioms proved
end Go.Proofs.Ytchbgececcclgaa.shapesStay
namespace Go.Proofs.Ytchbgececcclgaa
theorem shapesStay_holds : Rows.ShapesStaySaid := shapesStay.proved
end Go.Proofs.Ytchbgececcclgaa
