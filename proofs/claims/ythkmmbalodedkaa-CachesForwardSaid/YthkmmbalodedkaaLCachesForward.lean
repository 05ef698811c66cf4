/- For every slice of entries and every slice of ints the call of CachesForward returns true, and its arguments read as before; no condition. -/
import Derived.Test.YthkmmbalodedkaaCl
import Derived.Test.YthkmmbalodedkaaRows
import Derived.ProofKit
import Derived.OpenShut
import Derived.Carry
import Derived.JoinedOf
import Derived.SizedLaws
namespace Go.Proofs.Ythkmmbalodedkaa.cachesForward
open Go.ChangeShapes Go.WideShapes Go.ChangeAt Go.RowKit Go.Deep Go
set_option linter.unusedSimpArgs false
set_option linter.unusedVariables false
set_option maxRecDepth 100000 in
set_option maxHeartbeats 8000000 in
theorem walk (w : World) (A Av : Option Addr) (m c mv cv : Nat) (L : List En) (l : List Int) (hr : Reads w w.heap.size 4 A m (ef L)) (hm : m * 32 ≤ 140737488351232) (hv : Reads w w.heap.size 1 Av mv (ints l)) (hmv : mv ≤ 140737488351232) :
    Calls Try.prog 4 #[.slice A m c, .slice Av mv cv] w fun r w' => r = .returned (.bool true) ∧ Below w.heap.size w w' := by
  have hl := reads_len hr
  have HR := Lib.hid hr
  have HV := Lib.hid hv
  have HL := Lib.hid hl
  have AL := Lib.hid alive15
  have b0 : Below w.heap.size w (w.alloc (.cells #[.slice Av mv cv] 27)) := (Below.refl _ _).alloc (Nat.le_refl _) _
  have s0 := site_new (w.alloc (.cells #[.slice Av mv cv] 27))
  have hs0 : (w.alloc (.cells #[.slice Av mv cv] 27)).heap.size = w.heap.size + 1 := by simp
  rw [hs0] at s0
  have S0 := Lib.hid (show Site w ((w.alloc (.cells #[.slice Av mv cv] 27)).alloc (.cells #[.int .i64 0, .slice none 0 0] 24)) (w.heap.size + 1) 0 none 0 0 [] from ⟨s0.blk, s0.row, b0.trans (s0.bel.mono b0.size), by omega, s0.len⟩)
  have V0 := Lib.hid ((Blk.new w 27 #[.slice Av mv cv]).alloc (.cells #[.int .i64 0, .slice none 0 0] 24))
  have hmf : ∀ (fn : Fn) (first cap : Array Value) (w : World), (Instr.makeFunc fn first cap).run Try.prog w = .ok (.func fn first cap) w := fun _ _ _ _ => rfl
  clear hr hl hv b0 s0 hs0
  go_enter Try.func4, Try.ntmps4
  go_wp2
  go_loopg [18] m (fun f i wr => ∃ (k : Nat) (st : Int) (As : Option Addr) (n cs : Nat) (S : List En), i = .int .i64 k ∧ k + f = m ∧ 0 ≤ st ∧ st ≤ 3 ∧ Unlike S ∧ Site w wr (w.heap.size + 1) st As n cs S ∧ Blk wr w.heap.size 27 #[.slice Av mv cv])
  case atStart => exact ⟨0, 0, none, 0, 0, [], rfl, by omega, by omega, by omega, List.Pairwise.nil, S0.out, V0.out⟩
  case round =>
    obtain ⟨k, st, As, n, cs, S, rfl, hf, hst0, hst3, hU, hS, hB⟩ := hrel
    have HB := Lib.hid hS.bel
    by_cases hk : k < m
    · obtain ⟨e, hx⟩ : ∃ e, L[k]? = some e := ⟨_, List.getElem?_eq_getElem (by have := HL.out; omega)⟩
      obtain ⟨b, off, hA, hbl, c0, c1, c2, c3⟩ := reads_at (HR.out.below hS.bel) hx
      subst hA
      have hk' : (k : Int) < m := by omega
      obtain ⟨f', hf'⟩ : ∃ f', gk = f' + 1 := ⟨gk - 1, by omega⟩
      have HF' := Lib.hid hf'
      have HF := Lib.hid hf
      obtain ⟨s0, s1, f0, f1⟩ := hS.two
      have v0 := hB.cell 0
      simp only [List.getElem?_toArray, List.getElem?_cons_zero] at v0
      have hlt := hS.lt
      have hlt0 : w.heap.size < wr.heap.size := by omega
      have hba : Below wr.heap.size wr (wr.alloc (.cells #[.int .i64 e.s, .int .i64 e.h, .int .i64 e.o, .int .i64 e.c] 26)) := (Below.refl _ _).alloc (Nat.le_refl _) _
      have hSA := hS.later hba
      have hBA := hB.below hba hB.lt
      have hEA : Blk (wr.alloc (.cells #[.int .i64 e.s, .int .i64 e.h, .int .i64 e.o, .int .i64 e.c] 26)) wr.heap.size 26 #[.int .i64 e.s, .int .i64 e.h, .int .i64 e.o, .int .i64 e.c] := Blk.new wr _ _
      have hRV := (HV.out.below hSA.bel).more hSA.bel.size
      have KL := learn_calls _ st As n cs S e 16 #[.pointer (some ⟨w.heap.size, 0, none⟩)] (has l) (asks16 hBA hRV hmv) hSA.rd (by have := hSA.len; omega)
      obtain ⟨st', K, hle, q1, q2, q3, q4, q5⟩ := learn_says (has l) S e hst0 hst3
      have hU' := learn_unlike (has l) st e hU
      rw [hle] at KL hU'
      obtain ⟨n1, hn1⟩ : ∃ n1, K.length = n1 := ⟨_, rfl⟩
      have KL := KL.mono fun r w' h => forward_site h hn1
      rw [hn1] at q4 q5
      have HU' := Lib.hid hU'
      have HQ5 := Lib.hid q5
      have HR2 := Lib.hid (fun (w1 : World) (A1 : Option Addr) (c1 : Nat) (ho : w1.ownsRow (wr.alloc (.cells #[.int .i64 e.s, .int .i64 e.h, .int .i64 e.o, .int .i64 e.c] 26)).heap.size 26 4 (.slice A1 n1 c1) n1 (ef K)) (hb : Below (wr.alloc (.cells #[.int .i64 e.s, .int .i64 e.h, .int .i64 e.o, .int .i64 e.c] 26)).heap.size (wr.alloc (.cells #[.int .i64 e.s, .int .i64 e.h, .int .i64 e.o, .int .i64 e.c] 26)) w1) => (show Rnd w wr (w1.alloc (.cells #[.int .i64 st', .slice A1 n1 c1] 24)) st As n cs S st' A1 n1 c1 K e Av mv cv w1.heap.size from ⟨(hSA.later hb).later (below_alloc (Below.refl _ _) _), (hBA.below hb hBA.lt).alloc _, Blk.new w1 _ _, (hEA.below hb hEA.lt).alloc _, (own_base hba.size ho).alloc _, hba.trans ((hb.trans ((below_alloc (Below.refl w1.heap.size w1 |> fun h => h) _).mono hb.size)).mono hba.size), hlt⟩))
      have D1 : decide (st' < st) = false := by simp; omega
      have D2 : decide (st' < 1) = false := by simp; omega
      have D3 : ¬ st' > 3 := by omega
      have D4 : ¬ (n1 : Int) > 4 := by omega
      have D0 : ¬ st' < st := by omega
      have D20 : ¬ st' < 1 := by omega
      obtain ⟨u, hu1, hu2⟩ := ends_same q5 hn1
      unfold siteV En.v at KL
      replace KL := Lib.hid KL
      have HS := Lib.hid hS
      clear hx hf hf' hba hSA hS hB hBA hEA hRV hle hU hU' q5 hn1
      cases u
      all_goals
        go_wp2_with (first | (go_at_call 14; (with_reducible refine KL.out.mono ?_); rintro r w1 ⟨A1, c1', rfl, ho1, hb1⟩; have R2 := HR2.out w1 A1 c1' ho1 hb1; have hl1 := lt_of_alloc hb1.size; have hl2 : w.heap.size + 1 < w1.heap.size := (by omega); have hl3 : w.heap.size < w1.heap.size := (by omega); have R3 := HR2.out w1 A1 c1' ho1 hb1; obtain ⟨⟨t0, t1, _, _⟩, t2, _, ⟨t3, t4, t5, t6, _, _, _, _⟩⟩ := RndF_old (hR := R2) hl2 hl1; replace R2 := Lib.hid R2; clear ho1 hb1 R3))
        clear c0 c1 c2 c3 s0 s1 f0 f1 v0 t0 t1 t2 t3 t4 t5 t6 D1 D2 D3 D4 D0 D20
        obtain ⟨W2, hW2⟩ : ∃ W2, w1.alloc (.cells #[.int .i64 st', .slice A1 n1 c1'] 24) = W2 := ⟨_, rfl⟩
        rw [hW2] at R2 ⊢
        obtain ⟨gt, hgt⟩ : ∃ gt, w1.heap.size = gt := ⟨_, rfl⟩
        rw [hgt] at R2 ⊢
        clear hW2 hgt hl1 hl2 hl3
        go_loopg [60] n1 (fun f i wr3 => ∃ a : Nat, i = .int .i64 a ∧ a + f = n1 ∧ Rnd w wr wr3 st As n cs S st' A1 n1 c1' K e Av mv cv gt)
        case atStart => exact ⟨0, rfl, by omega, R2.out⟩
        case round =>
          rename World => wr3
          obtain ⟨a, rfl, hfa, R3⟩ := hrel
          obtain ⟨⟨s0, s1, f0, f1⟩, v0, ⟨t0, t1, _, _⟩, x0, x1, x2, x3, _, _, _, _⟩ := R3.f
          by_cases ha : a < n1
          · obtain ⟨g', hg'⟩ : ∃ f', gk = f' + 1 := ⟨gk - 1, by omega⟩
            have HG' := Lib.hid hg'
            have HFA := Lib.hid hfa
            have ha' : (a : Int) < n1 := by omega
            obtain ⟨ea, hea⟩ : ∃ x, K[a]? = some x := ⟨_, List.getElem?_eq_getElem (by have := R3.n; omega)⟩
            obtain ⟨g, _, hA1, _⟩ := R3.row.form (by omega)
            have hA1' : A1 = some ⟨g, 0, none⟩ := by injection hA1
            subst hA1'
            have R3h := Lib.hid R3
            have HEA := Lib.hid hea
            clear hfa hg' R3 hA1 hea s0 s1 f0 f1 v0 t0 t1 x0 x1 x2 x3
            go_wp2
            go_loopg [64] a (fun f i wr4 => ∃ b' : Nat, i = .int .i64 b' ∧ b' + f = a ∧ Rnd w wr wr4 st As n cs S st' (some ⟨g, 0, none⟩) n1 c1' K e Av mv cv gt)
            case atStart => exact ⟨0, rfl, by omega, R3h.out⟩
            case round =>
              rename World => wr4
              obtain ⟨b', rfl, hfb, R4⟩ := hrel
              obtain ⟨_, _, ⟨t0, t1, _, _⟩, _⟩ := R4.f
              by_cases hb : b' < a
              · obtain ⟨h', hh'⟩ : ∃ f', gk = f' + 1 := ⟨gk - 1, by omega⟩
                have HH' := Lib.hid hh'
                have HFB := Lib.hid hfb
                have hb' : (b' : Int) < a := by omega
                have hb2 : (b' : Int) < n1 := by omega
                have ha0 : (0 : Int) ≤ a := by omega
                have hb0 : (0 : Int) ≤ b' := by omega
                obtain ⟨eb, heb⟩ : ∃ x, K[b']? = some x := ⟨_, List.getElem?_eq_getElem (by have := R4.n; omega)⟩
                have hne := unlike_at HU'.out HEA.out heb hb
                obtain ⟨c0, _, _, _, _, _, _, _⟩ := own_at R4.row HEA.out
                obtain ⟨d0, _, _, _, _, _, _, _⟩ := own_at R4.row heb
                have R4h := Lib.hid R4
                clear hfb hh' R4 heb hb
                go_wp2
                go_quiet (fail)
                go_wp2
                go_roundg h'
                case measure => have := HH'.out; omega
                case rel => exact ⟨b' + 1, by simp, by have := HH'.out; have := HFB.out; omega, R4h.out.later (below_drewN (Below.refl _ _) _)⟩
              · have hb' : ¬ (b' : Int) < a := by omega
                have R4h := Lib.hid R4
                clear R4 hfb hb t0 t1
                go_wp2
                go_roundg g'
                case measure => have := HG'.out; omega
                case rel => exact ⟨a + 1, by simp, by have := HG'.out; have := HFA.out; omega, R4h.out⟩
          · have ha' : ¬ (a : Int) < n1 := by omega
            have hRV := (HV.out.below R3.site.bel).more R3.site.bel.size
            have KF := find_calls wr3 st' e.s A1 n1 c1' K 16 #[.pointer (some ⟨w.heap.size, 0, none⟩)] (has l) (asks16 R3.v hRV hmv) R3.rd (by omega)
            have R3h := Lib.hid R3
            have hg := fun op x y xs ys w => run_guard26 op x y xs ys w
            have hneq := neq_en e e
            rw [decide_eq_true rfl] at hneq
            unfold siteV at KF
            have hlt0 := R3.site.lt
            have hlt1 := R3.t.lt
            have hlt2 := R3.e.lt
            have hlt3 := R3.v.lt
            clear R3 hfa ha hRV
            rcases HQ5.out with ⟨z1, z2⟩ | ⟨z1, z2, z3⟩
            · have hfn : fnd (fits (has l) e.s) K = none := by rw [z2]; rfl
              rw [hfn, fndV_none] at KF
              have z1b : (st' == 3) = true := by simp [z1]
              have z1c : (st' != 3) = false := by simp [z1]
              clear z1 z2 hfn
              replace KF := Lib.hid KF
              go_wp2_with (first | (go_at_call 10; (with_reducible refine KF.out.mono ?_); rintro r w4 ⟨rfl, hb4⟩; have R4 := R3h.out.later hb4; obtain ⟨⟨s0', s1', f0', f1'⟩, v0', ⟨t0', t1', _, _⟩, x0', x1', x2', x3', _, _, _, _⟩ := R4.f; have hlt4 : w.heap.size + 1 < w4.heap.size := R4.site.lt; have hlt5 : gt < w4.heap.size := R4.t.lt; have hlt6 : wr.heap.size < w4.heap.size := R4.e.lt; have hlt7 : w.heap.size < w4.heap.size := R4.v.lt; have HBe := Lib.hid hb4; have R5 := R4.later (below_alloc (Below.refl _ _) (.cells #[.int .i64 0, .int .i64 0, .int .i64 0, .int .i64 0] 26)); have R4p := Lib.hid R4; replace R4 := Lib.hid R5; clear hb4 R5))
              go_roundg f'
              case measure => have := HF'.out; omega
              case rel => exact ⟨k + 1, st', A1, n1, c1', K, by simp, by have := HF'.out; have := HF.out; omega, by omega, by omega, HU'.out, (R4p.out.put q4 HS.out).1.later (below_alloc (Below.refl _ _) _), (R4p.out.put q4 HS.out).2.alloc _⟩
            · rw [fnd_at HU'.out z3] at KF
              have z1b : (st' == 3) = false := by simp [z1]
              have z1c : (st' != 3) = true := by simp [z1]
              clear z1 z2 z3
              unfold hld at KF
              cases hec : (e.c == -1)
              · rw [hec, Bool.false_or] at KF
                obtain ⟨hv', hhv⟩ : ∃ u, has l e.c = u := ⟨_, rfl⟩
                have HHV := Lib.hid hhv
                cases hv'
                · rw [hhv, if_neg (by simp), fndV_none] at KF
                  have KI := fun w (h : Reads w w.heap.size 1 Av mv (ints l)) => in_calls' w Av mv cv l e.c h hmv
                  rw [hhv] at KI
                  replace KI := Lib.hid KI
                  clear hhv
                  replace KF := Lib.hid KF
                  go_wp2_with (first | (go_at_call 10; (with_reducible refine KF.out.mono ?_); rintro r w4 ⟨rfl, hb4⟩; have R4 := R3h.out.later hb4; obtain ⟨⟨s0', s1', f0', f1'⟩, v0', ⟨t0', t1', _, _⟩, x0', x1', x2', x3', _, _, _, _⟩ := R4.f; have hlt4 : w.heap.size + 1 < w4.heap.size := R4.site.lt; have hlt5 : gt < w4.heap.size := R4.t.lt; have hlt6 : wr.heap.size < w4.heap.size := R4.e.lt; have hlt7 : w.heap.size < w4.heap.size := R4.v.lt; have HBe := Lib.hid hb4; have R5 := R4.later (below_alloc (Below.refl _ _) (.cells #[.int .i64 0, .int .i64 0, .int .i64 0, .int .i64 0] 26)); have R4p := Lib.hid R4; replace R4 := Lib.hid R5; clear hb4 R5) | (go_at_call 9; (with_reducible refine (KI.out _ ((HV.out.below R4.out.site.bel).more R4.out.site.bel.size)).mono ?_); rintro r w5 ⟨rfl, rfl⟩))
                  go_roundg f'
                  case measure => have := HF'.out; omega
                  case rel => exact ⟨k + 1, st', A1, n1, c1', K, by simp, by have := HF'.out; have := HF.out; omega, by omega, by omega, HU'.out, (R4p.out.put q4 HS.out).1.later (below_alloc (Below.refl _ _) _), (R4p.out.put q4 HS.out).2.alloc _⟩
                · rw [hhv, if_pos rfl, fndV_some] at KF
                  have KI := fun w (h : Reads w w.heap.size 1 Av mv (ints l)) => in_calls' w Av mv cv l e.c h hmv
                  rw [hhv] at KI
                  replace KI := Lib.hid KI
                  clear hhv
                  replace KF := Lib.hid KF
                  go_wp2_with (first | (go_at_call 10; (with_reducible refine KF.out.mono ?_); rintro r w4 ⟨rfl, hb4⟩; have R4 := R3h.out.later hb4; obtain ⟨⟨s0', s1', f0', f1'⟩, v0', ⟨t0', t1', _, _⟩, x0', x1', x2', x3', _, _, _, _⟩ := R4.f; have hlt4 : w.heap.size + 1 < w4.heap.size := R4.site.lt; have hlt5 : gt < w4.heap.size := R4.t.lt; have hlt6 : wr.heap.size < w4.heap.size := R4.e.lt; have hlt7 : w.heap.size < w4.heap.size := R4.v.lt; have HBe := Lib.hid hb4; have R5 := R4.later (below_alloc (Below.refl _ _) (.cells #[.int .i64 e.s, .int .i64 e.h, .int .i64 e.o, .int .i64 e.c] 26)); have R4p := Lib.hid R4; replace R4 := Lib.hid R5; clear hb4 R5) | (go_at_call 9; (with_reducible refine (KI.out _ ((HV.out.below R4.out.site.bel).more R4.out.site.bel.size)).mono ?_); rintro r w5 ⟨rfl, rfl⟩))
                  go_roundg f'
                  case measure => have := HF'.out; omega
                  case rel => exact ⟨k + 1, st', A1, n1, c1', K, by simp, by have := HF'.out; have := HF.out; omega, by omega, by omega, HU'.out, (R4p.out.put q4 HS.out).1.later (below_alloc (Below.refl _ _) _), (R4p.out.put q4 HS.out).2.alloc _⟩
              · rw [hec, Bool.true_or, if_pos rfl, fndV_some] at KF
                replace KF := Lib.hid KF
                go_wp2_with (first | (go_at_call 10; (with_reducible refine KF.out.mono ?_); rintro r w4 ⟨rfl, hb4⟩; have R4 := R3h.out.later hb4; obtain ⟨⟨s0', s1', f0', f1'⟩, v0', ⟨t0', t1', _, _⟩, x0', x1', x2', x3', _, _, _, _⟩ := R4.f; have hlt4 : w.heap.size + 1 < w4.heap.size := R4.site.lt; have hlt5 : gt < w4.heap.size := R4.t.lt; have hlt6 : wr.heap.size < w4.heap.size := R4.e.lt; have hlt7 : w.heap.size < w4.heap.size := R4.v.lt; have HBe := Lib.hid hb4; have R5 := R4.later (below_alloc (Below.refl _ _) (.cells #[.int .i64 e.s, .int .i64 e.h, .int .i64 e.o, .int .i64 e.c] 26)); have R4p := Lib.hid R4; replace R4 := Lib.hid R5; clear hb4 R5))
                go_roundg f'
                case measure => have := HF'.out; omega
                case rel => exact ⟨k + 1, st', A1, n1, c1', K, by simp, by have := HF'.out; have := HF.out; omega, by omega, by omega, HU'.out, (R4p.out.put q4 HS.out).1.later (below_alloc (Below.refl _ _) _), (R4p.out.put q4 HS.out).2.alloc _⟩
    · have e : k = m := by omega
      clear hS hB hf
      have hk' : ¬ (k : Int) < m := by omega
      go_wp2_with (first | (go_at_call 12; refine (AL.out _).mono ?_; rintro r w1 ⟨rfl, hb1⟩))
      go_ret
      exact ⟨rfl, below_via HB.out hb1⟩
theorem call {H : Type} {enc : TypeId × Value → H} {W : World} {base : Nat} {v0 : Value} {d0 : DataW H} {p0 : List MemPlace} {v1 : Value} {d1 : DataW H} {p1 : List MemPlace}
    (o0 : Value.okWide Try.prog W .any base 22 v0) (h0 : DataW.Trod enc Try.prog W 0 (fun _ => true) true 22 v0 d0 p0) (o1 : Value.okWide Try.prog W .any base 27 v1) (h1 : DataW.Trod enc Try.prog W 0 (fun _ => true) true 27 v1 d1 p1) (z0 : ∀ n ∈ d0.weights Try.prog 22, n ≤ reachBytes) (z1 : ∀ n ∈ d1.weights Try.prog 27, n ≤ reachBytes) :
    Calls Try.prog 4 #[v0, v1] W fun e w' => e = .returned (.bool true) ∧ Below W.heap.size W w' := by
  obtain ⟨a, len, cap, rfl⟩ := okWide_slice Try.underlying22 o0
  obtain ⟨fuel, h⟩ := h0
  obtain ⟨A, n, c, L, hv, hr, hm⟩ := open_entries (x := (d0, p0)) h z0
  rw [hv]
  obtain ⟨a', len', cap', rfl⟩ := okWide_slice Try.underlying27 o1
  obtain ⟨fuel', h'⟩ := h1
  obtain ⟨A', n', c', l, hv', hr', hm'⟩ := open_intsR (x := (d1, p1)) h' z1
  rw [hv']
  exact walk W A A' n c n' c' L l hr hm hr' (by omega)
theorem own : ownKnob Try.prog.godebug = none := by kernel_rfl
theorem laidOut : laidOutB Try.prog = true := by kernel_rfl
set_option maxHeartbeats 0 in
/-- what the walk gives. -/
theorem contract (H : Type) (enc : TypeId × Value → H) (W : World) (base : Nat) (args : Array Value) (ds gs : List (DataW H)) (before : List MemPlace)
    (hval : ∀ (j : Nat) t v, Try.f4.params[j]? = some t → args[j]? = some v → Value.okWide Try.prog W .any base t v)
    (hW : DataW.Whole enc Try.prog Try.f4.params.toList Rows.cachesForwardSpec.vars false W args.toList ds gs before) (hsz : (DataW.weightsEach Try.prog (Try.f4.params.toList ++ Rows.cachesForwardSpec.plain.varTypes Try.prog) (ds ++ gs)).all (· ≤ reachBytes) = true) :
    Calls Try.prog 4 args W fun e W' => ∃ v, e = .returned v ∧ Rows.cachesForwardSpec.post enc Try.prog Try.f4 false true false false W args v W' := by
  have hW' := hW
  obtain ⟨p, q, hA0, hV, rfl, hfz, hnd⟩ := hW
  have hA : DataW.TrodAll enc Try.prog W 0 (fun _ => true) true Try.f4.params.toList args.toList ds p := hA0
  rw [Try.params4] at hA hval hsz
  obtain ⟨v0, vs0, d0, ds0, p0, q0, hargs, rfl, rfl, h0, r0⟩ := trodAll_cons hA
  obtain ⟨v1, vs1, d1, ds1, p1, q1, rfl, rfl, rfl, h1, r1⟩ := trodAll_cons r0
  obtain ⟨rfl, rfl, rfl⟩ := trodAll_nil r1
  obtain rfl : args = #[v0, v1] := by cases args; simp_all
  obtain ⟨rfl, rfl⟩ := trodVars_none hV
  clear hA0
  simp only [List.append_nil] at hW'
  have lt0 : ∀ x ∈ p0, x.block < W.heap.size := fun x hx => hW'.lt x (by simp [hx])
  have lt1 : ∀ x ∈ p1, x.block < W.heap.size := fun x hx => hW'.lt x (by simp [hx])
  refine (call (hval 0 22 v0 rfl rfl) h0 (hval 1 27 v1 rfl rfl) h1 (fun n hn => by have := List.all_eq_true.1 hsz n (DataW.weights_mem_each (j := 0) (t := 22) rfl rfl n hn); simpa using this) (fun n hn => by have := List.all_eq_true.1 hsz n (DataW.weights_mem_each (j := 1) (t := 27) rfl rfl n hn); simpa using this)).mono fun e W' ⟨he, bel⟩ => ?_
  subst he
  exact ⟨_, rfl, _, _, _, [], _, [], hW', (trodAll_cons_mk (shut_bool Try.underlying4 _) trodAll_mk0), (trodAll_cons_mk (Below.trod laidOut (by kernel_rfl) (of_decide_eq_true (by kernel_rfl)) h0 bel lt0) (trodAll_cons_mk (Below.trod laidOut (by kernel_rfl) (of_decide_eq_true (by kernel_rfl)) h1 bel lt1) trodAll_mk0)), rfl, bel.frame _, fun h => by cases h⟩
set_option maxRecDepth 100000 in
theorem lifted (os : Os) (started : os.Started) (H : Type) (enc : TypeId × Value → H) :
    ReturnsInHanded {} Try.checked os 4 .any (Rows.cachesForwardSpec.pre6 enc Try.prog Try.f4 Rows.cachesForwardRow.domain false) (Rows.cachesForwardSpec.post enc Try.prog Try.f4 false true false false) := by
  refine returnsInHanded_of_change_sized (C := Try.checked) own started (by kernel_rfl) Try.func4
    (ChangeSpec.witness6 (enc := enc) (C := Try.checked) false ⟨#[], #[.slice none 0 0, .slice none 0 0], []⟩ 8 (by kernel_rfl) (by kernel_rfl) (by kernel_rfl) (by kernel_rfl)) ?_
  intro W base args ds gs before hval0 hW hcnd hsz _
  exact contract H enc W base args ds gs before hval0 hW hsz
set_option maxHeartbeats 0 in
theorem over : Rows.cachesForwardRow.holds Try.pinned (OpenSpec.ofChange Rows.cachesForwardSpec) :=
  OpenClaim.holds_of_wide 4 Try.f4 rfl rfl rfl rfl rfl rfl rfl ⟨rfl, rfl, rfl, rfl, rfl⟩ rfl rfl rfl rfl rfl (by as_aux_lemma => kernel_rfl) Try.func4 (by as_aux_lemma => kernel_rfl)
    (of_decide_eq_true (by as_aux_lemma => kernel_rfl)) (by as_aux_lemma => unfold Func.isWrapper; first | (rw [if_pos (by decide +kernel)]; kernel_rfl) | (rw [if_neg (by decide +kernel)]; exact ⟨rfl, rfl⟩))
    (fun os started H enc _ => lifted os started H enc)
theorem proved : Rows.CachesForwardSaid :=
  over
#print axioms proved
end Go.Proofs.Ythkmmbalodedkaa.cachesForward
namespace Go.Proofs.Ythkmmbalodedkaa
theorem cachesForward_holds : Rows.CachesForwardSaid := cachesForward.proved
end Go.Proofs.Ythkmmbalodedkaa
