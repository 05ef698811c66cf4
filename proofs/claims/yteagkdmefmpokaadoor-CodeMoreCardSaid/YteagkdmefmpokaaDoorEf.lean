/- Code: may a function be? the program's own, walked. -/
import Derived.Test.YteagkdmefmpokaaDoorEe
namespace Go.Proofs.YteagkdmefmpokaaDoor
open Go.RowKit Go
set_option linter.unusedVariables false
set_option linter.unusedSimpArgs false
theorem all_drop {p : En → Bool} {C : List En} {k : Nat} {e : En} (hx : C[k]? = some e) : (C.drop k).all p = (p e && (C.drop (k + 1)).all p) := by rw [drop_at hx, List.all_cons]
theorem last_at {F : Fn} {e : En} {k : Nat} (hk : F.hd.nc - 1 = k) (hx : F.C[k]? = some e) : lastE F = ends e.s := by unfold lastE; rw [hk, hx]; rfl
theorem all_any {α : Type} (p : α → Bool) (L : List α) : L.all p = !(L.any fun t => !p t) := by
  induction L with
  | nil => rfl
  | cons x L ih => rw [List.all_cons, List.any_cons, ih]; cases p x <;> simp
theorem tail_of {F : Fn} {b : Bool} (h : lastE F = b) : tail F = (b && !(F.T.any fun t => !okH F.hd.nc t)) := by unfold tail; rw [h, all_any]
set_option maxRecDepth 100000 in
set_option maxHeartbeats 16000000 in
theorem function_rest (w : World) (A : Option Addr) (n c : Nat) (F : Fn) (hT : Tab w) (hF : F.Is w) (hw64 : ∀ e ∈ F.C, e.h ≤ 9223372036854775807 ∧ e.o ≤ 9223372036854775807 ∧ e.c ≤ 9223372036854775807) (ho : okHead F.hd = true) :
    Calls Tryd.prog 20 #[pv A n c, F.hd.v] w fun r w' => r = .returned (.bool (F.C.all (okI n F) && tail F)) ∧ Below w.heap.size w w' := by
  have HB := Lib.hid (below_box2 w A n c F.hd)
  have HF := Lib.hid (fun (W : World) (b : Below (box2 w A n c F.hd).heap.size (box2 w A n c F.hd) W) => (hF.later (below_box2 w A n c F.hd)).later b)
  have HTb := Lib.hid (fun (W : World) (b : Below (box2 w A n c F.hd).heap.size (box2 w A n c F.hd) W) => (hT.later (below_box2 w A n c F.hd)).later b)
  have HC2 := Lib.hid (fun (W : World) (b : Below (box2 w A n c F.hd).heap.size (box2 w A n c F.hd) W) => box2_cells b)
  have HRD := Lib.hid (fun (wr w' : World) (e : En) (b : Below (box2 w A n c F.hd).heap.size (box2 w A n c F.hd) wr) (b' : Below (e.al wr 38).heap.size (e.al wr 38) w') => rdS_of b b')
  have hlc := Lib.hid (reads_len hF.his.code)
  have HW := Lib.hid hw64
  have HO := Lib.hid (fun (r : Bool) => show okI n F = okI n F from rfl)
  simp only [okHead, Bool.and_eq_true, decide_eq_true_eq] at ho
  obtain ⟨h1, h2, h3, h4, h5, h6⟩ := ho
  have KX := Lib.hid (fun (W : World) => by have := within_calls W F.hd.pa (F.hd.re + 1); rw [h6] at this; exact this)
  have B0 := Lib.hid (Below.refl (box2 w A n c F.hd).heap.size (box2 w A n c F.hd))
  have hz : ((F.hd.nc : Int) == 0) = false := by simp; omega
  have d2 : decide (65536 < (F.hd.nc : Int)) = false := by simp; omega
  have d3 : decide (65536 < (F.hd.nk : Int)) = false := by simp; omega
  have d4 : decide (F.hd.re < 0) = false := by simp; omega
  have d5 : decide (400 < F.hd.re) = false := by simp; omega
  clear hF hT hw64 h6
  obtain ⟨Ac, hAc⟩ : ∃ A, F.hd.Ac = A := ⟨_, rfl⟩
  unfold Hd.v pv
  have HAc := Lib.hid hAc
  have c4 := (box2_cells (Below.refl (box2 w A n c F.hd).heap.size (box2 w A n c F.hd))).2.cell 4
  unfold box2 Hd.b at c4
  rw [hAc] at c4 ⊢
  clear hAc
  go_enter Tryd.func20, Tryd.ntmps20
  go_wp2_with (go_at_call 24; (with_reducible refine (KX.out _).mono ?_); rintro r w' ⟨rfl, rfl⟩)
  clear c4
  go_loopg [47] F.hd.nc (fun f i wr => ∃ k : Nat, i = .int .i64 k ∧ k + f = F.hd.nc ∧ F.C.all (okI n F) = (F.C.drop k).all (okI n F) ∧ Below (box2 w A n c F.hd).heap.size (box2 w A n c F.hd) wr)
  case atStart => exact ⟨0, rfl, by omega, rfl, by rw [← HAc.out]; exact B0.out⟩
  case round =>
    obtain ⟨k, rfl, hf, he, hB⟩ := hrel
    have HE := Lib.hid he
    have HBR := Lib.hid hB
    have HFF := Lib.hid hf
    by_cases hk : k < F.hd.nc
    · obtain ⟨e, hx⟩ : ∃ e, F.C[k]? = some e := ⟨_, List.getElem?_eq_getElem (by have := hlc.out; omega)⟩
      obtain ⟨b, off, hA, hbl, ⟨c0, c1, c2, c3⟩⟩ := reads_at (HF.out wr hB).his.code hx
      rw [HAc.out] at hA
      subst hA
      have hall := Lib.hid (he.trans (all_drop hx))
      have hk' : (k : Int) < F.hd.nc := by omega
      obtain ⟨f', hf'⟩ : ∃ f', gk = f' + 1 := ⟨gk - 1, by omega⟩
      have HF' := Lib.hid hf'
      have KS := shape_calls (e.al wr 38) e.s (HTb.out _ (below_via hB (below_new _ _)))
      have hmem := HW.out e (List.mem_of_getElem? hx)
      have KO := fun (W : World) (bb : Below (e.al wr 38).heap.size (e.al wr 38) W) (kind x : Int) (hl : Letter kind) (hx1 : x ≤ 9223372036854775807) (hb : kind = 110 → 0 ≤ e.o ∧ e.o < 400) => operand_calls W A n c F (HF.out W (below_via (below_via hB (below_new _ _)) bb)) e kind x hl hx1 hb
      have HS := Lib.hid (fun (w' : World) (bb : Below (e.al wr 38).heap.size (e.al wr 38) w') => HRD.out wr w' e hB bb)
      have HAL := Lib.hid (below_new wr (.cells #[.int .i64 e.s, .int .i64 e.h, .int .i64 e.o, .int .i64 e.c] 38))
      have B1 := Lib.hid (Below.refl (e.al wr 38).heap.size (e.al wr 38))
      have HI := okI_eq n F e
      clear hx hf hf' he hB
      rcases shp_ways e.s with h0 | ⟨x0, x1, x2, h0, L0, L1, L2, N0, N1, N2⟩
      · rw [h0] at KS HI
        have hse : (str []).toList.isEmpty = true := by rw [ByteArray.toList_eq]; rfl
        generalize str [] = s at *
        replace KS := Lib.hid KS
        have HN := Lib.hid h0
        replace HI := Lib.hid HI
        clear h0 KO
        go_wp2_with (go_at_call 12; (with_reducible refine KS.out.mono ?_); rintro r w' ⟨rfl, rfl⟩)
        go_quiet (fail)
        go_wp2
        go_ret
        exact ⟨ret_bool (by rw [hall.out, HI.out]; rfl), below_via HB.out (below_via HBR.out (below_drewN HAL.out _))⟩
      · have e0 : ltr [x0, x1, x2] 0 = (x0.toNat : Int) := rfl
        have e1 : ltr [x0, x1, x2] 1 = (x1.toNat : Int) := rfl
        have e2 : ltr [x0, x1, x2] 2 = (x2.toNat : Int) := rfl
        rw [h0] at KS HI
        rw [e0, e1, e2] at HI
        obtain ⟨s, hss, hse, g0, g1, g2, s0, s1, s2⟩ := shp_str x0 x1 x2
        rw [hss] at KS
        replace KS := Lib.hid KS
        have HN := Lib.hid h0
        clear h0 hss e0 e1 e2
        have i1 : (1 : Int) < s.size := by omega
        have i2 : (2 : Int) < s.size := by omega
        have KA := fun W bb => KO W bb (x0.toNat : Int) e.h L0 hmem.1 (fun h => absurd h N0)
        have KB := fun W bb => KO W bb (x1.toNat : Int) e.o L1 hmem.2.1 (fun h => absurd h N1)
        unfold Hd.v En.v pv at KA KB KO
        cases hA : opd n F e.o (x0.toNat : Int) e.h
        · simp only [hA] at KA
          rw [hA] at HI
          replace KA := Lib.hid KA
          clear hA KB KO
          have HI' := Lib.hid HI
          clear HI
          go_wp2_with (go_at_call 12; (with_reducible refine KS.out.mono ?_); rintro r w' ⟨rfl, rfl⟩)
          refine wp_region_held_drew (S := (fun W' => W'.cell? ⟨w.heap.size, 0, none⟩ = some (.slice A n c) ∧ W'.cell? ⟨w.heap.size + 1, 0, none⟩ = some (.string F.hd.nm) ∧ W'.cell? ⟨w.heap.size + 1, 1, none⟩ = some (.int .i64 F.hd.pa) ∧ W'.cell? ⟨w.heap.size + 1, 2, none⟩ = some (.int .i64 F.hd.re) ∧ W'.cell? ⟨w.heap.size + 1, 3, none⟩ = some (.bool F.hd.ge) ∧ W'.cell? ⟨w.heap.size + 1, 4, none⟩ = some (.slice F.hd.Ac F.hd.nc F.hd.cc) ∧ W'.cell? ⟨w.heap.size + 1, 5, none⟩ = some (.slice F.hd.Ak F.hd.nk F.hd.ck) ∧ W'.cell? ⟨w.heap.size + 1, 6, none⟩ = some (.slice F.hd.Ap F.hd.np F.hd.cp) ∧ W'.cell? ⟨w.heap.size + 1, 7, none⟩ = some (.slice F.hd.Ah F.hd.nh F.hd.ch) ∧ W'.cell? ⟨wr.heap.size, 0, none⟩ = some (.int .i64 e.s) ∧ W'.cell? ⟨wr.heap.size, 1, none⟩ = some (.int .i64 e.h) ∧ W'.cell? ⟨wr.heap.size, 2, none⟩ = some (.int .i64 e.o) ∧ W'.cell? ⟨wr.heap.size, 3, none⟩ = some (.int .i64 e.c) ∧ Below (e.al wr 38).heap.size (e.al wr 38) W')) (by kernel_rfl) ?_ (fun hHeld => ?_)
          · (first | exact HS.out _ B1.out.drew | exact HS.out _ (below_via (last14 (by assumption)) (by assumption)))
          refine wpAnyH_take (i := 0) (oi := ?o1) (v := ?v1) ?h1 (by kernel_rfl) (by kernel_rfl) (by kernel_rfl) ?q1 ?y1 (by assumption) ?_
          case h1 => (simp only [List.getElem?_toArray, List.getElem?_cons_succ, List.getElem?_cons_zero]; try rfl)
          case q1 => exact fun _ _ _ h => h
          case y1 => refine Or.inl ⟨by rfl, ?_⟩; (intro w hSw; (try dsimp only at hSw); go_simp; try with_reducible rfl)
          try simp only [Act.put, List.setIfInBounds_toArray, List.set_cons_zero, List.set_cons_succ]
          refine wpAnyH_take (i := 1) (oi := ?o2) (v := ?v2) ?h2 (by kernel_rfl) (by kernel_rfl) (by kernel_rfl) ?q2 ?y2 (by assumption) ?_
          case h2 => (simp only [List.getElem?_toArray, List.getElem?_cons_succ, List.getElem?_cons_zero]; try rfl)
          case q2 => exact fun _ _ _ h => h
          case y2 => refine Or.inl ⟨by rfl, ?_⟩; (intro w hSw; (try dsimp only at hSw); go_simp; try with_reducible rfl)
          try simp only [Act.put, List.setIfInBounds_toArray, List.set_cons_zero, List.set_cons_succ]
          refine wpAnyH_take (i := 2) (oi := ?o3) (v := ?v3) ?h3 (by kernel_rfl) (by kernel_rfl) (by kernel_rfl) ?q3 ?y3 (by assumption) ?_
          case h3 => (simp only [List.getElem?_toArray, List.getElem?_cons_succ, List.getElem?_cons_zero]; try rfl)
          case q3 => exact fun _ _ _ h => h
          case y3 => refine Or.inl ⟨by rfl, ?_⟩; (intro w hSw; (try dsimp only at hSw); go_simp; try with_reducible rfl)
          try simp only [Act.put, List.setIfInBounds_toArray, List.set_cons_zero, List.set_cons_succ]
          refine wpAnyH_take (i := 3) (oi := ?o4) (v := ?v4) ?h4 (by kernel_rfl) (by kernel_rfl) (by kernel_rfl) ?q4 ?y4 (by assumption) ?_
          case h4 => (simp only [List.getElem?_toArray, List.getElem?_cons_succ, List.getElem?_cons_zero]; try rfl)
          case q4 => exact fun _ _ _ h => h
          case y4 => refine Or.inl ⟨by rfl, ?_⟩; (intro w hSw; (try dsimp only at hSw); go_simp; try with_reducible rfl)
          try simp only [Act.put, List.setIfInBounds_toArray, List.set_cons_zero, List.set_cons_succ]
          refine wpAnyH_take (i := 4) (oi := ?o5) (v := ?v5) ?h5 (by kernel_rfl) (by kernel_rfl) (by kernel_rfl) ?q5 ?y5 (by assumption) ?_
          case h5 => (simp only [List.getElem?_toArray, List.getElem?_cons_succ, List.getElem?_cons_zero]; try rfl)
          case q5 => exact fun _ _ _ h => h
          case y5 => refine Or.inl ⟨by rfl, ?_⟩; (intro w hSw; (try dsimp only at hSw); go_simp; try with_reducible rfl)
          try simp only [Act.put, List.setIfInBounds_toArray, List.set_cons_zero, List.set_cons_succ]
          refine wpAnyH_take (i := 5) (oi := ?o6) (v := ?v6) ?h6 (by kernel_rfl) (by kernel_rfl) (by kernel_rfl) ?q6 ?y6 (by assumption) ?_
          case h6 => (simp only [List.getElem?_toArray, List.getElem?_cons_succ, List.getElem?_cons_zero]; try rfl)
          case q6 => exact fun _ _ _ h => h
          case y6 => refine Or.inl ⟨by rfl, ?_⟩; (intro w hSw; (try dsimp only at hSw); go_simp; try with_reducible rfl)
          try simp only [Act.put, List.setIfInBounds_toArray, List.set_cons_zero, List.set_cons_succ]
          refine wpAnyH_take (i := 6) (oi := ?o7) (v := ?v7) ?h7 (by kernel_rfl) (by kernel_rfl) (by kernel_rfl) ?q7 ?y7 (by assumption) ?_
          case h7 => (simp only [List.getElem?_toArray, List.getElem?_cons_succ, List.getElem?_cons_zero]; try rfl)
          case q7 => exact fun _ _ _ h => h
          case y7 => refine Or.inl ⟨by rfl, ?_⟩; (intro w hSw; (try dsimp only at hSw); go_simp; try with_reducible rfl)
          try simp only [Act.put, List.setIfInBounds_toArray, List.set_cons_zero, List.set_cons_succ]
          refine wpAnyH_take (i := 7) (oi := ?o8) (v := ?v8) ?h8 (by kernel_rfl) (by kernel_rfl) (by kernel_rfl) ?q8 ?y8 (by assumption) ?_
          case h8 => (simp only [List.getElem?_toArray, List.getElem?_cons_succ, List.getElem?_cons_zero]; try rfl)
          case q8 => exact fun _ _ _ h => h
          case y8 => refine Or.inl ⟨by rfl, ?_⟩; (intro w hSw; (try dsimp only at hSw); go_simp; try with_reducible rfl)
          try simp only [Act.put, List.setIfInBounds_toArray, List.set_cons_zero, List.set_cons_succ]
          refine wpAnyH_take (i := 8) (oi := ?o9) (v := ?v9) ?h9 (by kernel_rfl) (by kernel_rfl) (by kernel_rfl) ?q9 ?y9 (by assumption) ?_
          case h9 => (simp only [List.getElem?_toArray, List.getElem?_cons_succ, List.getElem?_cons_zero]; try rfl)
          case q9 => exact fun _ _ _ h => h
          case y9 => refine Or.inl ⟨by rfl, ?_⟩; (intro w hSw; (try dsimp only at hSw); go_simp; try with_reducible rfl)
          try simp only [Act.put, List.setIfInBounds_toArray, List.set_cons_zero, List.set_cons_succ]
          refine wpAnyH_take (i := 9) (oi := ?o10) (v := ?v10) ?h10 (by kernel_rfl) (by kernel_rfl) (by kernel_rfl) ?q10 ?y10 (by assumption) ?_
          case h10 => (simp only [List.getElem?_toArray, List.getElem?_cons_succ, List.getElem?_cons_zero]; try rfl)
          case q10 => exact fun _ _ _ h => h
          case y10 => refine Or.inl ⟨by rfl, ?_⟩; (intro w hSw; (try dsimp only at hSw); go_simp; try with_reducible rfl)
          try simp only [Act.put, List.setIfInBounds_toArray, List.set_cons_zero, List.set_cons_succ]
          refine wpAnyH_ready (rs := [10]) (by kernel_rfl) (by simp) ?_
          refine AllReadyH.cons (o := ?o11) ?h11 (fun K hK => ?_) AllReadyH.nil
          case h11 => (simp only [List.getElem?_toArray, List.getElem?_cons_succ, List.getElem?_cons_zero]; try rfl)
          go_simp
          go_at_call 29; (with_reducible refine (KA.out _ (last14 (by assumption))).mono ?_); rintro r w1 ⟨rfl, hb1⟩
          try go_wp2_with fail
          refine hK.out _ _ ?_ (fun hHeld => ?_)
          · (first | exact HS.out _ B1.out.drew | exact HS.out _ (below_via (last14 (by assumption)) (by assumption)))
          clear hK K
          try simp only [Act.put, List.setIfInBounds_toArray, List.set_cons_zero, List.set_cons_succ]
          refine wpAnyH_take (i := 11) (oi := ?o12) (v := ?v12) ?h12 (by kernel_rfl) (by kernel_rfl) (by kernel_rfl) ?q12 ?y12 (by assumption) ?_
          case h12 => (simp only [List.getElem?_toArray, List.getElem?_cons_succ, List.getElem?_cons_zero]; try rfl)
          case q12 => exact fun _ _ _ h => h
          case y12 => refine Or.inl ⟨by rfl, ?_⟩; (intro w hSw; (try dsimp only at hSw); go_simp; try with_reducible rfl)
          try simp only [Act.put, List.setIfInBounds_toArray, List.set_cons_zero, List.set_cons_succ]
          refine wpAnyH_take (i := 12) (oi := ?o13) (v := ?v13) ?h13 (by kernel_rfl) (by kernel_rfl) (by kernel_rfl) ?q13 ?y13 (by assumption) ?_
          case h13 => (simp only [List.getElem?_toArray, List.getElem?_cons_succ, List.getElem?_cons_zero]; try rfl)
          case q13 => exact fun _ _ _ h => h
          case y13 => refine Or.inl ⟨by rfl, ?_⟩; (intro w hSw; (try dsimp only at hSw); go_simp; try with_reducible rfl)
          try simp only [Act.put, List.setIfInBounds_toArray, List.set_cons_zero, List.set_cons_succ]
          refine wpAnyH_take (i := 13) (oi := ?o14) (v := ?v14) ?h14 (by kernel_rfl) (by kernel_rfl) (by kernel_rfl) ?q14 ?y14 (by assumption) ?_
          case h14 => (simp only [List.getElem?_toArray, List.getElem?_cons_succ, List.getElem?_cons_zero]; try rfl)
          case q14 => exact fun _ _ _ h => h
          case y14 => refine Or.inl ⟨by rfl, ?_⟩; (intro w hSw; (try dsimp only at hSw); go_simp; try with_reducible rfl)
          try simp only [Act.put, List.setIfInBounds_toArray, List.set_cons_zero, List.set_cons_succ]
          refine wpAnyH_take (i := 14) (oi := ?o15) (v := undef) ?h15 (by kernel_rfl) (by kernel_rfl) (by kernel_rfl) ?q15 ?y15 (by assumption) ?_
          case h15 => (simp only [List.getElem?_toArray, List.getElem?_cons_succ, List.getElem?_cons_zero]; try rfl)
          case q15 => exact fun _ _ _ h => h
          case y15 => exact Or.inr ⟨by rfl, rfl⟩
          try simp only [Act.put, List.setIfInBounds_toArray, List.set_cons_zero, List.set_cons_succ]
          refine wpAnyH_take (i := 15) (oi := ?o16) (v := undef) ?h16 (by kernel_rfl) (by kernel_rfl) (by kernel_rfl) ?q16 ?y16 (by assumption) ?_
          case h16 => (simp only [List.getElem?_toArray, List.getElem?_cons_succ, List.getElem?_cons_zero]; try rfl)
          case q16 => exact fun _ _ _ h => h
          case y16 => exact Or.inr ⟨by rfl, rfl⟩
          try simp only [Act.put, List.setIfInBounds_toArray, List.set_cons_zero, List.set_cons_succ]
          refine wpAnyH_take (i := 16) (oi := ?o17) (v := undef) ?h17 (by kernel_rfl) (by kernel_rfl) (by kernel_rfl) ?q17 ?y17 (by assumption) ?_
          case h17 => (simp only [List.getElem?_toArray, List.getElem?_cons_succ, List.getElem?_cons_zero]; try rfl)
          case q17 => exact fun _ _ _ h => h
          case y17 => exact Or.inr ⟨by rfl, rfl⟩
          try simp only [Act.put, List.setIfInBounds_toArray, List.set_cons_zero, List.set_cons_succ]
          refine wpAnyH_take (i := 17) (oi := ?o18) (v := undef) ?h18 (by kernel_rfl) (by kernel_rfl) (by kernel_rfl) ?q18 ?y18 (by assumption) ?_
          case h18 => (simp only [List.getElem?_toArray, List.getElem?_cons_succ, List.getElem?_cons_zero]; try rfl)
          case q18 => exact fun _ _ _ h => h
          case y18 => exact Or.inr ⟨by rfl, rfl⟩
          try simp only [Act.put, List.setIfInBounds_toArray, List.set_cons_zero, List.set_cons_succ]
          refine wpAnyH_take (i := 18) (oi := ?o19) (v := undef) ?h19 (by kernel_rfl) (by kernel_rfl) (by kernel_rfl) ?q19 ?y19 (by assumption) ?_
          case h19 => (simp only [List.getElem?_toArray, List.getElem?_cons_succ, List.getElem?_cons_zero]; try rfl)
          case q19 => exact fun _ _ _ h => h
          case y19 => exact Or.inr ⟨by rfl, rfl⟩
          try simp only [Act.put, List.setIfInBounds_toArray, List.set_cons_zero, List.set_cons_succ]
          refine wpAnyH_take (i := 19) (oi := ?o20) (v := undef) ?h20 (by kernel_rfl) (by kernel_rfl) (by kernel_rfl) ?q20 ?y20 (by assumption) ?_
          case h20 => (simp only [List.getElem?_toArray, List.getElem?_cons_succ, List.getElem?_cons_zero]; try rfl)
          case q20 => exact fun _ _ _ h => h
          case y20 => exact Or.inr ⟨by rfl, rfl⟩
          try simp only [Act.put, List.setIfInBounds_toArray, List.set_cons_zero, List.set_cons_succ]
          refine wpAnyH_take (i := 20) (oi := ?o21) (v := undef) ?h21 (by kernel_rfl) (by kernel_rfl) (by kernel_rfl) ?q21 ?y21 (by assumption) ?_
          case h21 => (simp only [List.getElem?_toArray, List.getElem?_cons_succ, List.getElem?_cons_zero]; try rfl)
          case q21 => exact fun _ _ _ h => h
          case y21 => exact Or.inr ⟨by rfl, rfl⟩
          try simp only [Act.put, List.setIfInBounds_toArray, List.set_cons_zero, List.set_cons_succ]
          refine wpAnyH_take (i := 21) (oi := ?o22) (v := undef) ?h22 (by kernel_rfl) (by kernel_rfl) (by kernel_rfl) ?q22 ?y22 (by assumption) ?_
          case h22 => (simp only [List.getElem?_toArray, List.getElem?_cons_succ, List.getElem?_cons_zero]; try rfl)
          case q22 => exact fun _ _ _ h => h
          case y22 => exact Or.inr ⟨by rfl, rfl⟩
          try simp only [Act.put, List.setIfInBounds_toArray, List.set_cons_zero, List.set_cons_succ]
          refine wpAnyH_take (i := 22) (oi := ?o23) (v := undef) ?h23 (by kernel_rfl) (by kernel_rfl) (by kernel_rfl) ?q23 ?y23 (by assumption) ?_
          case h23 => (simp only [List.getElem?_toArray, List.getElem?_cons_succ, List.getElem?_cons_zero]; try rfl)
          case q23 => exact fun _ _ _ h => h
          case y23 => exact Or.inr ⟨by rfl, rfl⟩
          try simp only [Act.put, List.setIfInBounds_toArray, List.set_cons_zero, List.set_cons_succ]
          refine wpAnyH_take (i := 23) (oi := ?o24) (v := ?v24) ?h24 (by kernel_rfl) (by kernel_rfl) (by kernel_rfl) ?q24 ?y24 (by assumption) ?_
          case h24 => (simp only [List.getElem?_toArray, List.getElem?_cons_succ, List.getElem?_cons_zero]; try rfl)
          case q24 => exact fun _ _ _ h => h
          case y24 => refine Or.inl ⟨by rfl, ?_⟩; (intro w hSw; (try dsimp only at hSw); go_simp; try with_reducible rfl)
          try simp only [Act.put, List.setIfInBounds_toArray, List.set_cons_zero, List.set_cons_succ]
          refine wpAnyH_take (i := 24) (oi := ?o25) (v := ?v25) ?h25 (by kernel_rfl) (by kernel_rfl) (by kernel_rfl) ?q25 ?y25 (by assumption) ?_
          case h25 => (simp only [List.getElem?_toArray, List.getElem?_cons_succ, List.getElem?_cons_zero]; try rfl)
          case q25 => exact fun _ _ _ h => h
          case y25 => refine Or.inl ⟨by rfl, ?_⟩; (intro w hSw; (try dsimp only at hSw); go_simp; try with_reducible rfl)
          try simp only [Act.put, List.setIfInBounds_toArray, List.set_cons_zero, List.set_cons_succ]
          refine wpAnyH_take (i := 25) (oi := ?o26) (v := undef) ?h26 (by kernel_rfl) (by kernel_rfl) (by kernel_rfl) ?q26 ?y26 (by assumption) ?_
          case h26 => (simp only [List.getElem?_toArray, List.getElem?_cons_succ, List.getElem?_cons_zero]; try rfl)
          case q26 => exact fun _ _ _ h => h
          case y26 => exact Or.inr ⟨by rfl, rfl⟩
          try simp only [Act.put, List.setIfInBounds_toArray, List.set_cons_zero, List.set_cons_succ]
          refine wpAnyH_take (i := 26) (oi := ?o27) (v := undef) ?h27 (by kernel_rfl) (by kernel_rfl) (by kernel_rfl) ?q27 ?y27 (by assumption) ?_
          case h27 => (simp only [List.getElem?_toArray, List.getElem?_cons_succ, List.getElem?_cons_zero]; try rfl)
          case q27 => exact fun _ _ _ h => h
          case y27 => exact Or.inr ⟨by rfl, rfl⟩
          try simp only [Act.put, List.setIfInBounds_toArray, List.set_cons_zero, List.set_cons_succ]
          refine wpAnyH_take (i := 27) (oi := ?o28) (v := undef) ?h28 (by kernel_rfl) (by kernel_rfl) (by kernel_rfl) ?q28 ?y28 (by assumption) ?_
          case h28 => (simp only [List.getElem?_toArray, List.getElem?_cons_succ, List.getElem?_cons_zero]; try rfl)
          case q28 => exact fun _ _ _ h => h
          case y28 => exact Or.inr ⟨by rfl, rfl⟩
          try simp only [Act.put, List.setIfInBounds_toArray, List.set_cons_zero, List.set_cons_succ]
          refine wpAnyH_take (i := 28) (oi := ?o29) (v := undef) ?h29 (by kernel_rfl) (by kernel_rfl) (by kernel_rfl) ?q29 ?y29 (by assumption) ?_
          case h29 => (simp only [List.getElem?_toArray, List.getElem?_cons_succ, List.getElem?_cons_zero]; try rfl)
          case q29 => exact fun _ _ _ h => h
          case y29 => exact Or.inr ⟨by rfl, rfl⟩
          try simp only [Act.put, List.setIfInBounds_toArray, List.set_cons_zero, List.set_cons_succ]
          refine wpAnyH_take (i := 29) (oi := ?o30) (v := undef) ?h30 (by kernel_rfl) (by kernel_rfl) (by kernel_rfl) ?q30 ?y30 (by assumption) ?_
          case h30 => (simp only [List.getElem?_toArray, List.getElem?_cons_succ, List.getElem?_cons_zero]; try rfl)
          case q30 => exact fun _ _ _ h => h
          case y30 => exact Or.inr ⟨by rfl, rfl⟩
          try simp only [Act.put, List.setIfInBounds_toArray, List.set_cons_zero, List.set_cons_succ]
          refine wpAnyH_take (i := 30) (oi := ?o31) (v := undef) ?h31 (by kernel_rfl) (by kernel_rfl) (by kernel_rfl) ?q31 ?y31 (by assumption) ?_
          case h31 => (simp only [List.getElem?_toArray, List.getElem?_cons_succ, List.getElem?_cons_zero]; try rfl)
          case q31 => exact fun _ _ _ h => h
          case y31 => exact Or.inr ⟨by rfl, rfl⟩
          try simp only [Act.put, List.setIfInBounds_toArray, List.set_cons_zero, List.set_cons_succ]
          refine wpAnyH_take (i := 31) (oi := ?o32) (v := undef) ?h32 (by kernel_rfl) (by kernel_rfl) (by kernel_rfl) ?q32 ?y32 (by assumption) ?_
          case h32 => (simp only [List.getElem?_toArray, List.getElem?_cons_succ, List.getElem?_cons_zero]; try rfl)
          case q32 => exact fun _ _ _ h => h
          case y32 => exact Or.inr ⟨by rfl, rfl⟩
          try simp only [Act.put, List.setIfInBounds_toArray, List.set_cons_zero, List.set_cons_succ]
          refine wpAnyH_take (i := 32) (oi := ?o33) (v := undef) ?h33 (by kernel_rfl) (by kernel_rfl) (by kernel_rfl) ?q33 ?y33 (by assumption) ?_
          case h33 => (simp only [List.getElem?_toArray, List.getElem?_cons_succ, List.getElem?_cons_zero]; try rfl)
          case q33 => exact fun _ _ _ h => h
          case y33 => exact Or.inr ⟨by rfl, rfl⟩
          try simp only [Act.put, List.setIfInBounds_toArray, List.set_cons_zero, List.set_cons_succ]
          refine wpAnyH_take (i := 33) (oi := ?o34) (v := undef) ?h34 (by kernel_rfl) (by kernel_rfl) (by kernel_rfl) ?q34 ?y34 (by assumption) ?_
          case h34 => (simp only [List.getElem?_toArray, List.getElem?_cons_succ, List.getElem?_cons_zero]; try rfl)
          case q34 => exact fun _ _ _ h => h
          case y34 => exact Or.inr ⟨by rfl, rfl⟩
          try simp only [Act.put, List.setIfInBounds_toArray, List.set_cons_zero, List.set_cons_succ]
          refine wpAnyH_take (i := 34) (oi := ?o35) (v := ?v35) ?h35 (by kernel_rfl) (by kernel_rfl) (by kernel_rfl) ?q35 ?y35 (by assumption) ?_
          case h35 => (simp only [List.getElem?_toArray, List.getElem?_cons_succ, List.getElem?_cons_zero]; try rfl)
          case q35 => exact fun _ _ _ h => h
          case y35 => refine Or.inl ⟨by rfl, ?_⟩; (intro w hSw; (try dsimp only at hSw); go_simp; try with_reducible rfl)
          try simp only [Act.put, List.setIfInBounds_toArray, List.set_cons_zero, List.set_cons_succ]
          refine wpAnyH_take (i := 35) (oi := ?o36) (v := ?v36) ?h36 (by kernel_rfl) (by kernel_rfl) (by kernel_rfl) ?q36 ?y36 (by assumption) ?_
          case h36 => (simp only [List.getElem?_toArray, List.getElem?_cons_succ, List.getElem?_cons_zero]; try rfl)
          case q36 => exact fun _ _ _ h => h
          case y36 => refine Or.inl ⟨by rfl, ?_⟩; (intro w hSw; (try dsimp only at hSw); go_simp; try with_reducible rfl)
          try simp only [Act.put, List.setIfInBounds_toArray, List.set_cons_zero, List.set_cons_succ]
          refine wpAnyH_take (i := 36) (oi := ?o37) (v := undef) ?h37 (by kernel_rfl) (by kernel_rfl) (by kernel_rfl) ?q37 ?y37 (by assumption) ?_
          case h37 => (simp only [List.getElem?_toArray, List.getElem?_cons_succ, List.getElem?_cons_zero]; try rfl)
          case q37 => exact fun _ _ _ h => h
          case y37 => exact Or.inr ⟨by rfl, rfl⟩
          try simp only [Act.put, List.setIfInBounds_toArray, List.set_cons_zero, List.set_cons_succ]
          refine wpAnyH_take (i := 37) (oi := ?o38) (v := undef) ?h38 (by kernel_rfl) (by kernel_rfl) (by kernel_rfl) ?q38 ?y38 (by assumption) ?_
          case h38 => (simp only [List.getElem?_toArray, List.getElem?_cons_succ, List.getElem?_cons_zero]; try rfl)
          case q38 => exact fun _ _ _ h => h
          case y38 => exact Or.inr ⟨by rfl, rfl⟩
          try simp only [Act.put, List.setIfInBounds_toArray, List.set_cons_zero, List.set_cons_succ]
          refine wpAnyH_take (i := 38) (oi := ?o39) (v := undef) ?h39 (by kernel_rfl) (by kernel_rfl) (by kernel_rfl) ?q39 ?y39 (by assumption) ?_
          case h39 => (simp only [List.getElem?_toArray, List.getElem?_cons_succ, List.getElem?_cons_zero]; try rfl)
          case q39 => exact fun _ _ _ h => h
          case y39 => exact Or.inr ⟨by rfl, rfl⟩
          try simp only [Act.put, List.setIfInBounds_toArray, List.set_cons_zero, List.set_cons_succ]
          refine wpAnyH_take (i := 39) (oi := ?o40) (v := undef) ?h40 (by kernel_rfl) (by kernel_rfl) (by kernel_rfl) ?q40 ?y40 (by assumption) ?_
          case h40 => (simp only [List.getElem?_toArray, List.getElem?_cons_succ, List.getElem?_cons_zero]; try rfl)
          case q40 => exact fun _ _ _ h => h
          case y40 => exact Or.inr ⟨by rfl, rfl⟩
          try simp only [Act.put, List.setIfInBounds_toArray, List.set_cons_zero, List.set_cons_succ]
          refine wpAnyH_take (i := 40) (oi := ?o41) (v := undef) ?h41 (by kernel_rfl) (by kernel_rfl) (by kernel_rfl) ?q41 ?y41 (by assumption) ?_
          case h41 => (simp only [List.getElem?_toArray, List.getElem?_cons_succ, List.getElem?_cons_zero]; try rfl)
          case q41 => exact fun _ _ _ h => h
          case y41 => exact Or.inr ⟨by rfl, rfl⟩
          try simp only [Act.put, List.setIfInBounds_toArray, List.set_cons_zero, List.set_cons_succ]
          refine wpAnyH_take (i := 41) (oi := ?o42) (v := undef) ?h42 (by kernel_rfl) (by kernel_rfl) (by kernel_rfl) ?q42 ?y42 (by assumption) ?_
          case h42 => (simp only [List.getElem?_toArray, List.getElem?_cons_succ, List.getElem?_cons_zero]; try rfl)
          case q42 => exact fun _ _ _ h => h
          case y42 => exact Or.inr ⟨by rfl, rfl⟩
          try simp only [Act.put, List.setIfInBounds_toArray, List.set_cons_zero, List.set_cons_succ]
          refine wpAnyH_take (i := 42) (oi := ?o43) (v := undef) ?h43 (by kernel_rfl) (by kernel_rfl) (by kernel_rfl) ?q43 ?y43 (by assumption) ?_
          case h43 => (simp only [List.getElem?_toArray, List.getElem?_cons_succ, List.getElem?_cons_zero]; try rfl)
          case q43 => exact fun _ _ _ h => h
          case y43 => exact Or.inr ⟨by rfl, rfl⟩
          try simp only [Act.put, List.setIfInBounds_toArray, List.set_cons_zero, List.set_cons_succ]
          refine wpAnyH_take (i := 43) (oi := ?o44) (v := undef) ?h44 (by kernel_rfl) (by kernel_rfl) (by kernel_rfl) ?q44 ?y44 (by assumption) ?_
          case h44 => (simp only [List.getElem?_toArray, List.getElem?_cons_succ, List.getElem?_cons_zero]; try rfl)
          case q44 => exact fun _ _ _ h => h
          case y44 => exact Or.inr ⟨by rfl, rfl⟩
          try simp only [Act.put, List.setIfInBounds_toArray, List.set_cons_zero, List.set_cons_succ]
          refine wpAnyH_take (i := 44) (oi := ?o45) (v := ?v45) ?h45 (by kernel_rfl) (by kernel_rfl) (by kernel_rfl) ?q45 ?y45 (by assumption) ?_
          case h45 => (simp only [List.getElem?_toArray, List.getElem?_cons_succ, List.getElem?_cons_zero]; try rfl)
          case q45 => exact fun _ _ _ h => h
          case y45 => refine Or.inl ⟨by rfl, ?_⟩; (intro w hSw; (try dsimp only at hSw); go_simp; try with_reducible rfl)
          try simp only [Act.put, List.setIfInBounds_toArray, List.set_cons_zero, List.set_cons_succ]
          refine wpAnyH_done (by kernel_rfl) ?_ _
          go_wp2
          go_ret
          exact ⟨ret_bool (by rw [hall.out, HI'.out]; rfl), below_via HB.out (below_via HBR.out (below_via HAL.out (last14 (by assumption))))⟩
        · simp only [hA] at KA
          rw [hA] at HI
          replace KA := Lib.hid KA
          clear hA
          cases hBo : opd n F e.o (x1.toNat : Int) e.o
          · simp only [hBo] at KB
            rw [hBo] at HI
            replace KB := Lib.hid KB
            clear hBo KO
            have HI' := Lib.hid HI
            clear HI
            go_wp2_with (go_at_call 12; (with_reducible refine KS.out.mono ?_); rintro r w' ⟨rfl, rfl⟩)
            refine wp_region_held_drew (S := (fun W' => W'.cell? ⟨w.heap.size, 0, none⟩ = some (.slice A n c) ∧ W'.cell? ⟨w.heap.size + 1, 0, none⟩ = some (.string F.hd.nm) ∧ W'.cell? ⟨w.heap.size + 1, 1, none⟩ = some (.int .i64 F.hd.pa) ∧ W'.cell? ⟨w.heap.size + 1, 2, none⟩ = some (.int .i64 F.hd.re) ∧ W'.cell? ⟨w.heap.size + 1, 3, none⟩ = some (.bool F.hd.ge) ∧ W'.cell? ⟨w.heap.size + 1, 4, none⟩ = some (.slice F.hd.Ac F.hd.nc F.hd.cc) ∧ W'.cell? ⟨w.heap.size + 1, 5, none⟩ = some (.slice F.hd.Ak F.hd.nk F.hd.ck) ∧ W'.cell? ⟨w.heap.size + 1, 6, none⟩ = some (.slice F.hd.Ap F.hd.np F.hd.cp) ∧ W'.cell? ⟨w.heap.size + 1, 7, none⟩ = some (.slice F.hd.Ah F.hd.nh F.hd.ch) ∧ W'.cell? ⟨wr.heap.size, 0, none⟩ = some (.int .i64 e.s) ∧ W'.cell? ⟨wr.heap.size, 1, none⟩ = some (.int .i64 e.h) ∧ W'.cell? ⟨wr.heap.size, 2, none⟩ = some (.int .i64 e.o) ∧ W'.cell? ⟨wr.heap.size, 3, none⟩ = some (.int .i64 e.c) ∧ Below (e.al wr 38).heap.size (e.al wr 38) W')) (by kernel_rfl) ?_ (fun hHeld => ?_)
            · (first | exact HS.out _ B1.out.drew | exact HS.out _ (below_via (last14 (by assumption)) (by assumption)))
            refine wpAnyH_take (i := 0) (oi := ?o46) (v := ?v46) ?h46 (by kernel_rfl) (by kernel_rfl) (by kernel_rfl) ?q46 ?y46 (by assumption) ?_
            case h46 => (simp only [List.getElem?_toArray, List.getElem?_cons_succ, List.getElem?_cons_zero]; try rfl)
            case q46 => exact fun _ _ _ h => h
            case y46 => refine Or.inl ⟨by rfl, ?_⟩; (intro w hSw; (try dsimp only at hSw); go_simp; try with_reducible rfl)
            try simp only [Act.put, List.setIfInBounds_toArray, List.set_cons_zero, List.set_cons_succ]
            refine wpAnyH_take (i := 1) (oi := ?o47) (v := ?v47) ?h47 (by kernel_rfl) (by kernel_rfl) (by kernel_rfl) ?q47 ?y47 (by assumption) ?_
            case h47 => (simp only [List.getElem?_toArray, List.getElem?_cons_succ, List.getElem?_cons_zero]; try rfl)
            case q47 => exact fun _ _ _ h => h
            case y47 => refine Or.inl ⟨by rfl, ?_⟩; (intro w hSw; (try dsimp only at hSw); go_simp; try with_reducible rfl)
            try simp only [Act.put, List.setIfInBounds_toArray, List.set_cons_zero, List.set_cons_succ]
            refine wpAnyH_take (i := 2) (oi := ?o48) (v := ?v48) ?h48 (by kernel_rfl) (by kernel_rfl) (by kernel_rfl) ?q48 ?y48 (by assumption) ?_
            case h48 => (simp only [List.getElem?_toArray, List.getElem?_cons_succ, List.getElem?_cons_zero]; try rfl)
            case q48 => exact fun _ _ _ h => h
            case y48 => refine Or.inl ⟨by rfl, ?_⟩; (intro w hSw; (try dsimp only at hSw); go_simp; try with_reducible rfl)
            try simp only [Act.put, List.setIfInBounds_toArray, List.set_cons_zero, List.set_cons_succ]
            refine wpAnyH_take (i := 3) (oi := ?o49) (v := ?v49) ?h49 (by kernel_rfl) (by kernel_rfl) (by kernel_rfl) ?q49 ?y49 (by assumption) ?_
            case h49 => (simp only [List.getElem?_toArray, List.getElem?_cons_succ, List.getElem?_cons_zero]; try rfl)
            case q49 => exact fun _ _ _ h => h
            case y49 => refine Or.inl ⟨by rfl, ?_⟩; (intro w hSw; (try dsimp only at hSw); go_simp; try with_reducible rfl)
            try simp only [Act.put, List.setIfInBounds_toArray, List.set_cons_zero, List.set_cons_succ]
            refine wpAnyH_take (i := 4) (oi := ?o50) (v := ?v50) ?h50 (by kernel_rfl) (by kernel_rfl) (by kernel_rfl) ?q50 ?y50 (by assumption) ?_
            case h50 => (simp only [List.getElem?_toArray, List.getElem?_cons_succ, List.getElem?_cons_zero]; try rfl)
            case q50 => exact fun _ _ _ h => h
            case y50 => refine Or.inl ⟨by rfl, ?_⟩; (intro w hSw; (try dsimp only at hSw); go_simp; try with_reducible rfl)
            try simp only [Act.put, List.setIfInBounds_toArray, List.set_cons_zero, List.set_cons_succ]
            refine wpAnyH_take (i := 5) (oi := ?o51) (v := ?v51) ?h51 (by kernel_rfl) (by kernel_rfl) (by kernel_rfl) ?q51 ?y51 (by assumption) ?_
            case h51 => (simp only [List.getElem?_toArray, List.getElem?_cons_succ, List.getElem?_cons_zero]; try rfl)
            case q51 => exact fun _ _ _ h => h
            case y51 => refine Or.inl ⟨by rfl, ?_⟩; (intro w hSw; (try dsimp only at hSw); go_simp; try with_reducible rfl)
            try simp only [Act.put, List.setIfInBounds_toArray, List.set_cons_zero, List.set_cons_succ]
            refine wpAnyH_take (i := 6) (oi := ?o52) (v := ?v52) ?h52 (by kernel_rfl) (by kernel_rfl) (by kernel_rfl) ?q52 ?y52 (by assumption) ?_
            case h52 => (simp only [List.getElem?_toArray, List.getElem?_cons_succ, List.getElem?_cons_zero]; try rfl)
            case q52 => exact fun _ _ _ h => h
            case y52 => refine Or.inl ⟨by rfl, ?_⟩; (intro w hSw; (try dsimp only at hSw); go_simp; try with_reducible rfl)
            try simp only [Act.put, List.setIfInBounds_toArray, List.set_cons_zero, List.set_cons_succ]
            refine wpAnyH_take (i := 7) (oi := ?o53) (v := ?v53) ?h53 (by kernel_rfl) (by kernel_rfl) (by kernel_rfl) ?q53 ?y53 (by assumption) ?_
            case h53 => (simp only [List.getElem?_toArray, List.getElem?_cons_succ, List.getElem?_cons_zero]; try rfl)
            case q53 => exact fun _ _ _ h => h
            case y53 => refine Or.inl ⟨by rfl, ?_⟩; (intro w hSw; (try dsimp only at hSw); go_simp; try with_reducible rfl)
            try simp only [Act.put, List.setIfInBounds_toArray, List.set_cons_zero, List.set_cons_succ]
            refine wpAnyH_take (i := 8) (oi := ?o54) (v := ?v54) ?h54 (by kernel_rfl) (by kernel_rfl) (by kernel_rfl) ?q54 ?y54 (by assumption) ?_
            case h54 => (simp only [List.getElem?_toArray, List.getElem?_cons_succ, List.getElem?_cons_zero]; try rfl)
            case q54 => exact fun _ _ _ h => h
            case y54 => refine Or.inl ⟨by rfl, ?_⟩; (intro w hSw; (try dsimp only at hSw); go_simp; try with_reducible rfl)
            try simp only [Act.put, List.setIfInBounds_toArray, List.set_cons_zero, List.set_cons_succ]
            refine wpAnyH_take (i := 9) (oi := ?o55) (v := ?v55) ?h55 (by kernel_rfl) (by kernel_rfl) (by kernel_rfl) ?q55 ?y55 (by assumption) ?_
            case h55 => (simp only [List.getElem?_toArray, List.getElem?_cons_succ, List.getElem?_cons_zero]; try rfl)
            case q55 => exact fun _ _ _ h => h
            case y55 => refine Or.inl ⟨by rfl, ?_⟩; (intro w hSw; (try dsimp only at hSw); go_simp; try with_reducible rfl)
            try simp only [Act.put, List.setIfInBounds_toArray, List.set_cons_zero, List.set_cons_succ]
            refine wpAnyH_ready (rs := [10]) (by kernel_rfl) (by simp) ?_
            refine AllReadyH.cons (o := ?o56) ?h56 (fun K hK => ?_) AllReadyH.nil
            case h56 => (simp only [List.getElem?_toArray, List.getElem?_cons_succ, List.getElem?_cons_zero]; try rfl)
            go_simp
            go_at_call 29; (with_reducible refine (KA.out _ (last14 (by assumption))).mono ?_); rintro r w1 ⟨rfl, hb1⟩
            try go_wp2_with fail
            refine hK.out _ _ ?_ (fun hHeld => ?_)
            · (first | exact HS.out _ B1.out.drew | exact HS.out _ (below_via (last14 (by assumption)) (by assumption)))
            clear hK K
            try simp only [Act.put, List.setIfInBounds_toArray, List.set_cons_zero, List.set_cons_succ]
            refine wpAnyH_take (i := 11) (oi := ?o57) (v := ?v57) ?h57 (by kernel_rfl) (by kernel_rfl) (by kernel_rfl) ?q57 ?y57 (by assumption) ?_
            case h57 => (simp only [List.getElem?_toArray, List.getElem?_cons_succ, List.getElem?_cons_zero]; try rfl)
            case q57 => exact fun _ _ _ h => h
            case y57 => refine Or.inl ⟨by rfl, ?_⟩; (intro w hSw; (try dsimp only at hSw); go_simp; try with_reducible rfl)
            try simp only [Act.put, List.setIfInBounds_toArray, List.set_cons_zero, List.set_cons_succ]
            refine wpAnyH_take (i := 12) (oi := ?o58) (v := ?v58) ?h58 (by kernel_rfl) (by kernel_rfl) (by kernel_rfl) ?q58 ?y58 (by assumption) ?_
            case h58 => (simp only [List.getElem?_toArray, List.getElem?_cons_succ, List.getElem?_cons_zero]; try rfl)
            case q58 => exact fun _ _ _ h => h
            case y58 => refine Or.inl ⟨by rfl, ?_⟩; (intro w hSw; (try dsimp only at hSw); go_simp; try with_reducible rfl)
            try simp only [Act.put, List.setIfInBounds_toArray, List.set_cons_zero, List.set_cons_succ]
            refine wpAnyH_take (i := 13) (oi := ?o59) (v := ?v59) ?h59 (by kernel_rfl) (by kernel_rfl) (by kernel_rfl) ?q59 ?y59 (by assumption) ?_
            case h59 => (simp only [List.getElem?_toArray, List.getElem?_cons_succ, List.getElem?_cons_zero]; try rfl)
            case q59 => exact fun _ _ _ h => h
            case y59 => refine Or.inl ⟨by rfl, ?_⟩; (intro w hSw; (try dsimp only at hSw); go_simp; try with_reducible rfl)
            try simp only [Act.put, List.setIfInBounds_toArray, List.set_cons_zero, List.set_cons_succ]
            refine wpAnyH_take (i := 14) (oi := ?o60) (v := ?v60) ?h60 (by kernel_rfl) (by kernel_rfl) (by kernel_rfl) ?q60 ?y60 (by assumption) ?_
            case h60 => (simp only [List.getElem?_toArray, List.getElem?_cons_succ, List.getElem?_cons_zero]; try rfl)
            case q60 => exact fun _ _ _ h => h
            case y60 => refine Or.inl ⟨by rfl, ?_⟩; (intro w hSw; (try dsimp only at hSw); go_simp; try with_reducible rfl)
            try simp only [Act.put, List.setIfInBounds_toArray, List.set_cons_zero, List.set_cons_succ]
            refine wpAnyH_take (i := 15) (oi := ?o61) (v := ?v61) ?h61 (by kernel_rfl) (by kernel_rfl) (by kernel_rfl) ?q61 ?y61 (by assumption) ?_
            case h61 => (simp only [List.getElem?_toArray, List.getElem?_cons_succ, List.getElem?_cons_zero]; try rfl)
            case q61 => exact fun _ _ _ h => h
            case y61 => refine Or.inl ⟨by rfl, ?_⟩; (intro w hSw; (try dsimp only at hSw); go_simp; try with_reducible rfl)
            try simp only [Act.put, List.setIfInBounds_toArray, List.set_cons_zero, List.set_cons_succ]
            refine wpAnyH_take (i := 16) (oi := ?o62) (v := ?v62) ?h62 (by kernel_rfl) (by kernel_rfl) (by kernel_rfl) ?q62 ?y62 (by assumption) ?_
            case h62 => (simp only [List.getElem?_toArray, List.getElem?_cons_succ, List.getElem?_cons_zero]; try rfl)
            case q62 => exact fun _ _ _ h => h
            case y62 => refine Or.inl ⟨by rfl, ?_⟩; (intro w hSw; (try dsimp only at hSw); go_simp; try with_reducible rfl)
            try simp only [Act.put, List.setIfInBounds_toArray, List.set_cons_zero, List.set_cons_succ]
            refine wpAnyH_take (i := 17) (oi := ?o63) (v := ?v63) ?h63 (by kernel_rfl) (by kernel_rfl) (by kernel_rfl) ?q63 ?y63 (by assumption) ?_
            case h63 => (simp only [List.getElem?_toArray, List.getElem?_cons_succ, List.getElem?_cons_zero]; try rfl)
            case q63 => exact fun _ _ _ h => h
            case y63 => refine Or.inl ⟨by rfl, ?_⟩; (intro w hSw; (try dsimp only at hSw); go_simp; try with_reducible rfl)
            try simp only [Act.put, List.setIfInBounds_toArray, List.set_cons_zero, List.set_cons_succ]
            refine wpAnyH_take (i := 18) (oi := ?o64) (v := ?v64) ?h64 (by kernel_rfl) (by kernel_rfl) (by kernel_rfl) ?q64 ?y64 (by assumption) ?_
            case h64 => (simp only [List.getElem?_toArray, List.getElem?_cons_succ, List.getElem?_cons_zero]; try rfl)
            case q64 => exact fun _ _ _ h => h
            case y64 => refine Or.inl ⟨by rfl, ?_⟩; (intro w hSw; (try dsimp only at hSw); go_simp; try with_reducible rfl)
            try simp only [Act.put, List.setIfInBounds_toArray, List.set_cons_zero, List.set_cons_succ]
            refine wpAnyH_take (i := 19) (oi := ?o65) (v := ?v65) ?h65 (by kernel_rfl) (by kernel_rfl) (by kernel_rfl) ?q65 ?y65 (by assumption) ?_
            case h65 => (simp only [List.getElem?_toArray, List.getElem?_cons_succ, List.getElem?_cons_zero]; try rfl)
            case q65 => exact fun _ _ _ h => h
            case y65 => refine Or.inl ⟨by rfl, ?_⟩; (intro w hSw; (try dsimp only at hSw); go_simp; try with_reducible rfl)
            try simp only [Act.put, List.setIfInBounds_toArray, List.set_cons_zero, List.set_cons_succ]
            refine wpAnyH_take (i := 20) (oi := ?o66) (v := ?v66) ?h66 (by kernel_rfl) (by kernel_rfl) (by kernel_rfl) ?q66 ?y66 (by assumption) ?_
            case h66 => (simp only [List.getElem?_toArray, List.getElem?_cons_succ, List.getElem?_cons_zero]; try rfl)
            case q66 => exact fun _ _ _ h => h
            case y66 => refine Or.inl ⟨by rfl, ?_⟩; (intro w hSw; (try dsimp only at hSw); go_simp; try with_reducible rfl)
            try simp only [Act.put, List.setIfInBounds_toArray, List.set_cons_zero, List.set_cons_succ]
            refine wpAnyH_ready (rs := [21]) (by kernel_rfl) (by simp) ?_
            refine AllReadyH.cons (o := ?o67) ?h67 (fun K hK => ?_) AllReadyH.nil
            case h67 => (simp only [List.getElem?_toArray, List.getElem?_cons_succ, List.getElem?_cons_zero]; try rfl)
            go_simp
            go_at_call 29; (with_reducible refine (KB.out _ (last14 (by assumption))).mono ?_); rintro r w2 ⟨rfl, hb2⟩
            try go_wp2_with fail
            refine hK.out _ _ ?_ (fun hHeld => ?_)
            · (first | exact HS.out _ B1.out.drew | exact HS.out _ (below_via (last14 (by assumption)) (by assumption)))
            clear hK K
            try simp only [Act.put, List.setIfInBounds_toArray, List.set_cons_zero, List.set_cons_succ]
            refine wpAnyH_take (i := 22) (oi := ?o68) (v := ?v68) ?h68 (by kernel_rfl) (by kernel_rfl) (by kernel_rfl) ?q68 ?y68 (by assumption) ?_
            case h68 => (simp only [List.getElem?_toArray, List.getElem?_cons_succ, List.getElem?_cons_zero]; try rfl)
            case q68 => exact fun _ _ _ h => h
            case y68 => refine Or.inl ⟨by rfl, ?_⟩; (intro w hSw; (try dsimp only at hSw); go_simp; try with_reducible rfl)
            try simp only [Act.put, List.setIfInBounds_toArray, List.set_cons_zero, List.set_cons_succ]
            refine wpAnyH_take (i := 23) (oi := ?o69) (v := ?v69) ?h69 (by kernel_rfl) (by kernel_rfl) (by kernel_rfl) ?q69 ?y69 (by assumption) ?_
            case h69 => (simp only [List.getElem?_toArray, List.getElem?_cons_succ, List.getElem?_cons_zero]; try rfl)
            case q69 => exact fun _ _ _ h => h
            case y69 => refine Or.inl ⟨by rfl, ?_⟩; (intro w hSw; (try dsimp only at hSw); go_simp; try with_reducible rfl)
            try simp only [Act.put, List.setIfInBounds_toArray, List.set_cons_zero, List.set_cons_succ]
            refine wpAnyH_take (i := 24) (oi := ?o70) (v := ?v70) ?h70 (by kernel_rfl) (by kernel_rfl) (by kernel_rfl) ?q70 ?y70 (by assumption) ?_
            case h70 => (simp only [List.getElem?_toArray, List.getElem?_cons_succ, List.getElem?_cons_zero]; try rfl)
            case q70 => exact fun _ _ _ h => h
            case y70 => refine Or.inl ⟨by rfl, ?_⟩; (intro w hSw; (try dsimp only at hSw); go_simp; try with_reducible rfl)
            try simp only [Act.put, List.setIfInBounds_toArray, List.set_cons_zero, List.set_cons_succ]
            refine wpAnyH_take (i := 25) (oi := ?o71) (v := undef) ?h71 (by kernel_rfl) (by kernel_rfl) (by kernel_rfl) ?q71 ?y71 (by assumption) ?_
            case h71 => (simp only [List.getElem?_toArray, List.getElem?_cons_succ, List.getElem?_cons_zero]; try rfl)
            case q71 => exact fun _ _ _ h => h
            case y71 => exact Or.inr ⟨by rfl, rfl⟩
            try simp only [Act.put, List.setIfInBounds_toArray, List.set_cons_zero, List.set_cons_succ]
            refine wpAnyH_take (i := 26) (oi := ?o72) (v := undef) ?h72 (by kernel_rfl) (by kernel_rfl) (by kernel_rfl) ?q72 ?y72 (by assumption) ?_
            case h72 => (simp only [List.getElem?_toArray, List.getElem?_cons_succ, List.getElem?_cons_zero]; try rfl)
            case q72 => exact fun _ _ _ h => h
            case y72 => exact Or.inr ⟨by rfl, rfl⟩
            try simp only [Act.put, List.setIfInBounds_toArray, List.set_cons_zero, List.set_cons_succ]
            refine wpAnyH_take (i := 27) (oi := ?o73) (v := undef) ?h73 (by kernel_rfl) (by kernel_rfl) (by kernel_rfl) ?q73 ?y73 (by assumption) ?_
            case h73 => (simp only [List.getElem?_toArray, List.getElem?_cons_succ, List.getElem?_cons_zero]; try rfl)
            case q73 => exact fun _ _ _ h => h
            case y73 => exact Or.inr ⟨by rfl, rfl⟩
            try simp only [Act.put, List.setIfInBounds_toArray, List.set_cons_zero, List.set_cons_succ]
            refine wpAnyH_take (i := 28) (oi := ?o74) (v := undef) ?h74 (by kernel_rfl) (by kernel_rfl) (by kernel_rfl) ?q74 ?y74 (by assumption) ?_
            case h74 => (simp only [List.getElem?_toArray, List.getElem?_cons_succ, List.getElem?_cons_zero]; try rfl)
            case q74 => exact fun _ _ _ h => h
            case y74 => exact Or.inr ⟨by rfl, rfl⟩
            try simp only [Act.put, List.setIfInBounds_toArray, List.set_cons_zero, List.set_cons_succ]
            refine wpAnyH_take (i := 29) (oi := ?o75) (v := undef) ?h75 (by kernel_rfl) (by kernel_rfl) (by kernel_rfl) ?q75 ?y75 (by assumption) ?_
            case h75 => (simp only [List.getElem?_toArray, List.getElem?_cons_succ, List.getElem?_cons_zero]; try rfl)
            case q75 => exact fun _ _ _ h => h
            case y75 => exact Or.inr ⟨by rfl, rfl⟩
            try simp only [Act.put, List.setIfInBounds_toArray, List.set_cons_zero, List.set_cons_succ]
            refine wpAnyH_take (i := 30) (oi := ?o76) (v := undef) ?h76 (by kernel_rfl) (by kernel_rfl) (by kernel_rfl) ?q76 ?y76 (by assumption) ?_
            case h76 => (simp only [List.getElem?_toArray, List.getElem?_cons_succ, List.getElem?_cons_zero]; try rfl)
            case q76 => exact fun _ _ _ h => h
            case y76 => exact Or.inr ⟨by rfl, rfl⟩
            try simp only [Act.put, List.setIfInBounds_toArray, List.set_cons_zero, List.set_cons_succ]
            refine wpAnyH_take (i := 31) (oi := ?o77) (v := undef) ?h77 (by kernel_rfl) (by kernel_rfl) (by kernel_rfl) ?q77 ?y77 (by assumption) ?_
            case h77 => (simp only [List.getElem?_toArray, List.getElem?_cons_succ, List.getElem?_cons_zero]; try rfl)
            case q77 => exact fun _ _ _ h => h
            case y77 => exact Or.inr ⟨by rfl, rfl⟩
            try simp only [Act.put, List.setIfInBounds_toArray, List.set_cons_zero, List.set_cons_succ]
            refine wpAnyH_take (i := 32) (oi := ?o78) (v := undef) ?h78 (by kernel_rfl) (by kernel_rfl) (by kernel_rfl) ?q78 ?y78 (by assumption) ?_
            case h78 => (simp only [List.getElem?_toArray, List.getElem?_cons_succ, List.getElem?_cons_zero]; try rfl)
            case q78 => exact fun _ _ _ h => h
            case y78 => exact Or.inr ⟨by rfl, rfl⟩
            try simp only [Act.put, List.setIfInBounds_toArray, List.set_cons_zero, List.set_cons_succ]
            refine wpAnyH_take (i := 33) (oi := ?o79) (v := undef) ?h79 (by kernel_rfl) (by kernel_rfl) (by kernel_rfl) ?q79 ?y79 (by assumption) ?_
            case h79 => (simp only [List.getElem?_toArray, List.getElem?_cons_succ, List.getElem?_cons_zero]; try rfl)
            case q79 => exact fun _ _ _ h => h
            case y79 => exact Or.inr ⟨by rfl, rfl⟩
            try simp only [Act.put, List.setIfInBounds_toArray, List.set_cons_zero, List.set_cons_succ]
            refine wpAnyH_take (i := 34) (oi := ?o80) (v := ?v80) ?h80 (by kernel_rfl) (by kernel_rfl) (by kernel_rfl) ?q80 ?y80 (by assumption) ?_
            case h80 => (simp only [List.getElem?_toArray, List.getElem?_cons_succ, List.getElem?_cons_zero]; try rfl)
            case q80 => exact fun _ _ _ h => h
            case y80 => refine Or.inl ⟨by rfl, ?_⟩; (intro w hSw; (try dsimp only at hSw); go_simp; try with_reducible rfl)
            try simp only [Act.put, List.setIfInBounds_toArray, List.set_cons_zero, List.set_cons_succ]
            refine wpAnyH_take (i := 35) (oi := ?o81) (v := ?v81) ?h81 (by kernel_rfl) (by kernel_rfl) (by kernel_rfl) ?q81 ?y81 (by assumption) ?_
            case h81 => (simp only [List.getElem?_toArray, List.getElem?_cons_succ, List.getElem?_cons_zero]; try rfl)
            case q81 => exact fun _ _ _ h => h
            case y81 => refine Or.inl ⟨by rfl, ?_⟩; (intro w hSw; (try dsimp only at hSw); go_simp; try with_reducible rfl)
            try simp only [Act.put, List.setIfInBounds_toArray, List.set_cons_zero, List.set_cons_succ]
            refine wpAnyH_take (i := 36) (oi := ?o82) (v := undef) ?h82 (by kernel_rfl) (by kernel_rfl) (by kernel_rfl) ?q82 ?y82 (by assumption) ?_
            case h82 => (simp only [List.getElem?_toArray, List.getElem?_cons_succ, List.getElem?_cons_zero]; try rfl)
            case q82 => exact fun _ _ _ h => h
            case y82 => exact Or.inr ⟨by rfl, rfl⟩
            try simp only [Act.put, List.setIfInBounds_toArray, List.set_cons_zero, List.set_cons_succ]
            refine wpAnyH_take (i := 37) (oi := ?o83) (v := undef) ?h83 (by kernel_rfl) (by kernel_rfl) (by kernel_rfl) ?q83 ?y83 (by assumption) ?_
            case h83 => (simp only [List.getElem?_toArray, List.getElem?_cons_succ, List.getElem?_cons_zero]; try rfl)
            case q83 => exact fun _ _ _ h => h
            case y83 => exact Or.inr ⟨by rfl, rfl⟩
            try simp only [Act.put, List.setIfInBounds_toArray, List.set_cons_zero, List.set_cons_succ]
            refine wpAnyH_take (i := 38) (oi := ?o84) (v := undef) ?h84 (by kernel_rfl) (by kernel_rfl) (by kernel_rfl) ?q84 ?y84 (by assumption) ?_
            case h84 => (simp only [List.getElem?_toArray, List.getElem?_cons_succ, List.getElem?_cons_zero]; try rfl)
            case q84 => exact fun _ _ _ h => h
            case y84 => exact Or.inr ⟨by rfl, rfl⟩
            try simp only [Act.put, List.setIfInBounds_toArray, List.set_cons_zero, List.set_cons_succ]
            refine wpAnyH_take (i := 39) (oi := ?o85) (v := undef) ?h85 (by kernel_rfl) (by kernel_rfl) (by kernel_rfl) ?q85 ?y85 (by assumption) ?_
            case h85 => (simp only [List.getElem?_toArray, List.getElem?_cons_succ, List.getElem?_cons_zero]; try rfl)
            case q85 => exact fun _ _ _ h => h
            case y85 => exact Or.inr ⟨by rfl, rfl⟩
            try simp only [Act.put, List.setIfInBounds_toArray, List.set_cons_zero, List.set_cons_succ]
            refine wpAnyH_take (i := 40) (oi := ?o86) (v := undef) ?h86 (by kernel_rfl) (by kernel_rfl) (by kernel_rfl) ?q86 ?y86 (by assumption) ?_
            case h86 => (simp only [List.getElem?_toArray, List.getElem?_cons_succ, List.getElem?_cons_zero]; try rfl)
            case q86 => exact fun _ _ _ h => h
            case y86 => exact Or.inr ⟨by rfl, rfl⟩
            try simp only [Act.put, List.setIfInBounds_toArray, List.set_cons_zero, List.set_cons_succ]
            refine wpAnyH_take (i := 41) (oi := ?o87) (v := undef) ?h87 (by kernel_rfl) (by kernel_rfl) (by kernel_rfl) ?q87 ?y87 (by assumption) ?_
            case h87 => (simp only [List.getElem?_toArray, List.getElem?_cons_succ, List.getElem?_cons_zero]; try rfl)
            case q87 => exact fun _ _ _ h => h
            case y87 => exact Or.inr ⟨by rfl, rfl⟩
            try simp only [Act.put, List.setIfInBounds_toArray, List.set_cons_zero, List.set_cons_succ]
            refine wpAnyH_take (i := 42) (oi := ?o88) (v := undef) ?h88 (by kernel_rfl) (by kernel_rfl) (by kernel_rfl) ?q88 ?y88 (by assumption) ?_
            case h88 => (simp only [List.getElem?_toArray, List.getElem?_cons_succ, List.getElem?_cons_zero]; try rfl)
            case q88 => exact fun _ _ _ h => h
            case y88 => exact Or.inr ⟨by rfl, rfl⟩
            try simp only [Act.put, List.setIfInBounds_toArray, List.set_cons_zero, List.set_cons_succ]
            refine wpAnyH_take (i := 43) (oi := ?o89) (v := undef) ?h89 (by kernel_rfl) (by kernel_rfl) (by kernel_rfl) ?q89 ?y89 (by assumption) ?_
            case h89 => (simp only [List.getElem?_toArray, List.getElem?_cons_succ, List.getElem?_cons_zero]; try rfl)
            case q89 => exact fun _ _ _ h => h
            case y89 => exact Or.inr ⟨by rfl, rfl⟩
            try simp only [Act.put, List.setIfInBounds_toArray, List.set_cons_zero, List.set_cons_succ]
            refine wpAnyH_take (i := 44) (oi := ?o90) (v := ?v90) ?h90 (by kernel_rfl) (by kernel_rfl) (by kernel_rfl) ?q90 ?y90 (by assumption) ?_
            case h90 => (simp only [List.getElem?_toArray, List.getElem?_cons_succ, List.getElem?_cons_zero]; try rfl)
            case q90 => exact fun _ _ _ h => h
            case y90 => refine Or.inl ⟨by rfl, ?_⟩; (intro w hSw; (try dsimp only at hSw); go_simp; try with_reducible rfl)
            try simp only [Act.put, List.setIfInBounds_toArray, List.set_cons_zero, List.set_cons_succ]
            refine wpAnyH_done (by kernel_rfl) ?_ _
            go_wp2
            go_ret
            exact ⟨ret_bool (by rw [hall.out, HI'.out]; rfl), below_via HB.out (below_via HBR.out (below_via HAL.out (last14 (by assumption))))⟩
          · have hbo : (x2.toNat : Int) = 110 → 0 ≤ e.o ∧ e.o < 400 := by
              intro h
              rw [N2 h, opd_r] at hBo
              have := within_true hBo
              omega
            have KC := fun W bb => KO W bb (x2.toNat : Int) e.c L2 hmem.2.2 hbo
            simp only [hBo] at KB
            rw [hBo] at HI
            replace KB := Lib.hid KB
            clear hBo KO hbo
            cases hCo : opd n F e.o (x2.toNat : Int) e.c
            · simp only [hCo] at KC
              rw [hCo] at HI
              replace KC := Lib.hid KC
              clear hCo
              have HI' := Lib.hid HI
              clear HI
              go_wp2_with (go_at_call 12; (with_reducible refine KS.out.mono ?_); rintro r w' ⟨rfl, rfl⟩)
              refine wp_region_held_drew (S := (fun W' => W'.cell? ⟨w.heap.size, 0, none⟩ = some (.slice A n c) ∧ W'.cell? ⟨w.heap.size + 1, 0, none⟩ = some (.string F.hd.nm) ∧ W'.cell? ⟨w.heap.size + 1, 1, none⟩ = some (.int .i64 F.hd.pa) ∧ W'.cell? ⟨w.heap.size + 1, 2, none⟩ = some (.int .i64 F.hd.re) ∧ W'.cell? ⟨w.heap.size + 1, 3, none⟩ = some (.bool F.hd.ge) ∧ W'.cell? ⟨w.heap.size + 1, 4, none⟩ = some (.slice F.hd.Ac F.hd.nc F.hd.cc) ∧ W'.cell? ⟨w.heap.size + 1, 5, none⟩ = some (.slice F.hd.Ak F.hd.nk F.hd.ck) ∧ W'.cell? ⟨w.heap.size + 1, 6, none⟩ = some (.slice F.hd.Ap F.hd.np F.hd.cp) ∧ W'.cell? ⟨w.heap.size + 1, 7, none⟩ = some (.slice F.hd.Ah F.hd.nh F.hd.ch) ∧ W'.cell? ⟨wr.heap.size, 0, none⟩ = some (.int .i64 e.s) ∧ W'.cell? ⟨wr.heap.size, 1, none⟩ = some (.int .i64 e.h) ∧ W'.cell? ⟨wr.heap.size, 2, none⟩ = some (.int .i64 e.o) ∧ W'.cell? ⟨wr.heap.size, 3, none⟩ = some (.int .i64 e.c) ∧ Below (e.al wr 38).heap.size (e.al wr 38) W')) (by kernel_rfl) ?_ (fun hHeld => ?_)
              · (first | exact HS.out _ B1.out.drew | exact HS.out _ (below_via (last14 (by assumption)) (by assumption)))
              refine wpAnyH_take (i := 0) (oi := ?o91) (v := ?v91) ?h91 (by kernel_rfl) (by kernel_rfl) (by kernel_rfl) ?q91 ?y91 (by assumption) ?_
              case h91 => (simp only [List.getElem?_toArray, List.getElem?_cons_succ, List.getElem?_cons_zero]; try rfl)
              case q91 => exact fun _ _ _ h => h
              case y91 => refine Or.inl ⟨by rfl, ?_⟩; (intro w hSw; (try dsimp only at hSw); go_simp; try with_reducible rfl)
              try simp only [Act.put, List.setIfInBounds_toArray, List.set_cons_zero, List.set_cons_succ]
              refine wpAnyH_take (i := 1) (oi := ?o92) (v := ?v92) ?h92 (by kernel_rfl) (by kernel_rfl) (by kernel_rfl) ?q92 ?y92 (by assumption) ?_
              case h92 => (simp only [List.getElem?_toArray, List.getElem?_cons_succ, List.getElem?_cons_zero]; try rfl)
              case q92 => exact fun _ _ _ h => h
              case y92 => refine Or.inl ⟨by rfl, ?_⟩; (intro w hSw; (try dsimp only at hSw); go_simp; try with_reducible rfl)
              try simp only [Act.put, List.setIfInBounds_toArray, List.set_cons_zero, List.set_cons_succ]
              refine wpAnyH_take (i := 2) (oi := ?o93) (v := ?v93) ?h93 (by kernel_rfl) (by kernel_rfl) (by kernel_rfl) ?q93 ?y93 (by assumption) ?_
              case h93 => (simp only [List.getElem?_toArray, List.getElem?_cons_succ, List.getElem?_cons_zero]; try rfl)
              case q93 => exact fun _ _ _ h => h
              case y93 => refine Or.inl ⟨by rfl, ?_⟩; (intro w hSw; (try dsimp only at hSw); go_simp; try with_reducible rfl)
              try simp only [Act.put, List.setIfInBounds_toArray, List.set_cons_zero, List.set_cons_succ]
              refine wpAnyH_take (i := 3) (oi := ?o94) (v := ?v94) ?h94 (by kernel_rfl) (by kernel_rfl) (by kernel_rfl) ?q94 ?y94 (by assumption) ?_
              case h94 => (simp only [List.getElem?_toArray, List.getElem?_cons_succ, List.getElem?_cons_zero]; try rfl)
              case q94 => exact fun _ _ _ h => h
              case y94 => refine Or.inl ⟨by rfl, ?_⟩; (intro w hSw; (try dsimp only at hSw); go_simp; try with_reducible rfl)
              try simp only [Act.put, List.setIfInBounds_toArray, List.set_cons_zero, List.set_cons_succ]
              refine wpAnyH_take (i := 4) (oi := ?o95) (v := ?v95) ?h95 (by kernel_rfl) (by kernel_rfl) (by kernel_rfl) ?q95 ?y95 (by assumption) ?_
              case h95 => (simp only [List.getElem?_toArray, List.getElem?_cons_succ, List.getElem?_cons_zero]; try rfl)
              case q95 => exact fun _ _ _ h => h
              case y95 => refine Or.inl ⟨by rfl, ?_⟩; (intro w hSw; (try dsimp only at hSw); go_simp; try with_reducible rfl)
              try simp only [Act.put, List.setIfInBounds_toArray, List.set_cons_zero, List.set_cons_succ]
              refine wpAnyH_take (i := 5) (oi := ?o96) (v := ?v96) ?h96 (by kernel_rfl) (by kernel_rfl) (by kernel_rfl) ?q96 ?y96 (by assumption) ?_
              case h96 => (simp only [List.getElem?_toArray, List.getElem?_cons_succ, List.getElem?_cons_zero]; try rfl)
              case q96 => exact fun _ _ _ h => h
              case y96 => refine Or.inl ⟨by rfl, ?_⟩; (intro w hSw; (try dsimp only at hSw); go_simp; try with_reducible rfl)
              try simp only [Act.put, List.setIfInBounds_toArray, List.set_cons_zero, List.set_cons_succ]
              refine wpAnyH_take (i := 6) (oi := ?o97) (v := ?v97) ?h97 (by kernel_rfl) (by kernel_rfl) (by kernel_rfl) ?q97 ?y97 (by assumption) ?_
              case h97 => (simp only [List.getElem?_toArray, List.getElem?_cons_succ, List.getElem?_cons_zero]; try rfl)
              case q97 => exact fun _ _ _ h => h
              case y97 => refine Or.inl ⟨by rfl, ?_⟩; (intro w hSw; (try dsimp only at hSw); go_simp; try with_reducible rfl)
              try simp only [Act.put, List.setIfInBounds_toArray, List.set_cons_zero, List.set_cons_succ]
              refine wpAnyH_take (i := 7) (oi := ?o98) (v := ?v98) ?h98 (by kernel_rfl) (by kernel_rfl) (by kernel_rfl) ?q98 ?y98 (by assumption) ?_
              case h98 => (simp only [List.getElem?_toArray, List.getElem?_cons_succ, List.getElem?_cons_zero]; try rfl)
              case q98 => exact fun _ _ _ h => h
              case y98 => refine Or.inl ⟨by rfl, ?_⟩; (intro w hSw; (try dsimp only at hSw); go_simp; try with_reducible rfl)
              try simp only [Act.put, List.setIfInBounds_toArray, List.set_cons_zero, List.set_cons_succ]
              refine wpAnyH_take (i := 8) (oi := ?o99) (v := ?v99) ?h99 (by kernel_rfl) (by kernel_rfl) (by kernel_rfl) ?q99 ?y99 (by assumption) ?_
              case h99 => (simp only [List.getElem?_toArray, List.getElem?_cons_succ, List.getElem?_cons_zero]; try rfl)
              case q99 => exact fun _ _ _ h => h
              case y99 => refine Or.inl ⟨by rfl, ?_⟩; (intro w hSw; (try dsimp only at hSw); go_simp; try with_reducible rfl)
              try simp only [Act.put, List.setIfInBounds_toArray, List.set_cons_zero, List.set_cons_succ]
              refine wpAnyH_take (i := 9) (oi := ?o100) (v := ?v100) ?h100 (by kernel_rfl) (by kernel_rfl) (by kernel_rfl) ?q100 ?y100 (by assumption) ?_
              case h100 => (simp only [List.getElem?_toArray, List.getElem?_cons_succ, List.getElem?_cons_zero]; try rfl)
              case q100 => exact fun _ _ _ h => h
              case y100 => refine Or.inl ⟨by rfl, ?_⟩; (intro w hSw; (try dsimp only at hSw); go_simp; try with_reducible rfl)
              try simp only [Act.put, List.setIfInBounds_toArray, List.set_cons_zero, List.set_cons_succ]
              refine wpAnyH_ready (rs := [10]) (by kernel_rfl) (by simp) ?_
              refine AllReadyH.cons (o := ?o101) ?h101 (fun K hK => ?_) AllReadyH.nil
              case h101 => (simp only [List.getElem?_toArray, List.getElem?_cons_succ, List.getElem?_cons_zero]; try rfl)
              go_simp
              go_at_call 29; (with_reducible refine (KA.out _ (last14 (by assumption))).mono ?_); rintro r w1 ⟨rfl, hb1⟩
              try go_wp2_with fail
              refine hK.out _ _ ?_ (fun hHeld => ?_)
              · (first | exact HS.out _ B1.out.drew | exact HS.out _ (below_via (last14 (by assumption)) (by assumption)))
              clear hK K
              try simp only [Act.put, List.setIfInBounds_toArray, List.set_cons_zero, List.set_cons_succ]
              refine wpAnyH_take (i := 11) (oi := ?o102) (v := ?v102) ?h102 (by kernel_rfl) (by kernel_rfl) (by kernel_rfl) ?q102 ?y102 (by assumption) ?_
              case h102 => (simp only [List.getElem?_toArray, List.getElem?_cons_succ, List.getElem?_cons_zero]; try rfl)
              case q102 => exact fun _ _ _ h => h
              case y102 => refine Or.inl ⟨by rfl, ?_⟩; (intro w hSw; (try dsimp only at hSw); go_simp; try with_reducible rfl)
              try simp only [Act.put, List.setIfInBounds_toArray, List.set_cons_zero, List.set_cons_succ]
              refine wpAnyH_take (i := 12) (oi := ?o103) (v := ?v103) ?h103 (by kernel_rfl) (by kernel_rfl) (by kernel_rfl) ?q103 ?y103 (by assumption) ?_
              case h103 => (simp only [List.getElem?_toArray, List.getElem?_cons_succ, List.getElem?_cons_zero]; try rfl)
              case q103 => exact fun _ _ _ h => h
              case y103 => refine Or.inl ⟨by rfl, ?_⟩; (intro w hSw; (try dsimp only at hSw); go_simp; try with_reducible rfl)
              try simp only [Act.put, List.setIfInBounds_toArray, List.set_cons_zero, List.set_cons_succ]
              refine wpAnyH_take (i := 13) (oi := ?o104) (v := ?v104) ?h104 (by kernel_rfl) (by kernel_rfl) (by kernel_rfl) ?q104 ?y104 (by assumption) ?_
              case h104 => (simp only [List.getElem?_toArray, List.getElem?_cons_succ, List.getElem?_cons_zero]; try rfl)
              case q104 => exact fun _ _ _ h => h
              case y104 => refine Or.inl ⟨by rfl, ?_⟩; (intro w hSw; (try dsimp only at hSw); go_simp; try with_reducible rfl)
              try simp only [Act.put, List.setIfInBounds_toArray, List.set_cons_zero, List.set_cons_succ]
              refine wpAnyH_take (i := 14) (oi := ?o105) (v := ?v105) ?h105 (by kernel_rfl) (by kernel_rfl) (by kernel_rfl) ?q105 ?y105 (by assumption) ?_
              case h105 => (simp only [List.getElem?_toArray, List.getElem?_cons_succ, List.getElem?_cons_zero]; try rfl)
              case q105 => exact fun _ _ _ h => h
              case y105 => refine Or.inl ⟨by rfl, ?_⟩; (intro w hSw; (try dsimp only at hSw); go_simp; try with_reducible rfl)
              try simp only [Act.put, List.setIfInBounds_toArray, List.set_cons_zero, List.set_cons_succ]
              refine wpAnyH_take (i := 15) (oi := ?o106) (v := ?v106) ?h106 (by kernel_rfl) (by kernel_rfl) (by kernel_rfl) ?q106 ?y106 (by assumption) ?_
              case h106 => (simp only [List.getElem?_toArray, List.getElem?_cons_succ, List.getElem?_cons_zero]; try rfl)
              case q106 => exact fun _ _ _ h => h
              case y106 => refine Or.inl ⟨by rfl, ?_⟩; (intro w hSw; (try dsimp only at hSw); go_simp; try with_reducible rfl)
              try simp only [Act.put, List.setIfInBounds_toArray, List.set_cons_zero, List.set_cons_succ]
              refine wpAnyH_take (i := 16) (oi := ?o107) (v := ?v107) ?h107 (by kernel_rfl) (by kernel_rfl) (by kernel_rfl) ?q107 ?y107 (by assumption) ?_
              case h107 => (simp only [List.getElem?_toArray, List.getElem?_cons_succ, List.getElem?_cons_zero]; try rfl)
              case q107 => exact fun _ _ _ h => h
              case y107 => refine Or.inl ⟨by rfl, ?_⟩; (intro w hSw; (try dsimp only at hSw); go_simp; try with_reducible rfl)
              try simp only [Act.put, List.setIfInBounds_toArray, List.set_cons_zero, List.set_cons_succ]
              refine wpAnyH_take (i := 17) (oi := ?o108) (v := ?v108) ?h108 (by kernel_rfl) (by kernel_rfl) (by kernel_rfl) ?q108 ?y108 (by assumption) ?_
              case h108 => (simp only [List.getElem?_toArray, List.getElem?_cons_succ, List.getElem?_cons_zero]; try rfl)
              case q108 => exact fun _ _ _ h => h
              case y108 => refine Or.inl ⟨by rfl, ?_⟩; (intro w hSw; (try dsimp only at hSw); go_simp; try with_reducible rfl)
              try simp only [Act.put, List.setIfInBounds_toArray, List.set_cons_zero, List.set_cons_succ]
              refine wpAnyH_take (i := 18) (oi := ?o109) (v := ?v109) ?h109 (by kernel_rfl) (by kernel_rfl) (by kernel_rfl) ?q109 ?y109 (by assumption) ?_
              case h109 => (simp only [List.getElem?_toArray, List.getElem?_cons_succ, List.getElem?_cons_zero]; try rfl)
              case q109 => exact fun _ _ _ h => h
              case y109 => refine Or.inl ⟨by rfl, ?_⟩; (intro w hSw; (try dsimp only at hSw); go_simp; try with_reducible rfl)
              try simp only [Act.put, List.setIfInBounds_toArray, List.set_cons_zero, List.set_cons_succ]
              refine wpAnyH_take (i := 19) (oi := ?o110) (v := ?v110) ?h110 (by kernel_rfl) (by kernel_rfl) (by kernel_rfl) ?q110 ?y110 (by assumption) ?_
              case h110 => (simp only [List.getElem?_toArray, List.getElem?_cons_succ, List.getElem?_cons_zero]; try rfl)
              case q110 => exact fun _ _ _ h => h
              case y110 => refine Or.inl ⟨by rfl, ?_⟩; (intro w hSw; (try dsimp only at hSw); go_simp; try with_reducible rfl)
              try simp only [Act.put, List.setIfInBounds_toArray, List.set_cons_zero, List.set_cons_succ]
              refine wpAnyH_take (i := 20) (oi := ?o111) (v := ?v111) ?h111 (by kernel_rfl) (by kernel_rfl) (by kernel_rfl) ?q111 ?y111 (by assumption) ?_
              case h111 => (simp only [List.getElem?_toArray, List.getElem?_cons_succ, List.getElem?_cons_zero]; try rfl)
              case q111 => exact fun _ _ _ h => h
              case y111 => refine Or.inl ⟨by rfl, ?_⟩; (intro w hSw; (try dsimp only at hSw); go_simp; try with_reducible rfl)
              try simp only [Act.put, List.setIfInBounds_toArray, List.set_cons_zero, List.set_cons_succ]
              refine wpAnyH_ready (rs := [21]) (by kernel_rfl) (by simp) ?_
              refine AllReadyH.cons (o := ?o112) ?h112 (fun K hK => ?_) AllReadyH.nil
              case h112 => (simp only [List.getElem?_toArray, List.getElem?_cons_succ, List.getElem?_cons_zero]; try rfl)
              go_simp
              go_at_call 29; (with_reducible refine (KB.out _ (last14 (by assumption))).mono ?_); rintro r w2 ⟨rfl, hb2⟩
              try go_wp2_with fail
              refine hK.out _ _ ?_ (fun hHeld => ?_)
              · (first | exact HS.out _ B1.out.drew | exact HS.out _ (below_via (last14 (by assumption)) (by assumption)))
              clear hK K
              try simp only [Act.put, List.setIfInBounds_toArray, List.set_cons_zero, List.set_cons_succ]
              refine wpAnyH_take (i := 22) (oi := ?o113) (v := ?v113) ?h113 (by kernel_rfl) (by kernel_rfl) (by kernel_rfl) ?q113 ?y113 (by assumption) ?_
              case h113 => (simp only [List.getElem?_toArray, List.getElem?_cons_succ, List.getElem?_cons_zero]; try rfl)
              case q113 => exact fun _ _ _ h => h
              case y113 => refine Or.inl ⟨by rfl, ?_⟩; (intro w hSw; (try dsimp only at hSw); go_simp; try with_reducible rfl)
              try simp only [Act.put, List.setIfInBounds_toArray, List.set_cons_zero, List.set_cons_succ]
              refine wpAnyH_take (i := 23) (oi := ?o114) (v := ?v114) ?h114 (by kernel_rfl) (by kernel_rfl) (by kernel_rfl) ?q114 ?y114 (by assumption) ?_
              case h114 => (simp only [List.getElem?_toArray, List.getElem?_cons_succ, List.getElem?_cons_zero]; try rfl)
              case q114 => exact fun _ _ _ h => h
              case y114 => refine Or.inl ⟨by rfl, ?_⟩; (intro w hSw; (try dsimp only at hSw); go_simp; try with_reducible rfl)
              try simp only [Act.put, List.setIfInBounds_toArray, List.set_cons_zero, List.set_cons_succ]
              refine wpAnyH_take (i := 24) (oi := ?o115) (v := ?v115) ?h115 (by kernel_rfl) (by kernel_rfl) (by kernel_rfl) ?q115 ?y115 (by assumption) ?_
              case h115 => (simp only [List.getElem?_toArray, List.getElem?_cons_succ, List.getElem?_cons_zero]; try rfl)
              case q115 => exact fun _ _ _ h => h
              case y115 => refine Or.inl ⟨by rfl, ?_⟩; (intro w hSw; (try dsimp only at hSw); go_simp; try with_reducible rfl)
              try simp only [Act.put, List.setIfInBounds_toArray, List.set_cons_zero, List.set_cons_succ]
              refine wpAnyH_take (i := 25) (oi := ?o116) (v := ?v116) ?h116 (by kernel_rfl) (by kernel_rfl) (by kernel_rfl) ?q116 ?y116 (by assumption) ?_
              case h116 => (simp only [List.getElem?_toArray, List.getElem?_cons_succ, List.getElem?_cons_zero]; try rfl)
              case q116 => exact fun _ _ _ h => h
              case y116 => refine Or.inl ⟨by rfl, ?_⟩; (intro w hSw; (try dsimp only at hSw); go_simp; try with_reducible rfl)
              try simp only [Act.put, List.setIfInBounds_toArray, List.set_cons_zero, List.set_cons_succ]
              refine wpAnyH_take (i := 26) (oi := ?o117) (v := ?v117) ?h117 (by kernel_rfl) (by kernel_rfl) (by kernel_rfl) ?q117 ?y117 (by assumption) ?_
              case h117 => (simp only [List.getElem?_toArray, List.getElem?_cons_succ, List.getElem?_cons_zero]; try rfl)
              case q117 => exact fun _ _ _ h => h
              case y117 => refine Or.inl ⟨by rfl, ?_⟩; (intro w hSw; (try dsimp only at hSw); go_simp; try with_reducible rfl)
              try simp only [Act.put, List.setIfInBounds_toArray, List.set_cons_zero, List.set_cons_succ]
              refine wpAnyH_take (i := 27) (oi := ?o118) (v := ?v118) ?h118 (by kernel_rfl) (by kernel_rfl) (by kernel_rfl) ?q118 ?y118 (by assumption) ?_
              case h118 => (simp only [List.getElem?_toArray, List.getElem?_cons_succ, List.getElem?_cons_zero]; try rfl)
              case q118 => exact fun _ _ _ h => h
              case y118 => refine Or.inl ⟨by rfl, ?_⟩; (intro w hSw; (try dsimp only at hSw); go_simp; try with_reducible rfl)
              try simp only [Act.put, List.setIfInBounds_toArray, List.set_cons_zero, List.set_cons_succ]
              refine wpAnyH_take (i := 28) (oi := ?o119) (v := ?v119) ?h119 (by kernel_rfl) (by kernel_rfl) (by kernel_rfl) ?q119 ?y119 (by assumption) ?_
              case h119 => (simp only [List.getElem?_toArray, List.getElem?_cons_succ, List.getElem?_cons_zero]; try rfl)
              case q119 => exact fun _ _ _ h => h
              case y119 => refine Or.inl ⟨by rfl, ?_⟩; (intro w hSw; (try dsimp only at hSw); go_simp; try with_reducible rfl)
              try simp only [Act.put, List.setIfInBounds_toArray, List.set_cons_zero, List.set_cons_succ]
              refine wpAnyH_take (i := 29) (oi := ?o120) (v := ?v120) ?h120 (by kernel_rfl) (by kernel_rfl) (by kernel_rfl) ?q120 ?y120 (by assumption) ?_
              case h120 => (simp only [List.getElem?_toArray, List.getElem?_cons_succ, List.getElem?_cons_zero]; try rfl)
              case q120 => exact fun _ _ _ h => h
              case y120 => refine Or.inl ⟨by rfl, ?_⟩; (intro w hSw; (try dsimp only at hSw); go_simp; try with_reducible rfl)
              try simp only [Act.put, List.setIfInBounds_toArray, List.set_cons_zero, List.set_cons_succ]
              refine wpAnyH_take (i := 30) (oi := ?o121) (v := ?v121) ?h121 (by kernel_rfl) (by kernel_rfl) (by kernel_rfl) ?q121 ?y121 (by assumption) ?_
              case h121 => (simp only [List.getElem?_toArray, List.getElem?_cons_succ, List.getElem?_cons_zero]; try rfl)
              case q121 => exact fun _ _ _ h => h
              case y121 => refine Or.inl ⟨by rfl, ?_⟩; (intro w hSw; (try dsimp only at hSw); go_simp; try with_reducible rfl)
              try simp only [Act.put, List.setIfInBounds_toArray, List.set_cons_zero, List.set_cons_succ]
              refine wpAnyH_take (i := 31) (oi := ?o122) (v := ?v122) ?h122 (by kernel_rfl) (by kernel_rfl) (by kernel_rfl) ?q122 ?y122 (by assumption) ?_
              case h122 => (simp only [List.getElem?_toArray, List.getElem?_cons_succ, List.getElem?_cons_zero]; try rfl)
              case q122 => exact fun _ _ _ h => h
              case y122 => refine Or.inl ⟨by rfl, ?_⟩; (intro w hSw; (try dsimp only at hSw); go_simp; try with_reducible rfl)
              try simp only [Act.put, List.setIfInBounds_toArray, List.set_cons_zero, List.set_cons_succ]
              refine wpAnyH_ready (rs := [32]) (by kernel_rfl) (by simp) ?_
              refine AllReadyH.cons (o := ?o123) ?h123 (fun K hK => ?_) AllReadyH.nil
              case h123 => (simp only [List.getElem?_toArray, List.getElem?_cons_succ, List.getElem?_cons_zero]; try rfl)
              go_simp
              go_at_call 29; (with_reducible refine (KC.out _ (last14 (by assumption))).mono ?_); rintro r w3 ⟨rfl, hb3⟩
              try go_wp2_with fail
              refine hK.out _ _ ?_ (fun hHeld => ?_)
              · (first | exact HS.out _ B1.out.drew | exact HS.out _ (below_via (last14 (by assumption)) (by assumption)))
              clear hK K
              try simp only [Act.put, List.setIfInBounds_toArray, List.set_cons_zero, List.set_cons_succ]
              refine wpAnyH_take (i := 33) (oi := ?o124) (v := ?v124) ?h124 (by kernel_rfl) (by kernel_rfl) (by kernel_rfl) ?q124 ?y124 (by assumption) ?_
              case h124 => (simp only [List.getElem?_toArray, List.getElem?_cons_succ, List.getElem?_cons_zero]; try rfl)
              case q124 => exact fun _ _ _ h => h
              case y124 => refine Or.inl ⟨by rfl, ?_⟩; (intro w hSw; (try dsimp only at hSw); go_simp; try with_reducible rfl)
              try simp only [Act.put, List.setIfInBounds_toArray, List.set_cons_zero, List.set_cons_succ]
              refine wpAnyH_take (i := 34) (oi := ?o125) (v := ?v125) ?h125 (by kernel_rfl) (by kernel_rfl) (by kernel_rfl) ?q125 ?y125 (by assumption) ?_
              case h125 => (simp only [List.getElem?_toArray, List.getElem?_cons_succ, List.getElem?_cons_zero]; try rfl)
              case q125 => exact fun _ _ _ h => h
              case y125 => refine Or.inl ⟨by rfl, ?_⟩; (intro w hSw; (try dsimp only at hSw); go_simp; try with_reducible rfl)
              try simp only [Act.put, List.setIfInBounds_toArray, List.set_cons_zero, List.set_cons_succ]
              refine wpAnyH_take (i := 35) (oi := ?o126) (v := ?v126) ?h126 (by kernel_rfl) (by kernel_rfl) (by kernel_rfl) ?q126 ?y126 (by assumption) ?_
              case h126 => (simp only [List.getElem?_toArray, List.getElem?_cons_succ, List.getElem?_cons_zero]; try rfl)
              case q126 => exact fun _ _ _ h => h
              case y126 => refine Or.inl ⟨by rfl, ?_⟩; (intro w hSw; (try dsimp only at hSw); go_simp; try with_reducible rfl)
              try simp only [Act.put, List.setIfInBounds_toArray, List.set_cons_zero, List.set_cons_succ]
              refine wpAnyH_take (i := 36) (oi := ?o127) (v := undef) ?h127 (by kernel_rfl) (by kernel_rfl) (by kernel_rfl) ?q127 ?y127 (by assumption) ?_
              case h127 => (simp only [List.getElem?_toArray, List.getElem?_cons_succ, List.getElem?_cons_zero]; try rfl)
              case q127 => exact fun _ _ _ h => h
              case y127 => exact Or.inr ⟨by rfl, rfl⟩
              try simp only [Act.put, List.setIfInBounds_toArray, List.set_cons_zero, List.set_cons_succ]
              refine wpAnyH_take (i := 37) (oi := ?o128) (v := undef) ?h128 (by kernel_rfl) (by kernel_rfl) (by kernel_rfl) ?q128 ?y128 (by assumption) ?_
              case h128 => (simp only [List.getElem?_toArray, List.getElem?_cons_succ, List.getElem?_cons_zero]; try rfl)
              case q128 => exact fun _ _ _ h => h
              case y128 => exact Or.inr ⟨by rfl, rfl⟩
              try simp only [Act.put, List.setIfInBounds_toArray, List.set_cons_zero, List.set_cons_succ]
              refine wpAnyH_take (i := 38) (oi := ?o129) (v := undef) ?h129 (by kernel_rfl) (by kernel_rfl) (by kernel_rfl) ?q129 ?y129 (by assumption) ?_
              case h129 => (simp only [List.getElem?_toArray, List.getElem?_cons_succ, List.getElem?_cons_zero]; try rfl)
              case q129 => exact fun _ _ _ h => h
              case y129 => exact Or.inr ⟨by rfl, rfl⟩
              try simp only [Act.put, List.setIfInBounds_toArray, List.set_cons_zero, List.set_cons_succ]
              refine wpAnyH_take (i := 39) (oi := ?o130) (v := undef) ?h130 (by kernel_rfl) (by kernel_rfl) (by kernel_rfl) ?q130 ?y130 (by assumption) ?_
              case h130 => (simp only [List.getElem?_toArray, List.getElem?_cons_succ, List.getElem?_cons_zero]; try rfl)
              case q130 => exact fun _ _ _ h => h
              case y130 => exact Or.inr ⟨by rfl, rfl⟩
              try simp only [Act.put, List.setIfInBounds_toArray, List.set_cons_zero, List.set_cons_succ]
              refine wpAnyH_take (i := 40) (oi := ?o131) (v := undef) ?h131 (by kernel_rfl) (by kernel_rfl) (by kernel_rfl) ?q131 ?y131 (by assumption) ?_
              case h131 => (simp only [List.getElem?_toArray, List.getElem?_cons_succ, List.getElem?_cons_zero]; try rfl)
              case q131 => exact fun _ _ _ h => h
              case y131 => exact Or.inr ⟨by rfl, rfl⟩
              try simp only [Act.put, List.setIfInBounds_toArray, List.set_cons_zero, List.set_cons_succ]
              refine wpAnyH_take (i := 41) (oi := ?o132) (v := undef) ?h132 (by kernel_rfl) (by kernel_rfl) (by kernel_rfl) ?q132 ?y132 (by assumption) ?_
              case h132 => (simp only [List.getElem?_toArray, List.getElem?_cons_succ, List.getElem?_cons_zero]; try rfl)
              case q132 => exact fun _ _ _ h => h
              case y132 => exact Or.inr ⟨by rfl, rfl⟩
              try simp only [Act.put, List.setIfInBounds_toArray, List.set_cons_zero, List.set_cons_succ]
              refine wpAnyH_take (i := 42) (oi := ?o133) (v := undef) ?h133 (by kernel_rfl) (by kernel_rfl) (by kernel_rfl) ?q133 ?y133 (by assumption) ?_
              case h133 => (simp only [List.getElem?_toArray, List.getElem?_cons_succ, List.getElem?_cons_zero]; try rfl)
              case q133 => exact fun _ _ _ h => h
              case y133 => exact Or.inr ⟨by rfl, rfl⟩
              try simp only [Act.put, List.setIfInBounds_toArray, List.set_cons_zero, List.set_cons_succ]
              refine wpAnyH_take (i := 43) (oi := ?o134) (v := undef) ?h134 (by kernel_rfl) (by kernel_rfl) (by kernel_rfl) ?q134 ?y134 (by assumption) ?_
              case h134 => (simp only [List.getElem?_toArray, List.getElem?_cons_succ, List.getElem?_cons_zero]; try rfl)
              case q134 => exact fun _ _ _ h => h
              case y134 => exact Or.inr ⟨by rfl, rfl⟩
              try simp only [Act.put, List.setIfInBounds_toArray, List.set_cons_zero, List.set_cons_succ]
              refine wpAnyH_take (i := 44) (oi := ?o135) (v := ?v135) ?h135 (by kernel_rfl) (by kernel_rfl) (by kernel_rfl) ?q135 ?y135 (by assumption) ?_
              case h135 => (simp only [List.getElem?_toArray, List.getElem?_cons_succ, List.getElem?_cons_zero]; try rfl)
              case q135 => exact fun _ _ _ h => h
              case y135 => refine Or.inl ⟨by rfl, ?_⟩; (intro w hSw; (try dsimp only at hSw); go_simp; try with_reducible rfl)
              try simp only [Act.put, List.setIfInBounds_toArray, List.set_cons_zero, List.set_cons_succ]
              refine wpAnyH_done (by kernel_rfl) ?_ _
              go_wp2
              go_ret
              exact ⟨ret_bool (by rw [hall.out, HI'.out]; rfl), below_via HB.out (below_via HBR.out (below_via HAL.out (last14 (by assumption))))⟩
            · simp only [hCo] at KC
              rw [hCo] at HI
              replace KC := Lib.hid KC
              clear hCo
              obtain ⟨y, hy⟩ : ∃ y, (e.s == 60) = y := ⟨_, rfl⟩
              rw [hy] at HI
              have HI' := Lib.hid HI
              clear HI
              go_wp2_with (go_at_call 12; (with_reducible refine KS.out.mono ?_); rintro r w' ⟨rfl, rfl⟩)
              refine wp_region_held_drew (S := (fun W' => W'.cell? ⟨w.heap.size, 0, none⟩ = some (.slice A n c) ∧ W'.cell? ⟨w.heap.size + 1, 0, none⟩ = some (.string F.hd.nm) ∧ W'.cell? ⟨w.heap.size + 1, 1, none⟩ = some (.int .i64 F.hd.pa) ∧ W'.cell? ⟨w.heap.size + 1, 2, none⟩ = some (.int .i64 F.hd.re) ∧ W'.cell? ⟨w.heap.size + 1, 3, none⟩ = some (.bool F.hd.ge) ∧ W'.cell? ⟨w.heap.size + 1, 4, none⟩ = some (.slice F.hd.Ac F.hd.nc F.hd.cc) ∧ W'.cell? ⟨w.heap.size + 1, 5, none⟩ = some (.slice F.hd.Ak F.hd.nk F.hd.ck) ∧ W'.cell? ⟨w.heap.size + 1, 6, none⟩ = some (.slice F.hd.Ap F.hd.np F.hd.cp) ∧ W'.cell? ⟨w.heap.size + 1, 7, none⟩ = some (.slice F.hd.Ah F.hd.nh F.hd.ch) ∧ W'.cell? ⟨wr.heap.size, 0, none⟩ = some (.int .i64 e.s) ∧ W'.cell? ⟨wr.heap.size, 1, none⟩ = some (.int .i64 e.h) ∧ W'.cell? ⟨wr.heap.size, 2, none⟩ = some (.int .i64 e.o) ∧ W'.cell? ⟨wr.heap.size, 3, none⟩ = some (.int .i64 e.c) ∧ Below (e.al wr 38).heap.size (e.al wr 38) W')) (by kernel_rfl) ?_ (fun hHeld => ?_)
              · (first | exact HS.out _ B1.out.drew | exact HS.out _ (below_via (last14 (by assumption)) (by assumption)))
              refine wpAnyH_take (i := 0) (oi := ?o136) (v := ?v136) ?h136 (by kernel_rfl) (by kernel_rfl) (by kernel_rfl) ?q136 ?y136 (by assumption) ?_
              case h136 => (simp only [List.getElem?_toArray, List.getElem?_cons_succ, List.getElem?_cons_zero]; try rfl)
              case q136 => exact fun _ _ _ h => h
              case y136 => refine Or.inl ⟨by rfl, ?_⟩; (intro w hSw; (try dsimp only at hSw); go_simp; try with_reducible rfl)
              try simp only [Act.put, List.setIfInBounds_toArray, List.set_cons_zero, List.set_cons_succ]
              refine wpAnyH_take (i := 1) (oi := ?o137) (v := ?v137) ?h137 (by kernel_rfl) (by kernel_rfl) (by kernel_rfl) ?q137 ?y137 (by assumption) ?_
              case h137 => (simp only [List.getElem?_toArray, List.getElem?_cons_succ, List.getElem?_cons_zero]; try rfl)
              case q137 => exact fun _ _ _ h => h
              case y137 => refine Or.inl ⟨by rfl, ?_⟩; (intro w hSw; (try dsimp only at hSw); go_simp; try with_reducible rfl)
              try simp only [Act.put, List.setIfInBounds_toArray, List.set_cons_zero, List.set_cons_succ]
              refine wpAnyH_take (i := 2) (oi := ?o138) (v := ?v138) ?h138 (by kernel_rfl) (by kernel_rfl) (by kernel_rfl) ?q138 ?y138 (by assumption) ?_
              case h138 => (simp only [List.getElem?_toArray, List.getElem?_cons_succ, List.getElem?_cons_zero]; try rfl)
              case q138 => exact fun _ _ _ h => h
              case y138 => refine Or.inl ⟨by rfl, ?_⟩; (intro w hSw; (try dsimp only at hSw); go_simp; try with_reducible rfl)
              try simp only [Act.put, List.setIfInBounds_toArray, List.set_cons_zero, List.set_cons_succ]
              refine wpAnyH_take (i := 3) (oi := ?o139) (v := ?v139) ?h139 (by kernel_rfl) (by kernel_rfl) (by kernel_rfl) ?q139 ?y139 (by assumption) ?_
              case h139 => (simp only [List.getElem?_toArray, List.getElem?_cons_succ, List.getElem?_cons_zero]; try rfl)
              case q139 => exact fun _ _ _ h => h
              case y139 => refine Or.inl ⟨by rfl, ?_⟩; (intro w hSw; (try dsimp only at hSw); go_simp; try with_reducible rfl)
              try simp only [Act.put, List.setIfInBounds_toArray, List.set_cons_zero, List.set_cons_succ]
              refine wpAnyH_take (i := 4) (oi := ?o140) (v := ?v140) ?h140 (by kernel_rfl) (by kernel_rfl) (by kernel_rfl) ?q140 ?y140 (by assumption) ?_
              case h140 => (simp only [List.getElem?_toArray, List.getElem?_cons_succ, List.getElem?_cons_zero]; try rfl)
              case q140 => exact fun _ _ _ h => h
              case y140 => refine Or.inl ⟨by rfl, ?_⟩; (intro w hSw; (try dsimp only at hSw); go_simp; try with_reducible rfl)
              try simp only [Act.put, List.setIfInBounds_toArray, List.set_cons_zero, List.set_cons_succ]
              refine wpAnyH_take (i := 5) (oi := ?o141) (v := ?v141) ?h141 (by kernel_rfl) (by kernel_rfl) (by kernel_rfl) ?q141 ?y141 (by assumption) ?_
              case h141 => (simp only [List.getElem?_toArray, List.getElem?_cons_succ, List.getElem?_cons_zero]; try rfl)
              case q141 => exact fun _ _ _ h => h
              case y141 => refine Or.inl ⟨by rfl, ?_⟩; (intro w hSw; (try dsimp only at hSw); go_simp; try with_reducible rfl)
              try simp only [Act.put, List.setIfInBounds_toArray, List.set_cons_zero, List.set_cons_succ]
              refine wpAnyH_take (i := 6) (oi := ?o142) (v := ?v142) ?h142 (by kernel_rfl) (by kernel_rfl) (by kernel_rfl) ?q142 ?y142 (by assumption) ?_
              case h142 => (simp only [List.getElem?_toArray, List.getElem?_cons_succ, List.getElem?_cons_zero]; try rfl)
              case q142 => exact fun _ _ _ h => h
              case y142 => refine Or.inl ⟨by rfl, ?_⟩; (intro w hSw; (try dsimp only at hSw); go_simp; try with_reducible rfl)
              try simp only [Act.put, List.setIfInBounds_toArray, List.set_cons_zero, List.set_cons_succ]
              refine wpAnyH_take (i := 7) (oi := ?o143) (v := ?v143) ?h143 (by kernel_rfl) (by kernel_rfl) (by kernel_rfl) ?q143 ?y143 (by assumption) ?_
              case h143 => (simp only [List.getElem?_toArray, List.getElem?_cons_succ, List.getElem?_cons_zero]; try rfl)
              case q143 => exact fun _ _ _ h => h
              case y143 => refine Or.inl ⟨by rfl, ?_⟩; (intro w hSw; (try dsimp only at hSw); go_simp; try with_reducible rfl)
              try simp only [Act.put, List.setIfInBounds_toArray, List.set_cons_zero, List.set_cons_succ]
              refine wpAnyH_take (i := 8) (oi := ?o144) (v := ?v144) ?h144 (by kernel_rfl) (by kernel_rfl) (by kernel_rfl) ?q144 ?y144 (by assumption) ?_
              case h144 => (simp only [List.getElem?_toArray, List.getElem?_cons_succ, List.getElem?_cons_zero]; try rfl)
              case q144 => exact fun _ _ _ h => h
              case y144 => refine Or.inl ⟨by rfl, ?_⟩; (intro w hSw; (try dsimp only at hSw); go_simp; try with_reducible rfl)
              try simp only [Act.put, List.setIfInBounds_toArray, List.set_cons_zero, List.set_cons_succ]
              refine wpAnyH_take (i := 9) (oi := ?o145) (v := ?v145) ?h145 (by kernel_rfl) (by kernel_rfl) (by kernel_rfl) ?q145 ?y145 (by assumption) ?_
              case h145 => (simp only [List.getElem?_toArray, List.getElem?_cons_succ, List.getElem?_cons_zero]; try rfl)
              case q145 => exact fun _ _ _ h => h
              case y145 => refine Or.inl ⟨by rfl, ?_⟩; (intro w hSw; (try dsimp only at hSw); go_simp; try with_reducible rfl)
              try simp only [Act.put, List.setIfInBounds_toArray, List.set_cons_zero, List.set_cons_succ]
              refine wpAnyH_ready (rs := [10]) (by kernel_rfl) (by simp) ?_
              refine AllReadyH.cons (o := ?o146) ?h146 (fun K hK => ?_) AllReadyH.nil
              case h146 => (simp only [List.getElem?_toArray, List.getElem?_cons_succ, List.getElem?_cons_zero]; try rfl)
              go_simp
              go_at_call 29; (with_reducible refine (KA.out _ (last14 (by assumption))).mono ?_); rintro r w1 ⟨rfl, hb1⟩
              try go_wp2_with fail
              refine hK.out _ _ ?_ (fun hHeld => ?_)
              · (first | exact HS.out _ B1.out.drew | exact HS.out _ (below_via (last14 (by assumption)) (by assumption)))
              clear hK K
              try simp only [Act.put, List.setIfInBounds_toArray, List.set_cons_zero, List.set_cons_succ]
              refine wpAnyH_take (i := 11) (oi := ?o147) (v := ?v147) ?h147 (by kernel_rfl) (by kernel_rfl) (by kernel_rfl) ?q147 ?y147 (by assumption) ?_
              case h147 => (simp only [List.getElem?_toArray, List.getElem?_cons_succ, List.getElem?_cons_zero]; try rfl)
              case q147 => exact fun _ _ _ h => h
              case y147 => refine Or.inl ⟨by rfl, ?_⟩; (intro w hSw; (try dsimp only at hSw); go_simp; try with_reducible rfl)
              try simp only [Act.put, List.setIfInBounds_toArray, List.set_cons_zero, List.set_cons_succ]
              refine wpAnyH_take (i := 12) (oi := ?o148) (v := ?v148) ?h148 (by kernel_rfl) (by kernel_rfl) (by kernel_rfl) ?q148 ?y148 (by assumption) ?_
              case h148 => (simp only [List.getElem?_toArray, List.getElem?_cons_succ, List.getElem?_cons_zero]; try rfl)
              case q148 => exact fun _ _ _ h => h
              case y148 => refine Or.inl ⟨by rfl, ?_⟩; (intro w hSw; (try dsimp only at hSw); go_simp; try with_reducible rfl)
              try simp only [Act.put, List.setIfInBounds_toArray, List.set_cons_zero, List.set_cons_succ]
              refine wpAnyH_take (i := 13) (oi := ?o149) (v := ?v149) ?h149 (by kernel_rfl) (by kernel_rfl) (by kernel_rfl) ?q149 ?y149 (by assumption) ?_
              case h149 => (simp only [List.getElem?_toArray, List.getElem?_cons_succ, List.getElem?_cons_zero]; try rfl)
              case q149 => exact fun _ _ _ h => h
              case y149 => refine Or.inl ⟨by rfl, ?_⟩; (intro w hSw; (try dsimp only at hSw); go_simp; try with_reducible rfl)
              try simp only [Act.put, List.setIfInBounds_toArray, List.set_cons_zero, List.set_cons_succ]
              refine wpAnyH_take (i := 14) (oi := ?o150) (v := ?v150) ?h150 (by kernel_rfl) (by kernel_rfl) (by kernel_rfl) ?q150 ?y150 (by assumption) ?_
              case h150 => (simp only [List.getElem?_toArray, List.getElem?_cons_succ, List.getElem?_cons_zero]; try rfl)
              case q150 => exact fun _ _ _ h => h
              case y150 => refine Or.inl ⟨by rfl, ?_⟩; (intro w hSw; (try dsimp only at hSw); go_simp; try with_reducible rfl)
              try simp only [Act.put, List.setIfInBounds_toArray, List.set_cons_zero, List.set_cons_succ]
              refine wpAnyH_take (i := 15) (oi := ?o151) (v := ?v151) ?h151 (by kernel_rfl) (by kernel_rfl) (by kernel_rfl) ?q151 ?y151 (by assumption) ?_
              case h151 => (simp only [List.getElem?_toArray, List.getElem?_cons_succ, List.getElem?_cons_zero]; try rfl)
              case q151 => exact fun _ _ _ h => h
              case y151 => refine Or.inl ⟨by rfl, ?_⟩; (intro w hSw; (try dsimp only at hSw); go_simp; try with_reducible rfl)
              try simp only [Act.put, List.setIfInBounds_toArray, List.set_cons_zero, List.set_cons_succ]
              refine wpAnyH_take (i := 16) (oi := ?o152) (v := ?v152) ?h152 (by kernel_rfl) (by kernel_rfl) (by kernel_rfl) ?q152 ?y152 (by assumption) ?_
              case h152 => (simp only [List.getElem?_toArray, List.getElem?_cons_succ, List.getElem?_cons_zero]; try rfl)
              case q152 => exact fun _ _ _ h => h
              case y152 => refine Or.inl ⟨by rfl, ?_⟩; (intro w hSw; (try dsimp only at hSw); go_simp; try with_reducible rfl)
              try simp only [Act.put, List.setIfInBounds_toArray, List.set_cons_zero, List.set_cons_succ]
              refine wpAnyH_take (i := 17) (oi := ?o153) (v := ?v153) ?h153 (by kernel_rfl) (by kernel_rfl) (by kernel_rfl) ?q153 ?y153 (by assumption) ?_
              case h153 => (simp only [List.getElem?_toArray, List.getElem?_cons_succ, List.getElem?_cons_zero]; try rfl)
              case q153 => exact fun _ _ _ h => h
              case y153 => refine Or.inl ⟨by rfl, ?_⟩; (intro w hSw; (try dsimp only at hSw); go_simp; try with_reducible rfl)
              try simp only [Act.put, List.setIfInBounds_toArray, List.set_cons_zero, List.set_cons_succ]
              refine wpAnyH_take (i := 18) (oi := ?o154) (v := ?v154) ?h154 (by kernel_rfl) (by kernel_rfl) (by kernel_rfl) ?q154 ?y154 (by assumption) ?_
              case h154 => (simp only [List.getElem?_toArray, List.getElem?_cons_succ, List.getElem?_cons_zero]; try rfl)
              case q154 => exact fun _ _ _ h => h
              case y154 => refine Or.inl ⟨by rfl, ?_⟩; (intro w hSw; (try dsimp only at hSw); go_simp; try with_reducible rfl)
              try simp only [Act.put, List.setIfInBounds_toArray, List.set_cons_zero, List.set_cons_succ]
              refine wpAnyH_take (i := 19) (oi := ?o155) (v := ?v155) ?h155 (by kernel_rfl) (by kernel_rfl) (by kernel_rfl) ?q155 ?y155 (by assumption) ?_
              case h155 => (simp only [List.getElem?_toArray, List.getElem?_cons_succ, List.getElem?_cons_zero]; try rfl)
              case q155 => exact fun _ _ _ h => h
              case y155 => refine Or.inl ⟨by rfl, ?_⟩; (intro w hSw; (try dsimp only at hSw); go_simp; try with_reducible rfl)
              try simp only [Act.put, List.setIfInBounds_toArray, List.set_cons_zero, List.set_cons_succ]
              refine wpAnyH_take (i := 20) (oi := ?o156) (v := ?v156) ?h156 (by kernel_rfl) (by kernel_rfl) (by kernel_rfl) ?q156 ?y156 (by assumption) ?_
              case h156 => (simp only [List.getElem?_toArray, List.getElem?_cons_succ, List.getElem?_cons_zero]; try rfl)
              case q156 => exact fun _ _ _ h => h
              case y156 => refine Or.inl ⟨by rfl, ?_⟩; (intro w hSw; (try dsimp only at hSw); go_simp; try with_reducible rfl)
              try simp only [Act.put, List.setIfInBounds_toArray, List.set_cons_zero, List.set_cons_succ]
              refine wpAnyH_ready (rs := [21]) (by kernel_rfl) (by simp) ?_
              refine AllReadyH.cons (o := ?o157) ?h157 (fun K hK => ?_) AllReadyH.nil
              case h157 => (simp only [List.getElem?_toArray, List.getElem?_cons_succ, List.getElem?_cons_zero]; try rfl)
              go_simp
              go_at_call 29; (with_reducible refine (KB.out _ (last14 (by assumption))).mono ?_); rintro r w2 ⟨rfl, hb2⟩
              try go_wp2_with fail
              refine hK.out _ _ ?_ (fun hHeld => ?_)
              · (first | exact HS.out _ B1.out.drew | exact HS.out _ (below_via (last14 (by assumption)) (by assumption)))
              clear hK K
              try simp only [Act.put, List.setIfInBounds_toArray, List.set_cons_zero, List.set_cons_succ]
              refine wpAnyH_take (i := 22) (oi := ?o158) (v := ?v158) ?h158 (by kernel_rfl) (by kernel_rfl) (by kernel_rfl) ?q158 ?y158 (by assumption) ?_
              case h158 => (simp only [List.getElem?_toArray, List.getElem?_cons_succ, List.getElem?_cons_zero]; try rfl)
              case q158 => exact fun _ _ _ h => h
              case y158 => refine Or.inl ⟨by rfl, ?_⟩; (intro w hSw; (try dsimp only at hSw); go_simp; try with_reducible rfl)
              try simp only [Act.put, List.setIfInBounds_toArray, List.set_cons_zero, List.set_cons_succ]
              refine wpAnyH_take (i := 23) (oi := ?o159) (v := ?v159) ?h159 (by kernel_rfl) (by kernel_rfl) (by kernel_rfl) ?q159 ?y159 (by assumption) ?_
              case h159 => (simp only [List.getElem?_toArray, List.getElem?_cons_succ, List.getElem?_cons_zero]; try rfl)
              case q159 => exact fun _ _ _ h => h
              case y159 => refine Or.inl ⟨by rfl, ?_⟩; (intro w hSw; (try dsimp only at hSw); go_simp; try with_reducible rfl)
              try simp only [Act.put, List.setIfInBounds_toArray, List.set_cons_zero, List.set_cons_succ]
              refine wpAnyH_take (i := 24) (oi := ?o160) (v := ?v160) ?h160 (by kernel_rfl) (by kernel_rfl) (by kernel_rfl) ?q160 ?y160 (by assumption) ?_
              case h160 => (simp only [List.getElem?_toArray, List.getElem?_cons_succ, List.getElem?_cons_zero]; try rfl)
              case q160 => exact fun _ _ _ h => h
              case y160 => refine Or.inl ⟨by rfl, ?_⟩; (intro w hSw; (try dsimp only at hSw); go_simp; try with_reducible rfl)
              try simp only [Act.put, List.setIfInBounds_toArray, List.set_cons_zero, List.set_cons_succ]
              refine wpAnyH_take (i := 25) (oi := ?o161) (v := ?v161) ?h161 (by kernel_rfl) (by kernel_rfl) (by kernel_rfl) ?q161 ?y161 (by assumption) ?_
              case h161 => (simp only [List.getElem?_toArray, List.getElem?_cons_succ, List.getElem?_cons_zero]; try rfl)
              case q161 => exact fun _ _ _ h => h
              case y161 => refine Or.inl ⟨by rfl, ?_⟩; (intro w hSw; (try dsimp only at hSw); go_simp; try with_reducible rfl)
              try simp only [Act.put, List.setIfInBounds_toArray, List.set_cons_zero, List.set_cons_succ]
              refine wpAnyH_take (i := 26) (oi := ?o162) (v := ?v162) ?h162 (by kernel_rfl) (by kernel_rfl) (by kernel_rfl) ?q162 ?y162 (by assumption) ?_
              case h162 => (simp only [List.getElem?_toArray, List.getElem?_cons_succ, List.getElem?_cons_zero]; try rfl)
              case q162 => exact fun _ _ _ h => h
              case y162 => refine Or.inl ⟨by rfl, ?_⟩; (intro w hSw; (try dsimp only at hSw); go_simp; try with_reducible rfl)
              try simp only [Act.put, List.setIfInBounds_toArray, List.set_cons_zero, List.set_cons_succ]
              refine wpAnyH_take (i := 27) (oi := ?o163) (v := ?v163) ?h163 (by kernel_rfl) (by kernel_rfl) (by kernel_rfl) ?q163 ?y163 (by assumption) ?_
              case h163 => (simp only [List.getElem?_toArray, List.getElem?_cons_succ, List.getElem?_cons_zero]; try rfl)
              case q163 => exact fun _ _ _ h => h
              case y163 => refine Or.inl ⟨by rfl, ?_⟩; (intro w hSw; (try dsimp only at hSw); go_simp; try with_reducible rfl)
              try simp only [Act.put, List.setIfInBounds_toArray, List.set_cons_zero, List.set_cons_succ]
              refine wpAnyH_take (i := 28) (oi := ?o164) (v := ?v164) ?h164 (by kernel_rfl) (by kernel_rfl) (by kernel_rfl) ?q164 ?y164 (by assumption) ?_
              case h164 => (simp only [List.getElem?_toArray, List.getElem?_cons_succ, List.getElem?_cons_zero]; try rfl)
              case q164 => exact fun _ _ _ h => h
              case y164 => refine Or.inl ⟨by rfl, ?_⟩; (intro w hSw; (try dsimp only at hSw); go_simp; try with_reducible rfl)
              try simp only [Act.put, List.setIfInBounds_toArray, List.set_cons_zero, List.set_cons_succ]
              refine wpAnyH_take (i := 29) (oi := ?o165) (v := ?v165) ?h165 (by kernel_rfl) (by kernel_rfl) (by kernel_rfl) ?q165 ?y165 (by assumption) ?_
              case h165 => (simp only [List.getElem?_toArray, List.getElem?_cons_succ, List.getElem?_cons_zero]; try rfl)
              case q165 => exact fun _ _ _ h => h
              case y165 => refine Or.inl ⟨by rfl, ?_⟩; (intro w hSw; (try dsimp only at hSw); go_simp; try with_reducible rfl)
              try simp only [Act.put, List.setIfInBounds_toArray, List.set_cons_zero, List.set_cons_succ]
              refine wpAnyH_take (i := 30) (oi := ?o166) (v := ?v166) ?h166 (by kernel_rfl) (by kernel_rfl) (by kernel_rfl) ?q166 ?y166 (by assumption) ?_
              case h166 => (simp only [List.getElem?_toArray, List.getElem?_cons_succ, List.getElem?_cons_zero]; try rfl)
              case q166 => exact fun _ _ _ h => h
              case y166 => refine Or.inl ⟨by rfl, ?_⟩; (intro w hSw; (try dsimp only at hSw); go_simp; try with_reducible rfl)
              try simp only [Act.put, List.setIfInBounds_toArray, List.set_cons_zero, List.set_cons_succ]
              refine wpAnyH_take (i := 31) (oi := ?o167) (v := ?v167) ?h167 (by kernel_rfl) (by kernel_rfl) (by kernel_rfl) ?q167 ?y167 (by assumption) ?_
              case h167 => (simp only [List.getElem?_toArray, List.getElem?_cons_succ, List.getElem?_cons_zero]; try rfl)
              case q167 => exact fun _ _ _ h => h
              case y167 => refine Or.inl ⟨by rfl, ?_⟩; (intro w hSw; (try dsimp only at hSw); go_simp; try with_reducible rfl)
              try simp only [Act.put, List.setIfInBounds_toArray, List.set_cons_zero, List.set_cons_succ]
              refine wpAnyH_ready (rs := [32]) (by kernel_rfl) (by simp) ?_
              refine AllReadyH.cons (o := ?o168) ?h168 (fun K hK => ?_) AllReadyH.nil
              case h168 => (simp only [List.getElem?_toArray, List.getElem?_cons_succ, List.getElem?_cons_zero]; try rfl)
              go_simp
              go_at_call 29; (with_reducible refine (KC.out _ (last14 (by assumption))).mono ?_); rintro r w3 ⟨rfl, hb3⟩
              try go_wp2_with fail
              refine hK.out _ _ ?_ (fun hHeld => ?_)
              · (first | exact HS.out _ B1.out.drew | exact HS.out _ (below_via (last14 (by assumption)) (by assumption)))
              clear hK K
              try simp only [Act.put, List.setIfInBounds_toArray, List.set_cons_zero, List.set_cons_succ]
              refine wpAnyH_take (i := 33) (oi := ?o169) (v := ?v169) ?h169 (by kernel_rfl) (by kernel_rfl) (by kernel_rfl) ?q169 ?y169 (by assumption) ?_
              case h169 => (simp only [List.getElem?_toArray, List.getElem?_cons_succ, List.getElem?_cons_zero]; try rfl)
              case q169 => exact fun _ _ _ h => h
              case y169 => refine Or.inl ⟨by rfl, ?_⟩; (intro w hSw; (try dsimp only at hSw); go_simp; try with_reducible rfl)
              try simp only [Act.put, List.setIfInBounds_toArray, List.set_cons_zero, List.set_cons_succ]
              refine wpAnyH_take (i := 34) (oi := ?o170) (v := ?v170) ?h170 (by kernel_rfl) (by kernel_rfl) (by kernel_rfl) ?q170 ?y170 (by assumption) ?_
              case h170 => (simp only [List.getElem?_toArray, List.getElem?_cons_succ, List.getElem?_cons_zero]; try rfl)
              case q170 => exact fun _ _ _ h => h
              case y170 => refine Or.inl ⟨by rfl, ?_⟩; (intro w hSw; (try dsimp only at hSw); go_simp; try with_reducible rfl)
              try simp only [Act.put, List.setIfInBounds_toArray, List.set_cons_zero, List.set_cons_succ]
              refine wpAnyH_take (i := 35) (oi := ?o171) (v := ?v171) ?h171 (by kernel_rfl) (by kernel_rfl) (by kernel_rfl) ?q171 ?y171 (by assumption) ?_
              case h171 => (simp only [List.getElem?_toArray, List.getElem?_cons_succ, List.getElem?_cons_zero]; try rfl)
              case q171 => exact fun _ _ _ h => h
              case y171 => refine Or.inl ⟨by rfl, ?_⟩; (intro w hSw; (try dsimp only at hSw); go_simp; try with_reducible rfl)
              try simp only [Act.put, List.setIfInBounds_toArray, List.set_cons_zero, List.set_cons_succ]
              refine wpAnyH_take (i := 36) (oi := ?o172) (v := ?v172) ?h172 (by kernel_rfl) (by kernel_rfl) (by kernel_rfl) ?q172 ?y172 (by assumption) ?_
              case h172 => (simp only [List.getElem?_toArray, List.getElem?_cons_succ, List.getElem?_cons_zero]; try rfl)
              case q172 => exact fun _ _ _ h => h
              case y172 => refine Or.inl ⟨by rfl, ?_⟩; (intro w hSw; (try dsimp only at hSw); go_simp; try with_reducible rfl)
              try simp only [Act.put, List.setIfInBounds_toArray, List.set_cons_zero, List.set_cons_succ]
              refine wpAnyH_take (i := 37) (oi := ?o173) (v := ?v173) ?h173 (by kernel_rfl) (by kernel_rfl) (by kernel_rfl) ?q173 ?y173 (by assumption) ?_
              case h173 => (simp only [List.getElem?_toArray, List.getElem?_cons_succ, List.getElem?_cons_zero]; try rfl)
              case q173 => exact fun _ _ _ h => h
              case y173 => refine Or.inl ⟨by rfl, ?_⟩; (intro w hSw; (try dsimp only at hSw); go_simp; try with_reducible rfl)
              try simp only [Act.put, List.setIfInBounds_toArray, List.set_cons_zero, List.set_cons_succ]
              refine wpAnyH_take (i := 38) (oi := ?o174) (v := ?v174) ?h174 (by kernel_rfl) (by kernel_rfl) (by kernel_rfl) ?q174 ?y174 (by assumption) ?_
              case h174 => (simp only [List.getElem?_toArray, List.getElem?_cons_succ, List.getElem?_cons_zero]; try rfl)
              case q174 => exact fun _ _ _ h => h
              case y174 => refine Or.inl ⟨by rfl, ?_⟩; (intro w hSw; (try dsimp only at hSw); go_simp; try with_reducible rfl)
              try simp only [Act.put, List.setIfInBounds_toArray, List.set_cons_zero, List.set_cons_succ]
              refine wpAnyH_take (i := 39) (oi := ?o175) (v := ?v175) ?h175 (by kernel_rfl) (by kernel_rfl) (by kernel_rfl) ?q175 ?y175 (by assumption) ?_
              case h175 => (simp only [List.getElem?_toArray, List.getElem?_cons_succ, List.getElem?_cons_zero]; try rfl)
              case q175 => exact fun _ _ _ h => h
              case y175 => refine Or.inl ⟨by rfl, ?_⟩; (intro w hSw; (try dsimp only at hSw); go_simp; try with_reducible rfl)
              try simp only [Act.put, List.setIfInBounds_toArray, List.set_cons_zero, List.set_cons_succ]
              have HY := Lib.hid hy
              clear hy
              cases y
              · skip
                refine wpAnyH_take (i := 40) (oi := ?o176) (v := undef) ?h176 (by kernel_rfl) (by kernel_rfl) (by kernel_rfl) ?q176 ?y176 (by assumption) ?_
                case h176 => (simp only [List.getElem?_toArray, List.getElem?_cons_succ, List.getElem?_cons_zero]; try rfl)
                case q176 => exact fun _ _ _ h => h
                case y176 => exact Or.inr ⟨by rfl, rfl⟩
                try simp only [Act.put, List.setIfInBounds_toArray, List.set_cons_zero, List.set_cons_succ]
                refine wpAnyH_take (i := 41) (oi := ?o177) (v := undef) ?h177 (by kernel_rfl) (by kernel_rfl) (by kernel_rfl) ?q177 ?y177 (by assumption) ?_
                case h177 => (simp only [List.getElem?_toArray, List.getElem?_cons_succ, List.getElem?_cons_zero]; try rfl)
                case q177 => exact fun _ _ _ h => h
                case y177 => exact Or.inr ⟨by rfl, rfl⟩
                try simp only [Act.put, List.setIfInBounds_toArray, List.set_cons_zero, List.set_cons_succ]
                refine wpAnyH_take (i := 42) (oi := ?o178) (v := undef) ?h178 (by kernel_rfl) (by kernel_rfl) (by kernel_rfl) ?q178 ?y178 (by assumption) ?_
                case h178 => (simp only [List.getElem?_toArray, List.getElem?_cons_succ, List.getElem?_cons_zero]; try rfl)
                case q178 => exact fun _ _ _ h => h
                case y178 => exact Or.inr ⟨by rfl, rfl⟩
                try simp only [Act.put, List.setIfInBounds_toArray, List.set_cons_zero, List.set_cons_succ]
                refine wpAnyH_take (i := 43) (oi := ?o179) (v := ?v179) ?h179 (by kernel_rfl) (by kernel_rfl) (by kernel_rfl) ?q179 ?y179 (by assumption) ?_
                case h179 => (simp only [List.getElem?_toArray, List.getElem?_cons_succ, List.getElem?_cons_zero]; try rfl)
                case q179 => exact fun _ _ _ h => h
                case y179 => refine Or.inl ⟨by rfl, ?_⟩; (intro w hSw; (try dsimp only at hSw); go_simp; try with_reducible rfl)
                try simp only [Act.put, List.setIfInBounds_toArray, List.set_cons_zero, List.set_cons_succ]
                refine wpAnyH_take (i := 44) (oi := ?o180) (v := ?v180) ?h180 (by kernel_rfl) (by kernel_rfl) (by kernel_rfl) ?q180 ?y180 (by assumption) ?_
                case h180 => (simp only [List.getElem?_toArray, List.getElem?_cons_succ, List.getElem?_cons_zero]; try rfl)
                case q180 => exact fun _ _ _ h => h
                case y180 => refine Or.inl ⟨by rfl, ?_⟩; (intro w hSw; (try dsimp only at hSw); go_simp; try with_reducible rfl)
                try simp only [Act.put, List.setIfInBounds_toArray, List.set_cons_zero, List.set_cons_succ]
                refine wpAnyH_done (by kernel_rfl) ?_ _
                go_wp2
                go_roundg f'
                case measure => have := HF'.out; omega
                case rel => exact ⟨k + 1, by simp, by have := HF'.out; have := HFF.out; omega, by rw [hall.out, HI'.out]; rfl, below_via HBR.out (below_via HAL.out (last14 (by assumption)))⟩
              · skip
                refine wpAnyH_take (i := 40) (oi := ?o181) (v := ?v181) ?h181 (by kernel_rfl) (by kernel_rfl) (by kernel_rfl) ?q181 ?y181 (by assumption) ?_
                case h181 => (simp only [List.getElem?_toArray, List.getElem?_cons_succ, List.getElem?_cons_zero]; try rfl)
                case q181 => exact fun _ _ _ h => h
                case y181 => refine Or.inl ⟨by rfl, ?_⟩; (intro w hSw; (try dsimp only at hSw); go_simp; try with_reducible rfl)
                try simp only [Act.put, List.setIfInBounds_toArray, List.set_cons_zero, List.set_cons_succ]
                refine wpAnyH_take (i := 41) (oi := ?o182) (v := ?v182) ?h182 (by kernel_rfl) (by kernel_rfl) (by kernel_rfl) ?q182 ?y182 (by assumption) ?_
                case h182 => (simp only [List.getElem?_toArray, List.getElem?_cons_succ, List.getElem?_cons_zero]; try rfl)
                case q182 => exact fun _ _ _ h => h
                case y182 => refine Or.inl ⟨by rfl, ?_⟩; (intro w hSw; (try dsimp only at hSw); go_simp; try with_reducible rfl)
                try simp only [Act.put, List.setIfInBounds_toArray, List.set_cons_zero, List.set_cons_succ]
                refine wpAnyH_take (i := 42) (oi := ?o183) (v := ?v183) ?h183 (by kernel_rfl) (by kernel_rfl) (by kernel_rfl) ?q183 ?y183 (by assumption) ?_
                case h183 => (simp only [List.getElem?_toArray, List.getElem?_cons_succ, List.getElem?_cons_zero]; try rfl)
                case q183 => exact fun _ _ _ h => h
                case y183 => refine Or.inl ⟨by rfl, ?_⟩; (intro w hSw; (try dsimp only at hSw); go_simp; try with_reducible rfl)
                try simp only [Act.put, List.setIfInBounds_toArray, List.set_cons_zero, List.set_cons_succ]
                refine wpAnyH_take (i := 43) (oi := ?o184) (v := ?v184) ?h184 (by kernel_rfl) (by kernel_rfl) (by kernel_rfl) ?q184 ?y184 (by assumption) ?_
                case h184 => (simp only [List.getElem?_toArray, List.getElem?_cons_succ, List.getElem?_cons_zero]; try rfl)
                case q184 => exact fun _ _ _ h => h
                case y184 => refine Or.inl ⟨by rfl, ?_⟩; (intro w hSw; (try dsimp only at hSw); go_simp; try with_reducible rfl)
                try simp only [Act.put, List.setIfInBounds_toArray, List.set_cons_zero, List.set_cons_succ]
                refine wpAnyH_take (i := 44) (oi := ?o185) (v := ?v185) ?h185 (by kernel_rfl) (by kernel_rfl) (by kernel_rfl) ?q185 ?y185 (by assumption) ?_
                case h185 => (simp only [List.getElem?_toArray, List.getElem?_cons_succ, List.getElem?_cons_zero]; try rfl)
                case q185 => exact fun _ _ _ h => h
                case y185 => refine Or.inl ⟨by rfl, ?_⟩; (intro w hSw; (try dsimp only at hSw); go_simp; try with_reducible rfl)
                try simp only [Act.put, List.setIfInBounds_toArray, List.set_cons_zero, List.set_cons_succ]
                refine wpAnyH_done (by kernel_rfl) ?_ _
                go_wp2
                · have hg : (!F.hd.ge) = true := by assumption
                  go_ret
                  exact ⟨ret_bool (by rw [hall.out, HI'.out, hg]; rfl), below_via HB.out (below_via HBR.out (below_via HAL.out (last14 (by assumption))))⟩
                · have hg : (!F.hd.ge) = false := by assumption
                  go_roundg f'
                  case measure => have := HF'.out; omega
                  case rel => exact ⟨k + 1, by simp, by have := HF'.out; have := HFF.out; omega, by rw [hall.out, HI'.out, hg]; rfl, below_via HBR.out (below_via HAL.out (last14 (by assumption)))⟩
    · have hk' : ¬ (k : Int) < F.hd.nc := by omega
      have hend : F.C.all (okI n F) = true := by rw [he, List.drop_of_length_le (by have := hlc.out; omega)]; rfl
      obtain ⟨e, hx⟩ : ∃ e, F.C[F.hd.nc - 1]? = some e := ⟨_, List.getElem?_eq_getElem (by have := hlc.out; omega)⟩
      obtain ⟨b, off, hA, hbl, ⟨c0, c1, c2, c3⟩⟩ := reads_at (HF.out wr hB).his.code hx
      have hle := last_at rfl hx
      have hand := (HF.out wr hB).his.hand
      have hnh := (HF.out wr hB).his.nh
      obtain ⟨k1, k2⟩ := HC2.out wr hB
      have p4 : wr.cell? ⟨w.heap.size + 1, 4, none⟩ = some (.slice F.hd.Ac F.hd.nc F.hd.cc) := (k2.cell 4).trans rfl
      have p7 : wr.cell? ⟨w.heap.size + 1, 7, none⟩ = some (.slice F.hd.Ah F.hd.nh F.hd.ch) := (k2.cell 7).trans rfl
      have KH := Lib.hid (hcontains_calls wr (w.heap.size + 1) (fun t => !okH F.hd.nc t) (fun W t bb => hbad_calls W (w.heap.size + 1) F.hd (k2.below bb k2.lt) t) F.hd.Ah F.hd.nh F.hd.ch F.T hand (by omega))
      have hmf : ∀ (fn : _root_.Go.Fn) (first cap : Array Value) (w : World), (Instr.makeFunc fn first cap).run Tryd.prog w = .ok (.func fn first cap) w := fun _ _ _ _ => rfl
      rw [hA] at p4
      have HA := Lib.hid hA
      have HEND := Lib.hid hend
      have q1 : (0 : Int) ≤ (F.hd.nc : Int) - 1 := by omega
      have KE := ends_calls wr e.s
      have HT1 := Lib.hid (tail_of (F := F) hle)
      generalize ends e.s = en at *
      have KE' := Lib.hid KE
      have HLE := Lib.hid hle
      clear hx hf he hB hA hend hle hand k1 k2 KE
      cases en
      · skip
        go_wp2_with (first | (go_at_call 25; (with_reducible refine KE'.out.mono ?_); rintro r w' ⟨rfl, rfl⟩))
        go_ret
        exact ⟨ret_bool (by rw [HEND.out, HT1.out]; rfl), below_via HB.out HBR.out⟩
      · skip
        go_wp2_with (first | (go_at_call 25; (with_reducible refine KE'.out.mono ?_); rintro r w' ⟨rfl, rfl⟩) | (go_at_call 31; (with_reducible refine KH.out.mono ?_); rintro r w1 ⟨rfl, hb1⟩))
        go_ret
        exact ⟨ret_bool (by rw [HEND.out, HT1.out]; simp), below_via HB.out (below_via HBR.out hb1)⟩
theorem function_calls (w : World) (A : Option Addr) (n c : Nat) (F : Fn) (hT : Tab w) (hF : F.Is w) (hw64 : ∀ e ∈ F.C, e.h ≤ 9223372036854775807 ∧ e.o ≤ 9223372036854775807 ∧ e.c ≤ 9223372036854775807) :
    Calls Tryd.prog 20 #[pv A n c, F.hd.v] w fun r w' => r = .returned (.bool (fnOk n F)) ∧ Below w.heap.size w w' := by
  unfold fnOk
  cases ho : okHead F.hd
  · exact function_head w A n c F ho
  · rw [Bool.true_and]; exact function_rest w A n c F hT hF hw64 ho
end Go.Proofs.YteagkdmefmpokaaDoor
