/- Code: may a function be? the document's. -/
import Derived.Test.YteagkdmefmpokaaDoorEf
namespace Go.Proofs.YteagkdmefmpokaaDoor
open Go.RowKit Go
set_option linter.unusedVariables false
set_option linter.unusedSimpArgs false
set_option maxRecDepth 100000 in
set_option maxHeartbeats 8000000 in
theorem rfunction_head (w : World) (A : Option Addr) (n c : Nat) (F : Fn) (ho : okHead F.hd = false) :
    Calls Tryd.prog 22 #[pv A n c, F.hd.v] w fun r w' => r = .returned (.bool false) ∧ Below w.heap.size w w' := by
  have HB := Lib.hid (below_box2 w A n c F.hd)
  unfold okHead at ho
  unfold box2 Hd.b at HB
  unfold Hd.v pv
  by_cases h1 : 0 < F.hd.nc
  · have hz : ((F.hd.nc : Int) == 0) = false := by simp; omega
    by_cases h2 : F.hd.nc ≤ 65536
    · by_cases h3 : F.hd.nk ≤ 65536
      · by_cases h4 : 0 ≤ F.hd.re
        · by_cases h5 : F.hd.re ≤ 400
          · simp only [h1, h2, h3, h4, h5, decide_true, Bool.true_and] at ho
            rcases within_false ho with h6 | h6
            · clear ho
              go_enter Tryd.func22, Tryd.ntmps22
              go_wp2_with fail
              go_ret
              exact ⟨rfl, HB.out⟩
            · have h7 : ¬ F.hd.pa < 0 := by omega
              have h8 : F.hd.re < F.hd.pa := by omega
              clear ho h6
              go_enter Tryd.func22, Tryd.ntmps22
              go_wp2_with fail
              go_ret
              exact ⟨rfl, HB.out⟩
          · clear ho
            go_enter Tryd.func22, Tryd.ntmps22
            go_wp2_with fail
            go_ret
            exact ⟨rfl, HB.out⟩
        · clear ho
          go_enter Tryd.func22, Tryd.ntmps22
          go_wp2_with fail
          go_ret
          exact ⟨rfl, HB.out⟩
      · clear ho
        go_enter Tryd.func22, Tryd.ntmps22
        go_wp2_with fail
        go_ret
        exact ⟨rfl, HB.out⟩
    · clear ho
      go_enter Tryd.func22, Tryd.ntmps22
      go_wp2_with fail
      go_ret
      exact ⟨rfl, HB.out⟩
  · have hz : ((F.hd.nc : Int) == 0) = true := by simp; omega
    clear ho h1
    go_enter Tryd.func22, Tryd.ntmps22
    go_wp2_with fail
    go_ret
    exact ⟨rfl, HB.out⟩
theorem okH_false {m : Nat} {t : Tr} (h : okH m t = false) : t.x < 0 ∨ (¬ t.x < 0 ∧ t.y ≤ t.x) ∨ (¬ t.x < 0 ∧ ¬ t.y ≤ t.x ∧ (m : Int) < t.y) ∨ (¬ t.x < 0 ∧ ¬ t.y ≤ t.x ∧ ¬ (m : Int) < t.y ∧ t.z < 0) ∨ (¬ t.x < 0 ∧ ¬ t.y ≤ t.x ∧ ¬ (m : Int) < t.y ∧ ¬ t.z < 0 ∧ (m : Int) ≤ t.z) := by
  simp only [okH, within, Bool.and_eq_false_iff, decide_eq_false_iff_not] at h; omega
theorem okH_true {m : Nat} {t : Tr} (h : okH m t = true) : ¬ t.x < 0 ∧ ¬ t.y ≤ t.x ∧ ¬ (m : Int) < t.y ∧ ¬ t.z < 0 ∧ ¬ (m : Int) ≤ t.z := by
  simp only [okH, within, Bool.and_eq_true, decide_eq_true_eq] at h; omega
/-- the handlers, as the document looks at them: ahead of the last instruction. -/
theorem tail_swap (F : Fn) : tail F = (F.T.all (okH F.hd.nc) && lastE F) := by unfold tail; rw [Bool.and_comm]
theorem all_dropT {p : Tr → Bool} {C : List Tr} {k : Nat} {e : Tr} (hx : C[k]? = some e) : (C.drop k).all p = (p e && (C.drop (k + 1)).all p) := by rw [drop_at hx, List.all_cons]
theorem cells_f {w wr : World} {A : Option Addr} {n c : Nat} {h : Hd} (b : Below (box2 w A n c h).heap.size (box2 w A n c h) wr) :
    wr.cell? ⟨w.heap.size + 1, 4, none⟩ = some (.slice h.Ac h.nc h.cc) ∧ wr.cell? ⟨w.heap.size + 1, 7, none⟩ = some (.slice h.Ah h.nh h.ch) ∧ w.heap.size + 1 < wr.heap.size :=
  ⟨((box2_cells b).2.cell 4).trans rfl, ((box2_cells b).2.cell 7).trans rfl, (box2_cells b).2.lt⟩
set_option maxRecDepth 100000 in
set_option maxHeartbeats 16000000 in
theorem rfunction_rest (w : World) (A : Option Addr) (n c : Nat) (F : Fn) (hF : F.Is w) (hw64 : ∀ e ∈ F.C, e.h ≤ 9223372036854775807 ∧ e.o ≤ 9223372036854775807 ∧ e.c ≤ 9223372036854775807) (ho : okHead F.hd = true) :
    Calls Tryd.prog 22 #[pv A n c, F.hd.v] w fun r w' => r = .returned (.bool (F.C.all (okI n F) && tail F)) ∧ Below w.heap.size w w' := by
  have HB := Lib.hid (below_box2 w A n c F.hd)
  have HF := Lib.hid (fun (W : World) (b : Below (box2 w A n c F.hd).heap.size (box2 w A n c F.hd) W) => (hF.later (below_box2 w A n c F.hd)).later b)
  have HC2 := Lib.hid (fun (W : World) (b : Below (box2 w A n c F.hd).heap.size (box2 w A n c F.hd) W) => cells_f b)
  have HRD := Lib.hid (fun (wr w' : World) (e : En) (b : Below (box2 w A n c F.hd).heap.size (box2 w A n c F.hd) wr) (b' : Below (e.al wr 38).heap.size (e.al wr 38) w') => rdS_of b b')
  have hlc := Lib.hid (reads_len hF.his.code)
  have hlt := Lib.hid (reads_len3 hF.his.hand)
  have hnh := hF.his.nh
  have HW := Lib.hid hw64
  simp only [okHead, Bool.and_eq_true, decide_eq_true_eq] at ho
  obtain ⟨h1, h2, h3, h4, h5, h6⟩ := ho
  have B0 := Lib.hid (Below.refl (box2 w A n c F.hd).heap.size (box2 w A n c F.hd))
  have hz : ((F.hd.nc : Int) == 0) = false := by simp; omega
  have d2 : decide (65536 < (F.hd.nc : Int)) = false := by simp; omega
  have d3 : decide (65536 < (F.hd.nk : Int)) = false := by simp; omega
  have d4 : decide (F.hd.re < 0) = false := by simp; omega
  have d5 : decide (400 < F.hd.re) = false := by simp; omega
  have d6 : decide (F.hd.pa < 0) = false := by have := within_true h6; simp; omega
  have d7 : decide (F.hd.re < F.hd.pa) = false := by have := within_true h6; simp; omega
  clear hF hw64 h6
  unfold Hd.v pv
  go_enter Tryd.func22, Tryd.ntmps22
  go_wp2_with fail
  go_loopg [5] F.hd.nc (fun f i wr => ∃ k : Nat, i = .int .i64 k ∧ k + f = F.hd.nc ∧ F.C.all (okI n F) = (F.C.drop k).all (okI n F) ∧ Below (box2 w A n c F.hd).heap.size (box2 w A n c F.hd) wr)
  case atStart => exact ⟨0, rfl, by omega, rfl, B0.out⟩
  case round =>
    obtain ⟨k, rfl, hf, he, hB⟩ := hrel
    have HE := Lib.hid he
    have HBR := Lib.hid hB
    have HFF := Lib.hid hf
    obtain ⟨p4, p7, plt⟩ := HC2.out wr hB
    by_cases hk : k < F.hd.nc
    · obtain ⟨e, hx⟩ : ∃ e, F.C[k]? = some e := ⟨_, List.getElem?_eq_getElem (by have := hlc.out; omega)⟩
      obtain ⟨b, off, hA, hbl, ⟨c0, c1, c2, c3⟩⟩ := reads_at (HF.out wr hB).his.code hx
      rw [hA] at p4
      have HA := Lib.hid hA
      have hall := Lib.hid (he.trans (all_drop hx))
      have hk' : (k : Int) < F.hd.nc := by omega
      obtain ⟨f', hf'⟩ : ∃ f', gk = f' + 1 := ⟨gk - 1, by omega⟩
      have HF' := Lib.hid hf'
      have KS := rshape_calls (e.al wr 38) e.s
      have hmem := HW.out e (List.mem_of_getElem? hx)
      have KO := fun (W : World) (bb : Below (e.al wr 38).heap.size (e.al wr 38) W) (kind x : Int) (hl : Letter kind) (hx1 : x ≤ 9223372036854775807) (hb : kind = 110 → 0 ≤ e.o ∧ e.o < 400) => roperand_calls W A n c F (HF.out W (below_via (below_via hB (below_new _ _)) bb)) e kind x hl hx1 h5 hb
      have HS := Lib.hid (fun (w' : World) (bb : Below (e.al wr 38).heap.size (e.al wr 38) w') => HRD.out wr w' e hB bb)
      have HAL := Lib.hid (below_new wr (.cells #[.int .i64 e.s, .int .i64 e.h, .int .i64 e.o, .int .i64 e.c] 38))
      have B1 := Lib.hid (Below.refl (e.al wr 38).heap.size (e.al wr 38))
      have HI := okI_eq n F e
      clear hx hf hf' he hB hA
      rcases shp_ways e.s with h0 | ⟨x0, x1, x2, h0, L0, L1, L2, N0, N1, N2⟩
      · rw [h0] at KS HI
        have hse : (str []).toList.isEmpty = true := by rw [ByteArray.toList_eq]; rfl
        generalize str [] = s at *
        replace KS := Lib.hid KS
        have HN := Lib.hid h0
        replace HI := Lib.hid HI
        clear h0 KO
        go_wp2_with (go_at_call 13; (with_reducible refine KS.out.mono ?_); rintro r w1 ⟨rfl, hb1⟩)
        go_ret
        exact ⟨ret_bool (by rw [hall.out, HI.out]; rfl), below_via HB.out (below_via HBR.out (below_via HAL.out hb1))⟩
      · have e0 : ltr [x0, x1, x2] 0 = (x0.toNat : Int) := rfl
        have e1 : ltr [x0, x1, x2] 1 = (x1.toNat : Int) := rfl
        have e2 : ltr [x0, x1, x2] 2 = (x2.toNat : Int) := rfl
        rw [h0] at KS HI
        rw [e0, e1, e2] at HI
        obtain ⟨s, hss, hse, g0, g1, g2, s0, s1, s2⟩ := shp_str x0 x1 x2
        rw [hss] at KS
        replace KS := Lib.hid KS
        have HN := Lib.hid h0
        have i1 : (1 : Int) < s.size := by omega
        have i2 : (2 : Int) < s.size := by omega
        clear h0 hss e0 e1 e2
        have KA := fun W bb => KO W bb (x0.toNat : Int) e.h L0 hmem.1 (fun h => absurd h N0)
        have KB := fun W bb => KO W bb (x1.toNat : Int) e.o L1 hmem.2.1 (fun h => absurd h N1)
        unfold Hd.v En.v pv at KA KB KO
        have HI' := Lib.hid HI
        have HMEM := Lib.hid hmem
        have KO' := Lib.hid KO
        clear HI hmem KO
        go_upto_region 8 with (go_at_call 13; (with_reducible refine KS.out.mono ?_); rintro r w1 ⟨rfl, hb1⟩; obtain ⟨y0, y1, y2, y3, y4, y5, y6, y7, y8, y9, y10, y11, y12, y13⟩ := HS.out w1 hb1)
        go_cut [77] from 66 to 77 (fun sl wx => sl = .bool ((e.s == 60) && !F.hd.ge) ∧ wx = w1)
        case first =>
          obtain ⟨y, hy⟩ : ∃ y, (e.s == 60) = y := ⟨_, rfl⟩
          have HY := Lib.hid hy
          go_wp2
          all_goals
            go_meet
            exact ⟨by rw [HY.out]; simp [*], rfl⟩
        case rest =>
          obtain ⟨rfl, hw⟩ := hcut
          rw [hw]
          clear hw
          obtain ⟨z, hz0⟩ : ∃ z, ((e.s == 60) && !F.hd.ge) = z := ⟨_, rfl⟩
          rw [hz0]
          have HZ := Lib.hid hz0
          clear hz0
          cases z
          · cases hA : opd n F e.o (x0.toNat : Int) e.h
            · simp only [hA] at KA
              rw [hA] at HI'
              generalize opd n F e.o (x1.toNat : Int) e.o = vb at *
              replace KA := Lib.hid KA
              replace KB := Lib.hid KB
              clear hA y0 y1 y2 y3 y4 y5 y6 y7 y8 y9 y10 y11 y12 y13
              go_wp2
              go_region_held3 (fun W' => W'.cell? ⟨w.heap.size, 0, none⟩ = some (.slice A n c) ∧ W'.cell? ⟨w.heap.size + 1, 0, none⟩ = some (.string F.hd.nm) ∧ W'.cell? ⟨w.heap.size + 1, 1, none⟩ = some (.int .i64 F.hd.pa) ∧ W'.cell? ⟨w.heap.size + 1, 2, none⟩ = some (.int .i64 F.hd.re) ∧ W'.cell? ⟨w.heap.size + 1, 3, none⟩ = some (.bool F.hd.ge) ∧ W'.cell? ⟨w.heap.size + 1, 4, none⟩ = some (.slice F.hd.Ac F.hd.nc F.hd.cc) ∧ W'.cell? ⟨w.heap.size + 1, 5, none⟩ = some (.slice F.hd.Ak F.hd.nk F.hd.ck) ∧ W'.cell? ⟨w.heap.size + 1, 6, none⟩ = some (.slice F.hd.Ap F.hd.np F.hd.cp) ∧ W'.cell? ⟨w.heap.size + 1, 7, none⟩ = some (.slice F.hd.Ah F.hd.nh F.hd.ch) ∧ W'.cell? ⟨wr.heap.size, 0, none⟩ = some (.int .i64 e.s) ∧ W'.cell? ⟨wr.heap.size, 1, none⟩ = some (.int .i64 e.h) ∧ W'.cell? ⟨wr.heap.size, 2, none⟩ = some (.int .i64 e.o) ∧ W'.cell? ⟨wr.heap.size, 3, none⟩ = some (.int .i64 e.c) ∧ Below (e.al wr 38).heap.size (e.al wr 38) W') (first | exact HS.out _ B1.out | exact HS.out _ B1.out.drew | exact HS.out _ (by assumption) | exact HS.out _ hb1.drew | exact HS.out _ (below_via (last14 (by assumption)) hb2) | exact HS.out _ (below_via (last14 (by assumption)) hb3) | exact HS.out _ (below_via (last14 (by assumption)) hb4) | exact HS.out _ (Below.drew (last14 (by assumption))) | assumption) (first | (go_at_call 34; (with_reducible refine (KA.out _ (last14 (by assumption))).mono ?_); rintro r w2 ⟨rfl, hb2⟩))
              go_wp2
              go_region_held3 (fun W' => W'.cell? ⟨w.heap.size, 0, none⟩ = some (.slice A n c) ∧ W'.cell? ⟨w.heap.size + 1, 0, none⟩ = some (.string F.hd.nm) ∧ W'.cell? ⟨w.heap.size + 1, 1, none⟩ = some (.int .i64 F.hd.pa) ∧ W'.cell? ⟨w.heap.size + 1, 2, none⟩ = some (.int .i64 F.hd.re) ∧ W'.cell? ⟨w.heap.size + 1, 3, none⟩ = some (.bool F.hd.ge) ∧ W'.cell? ⟨w.heap.size + 1, 4, none⟩ = some (.slice F.hd.Ac F.hd.nc F.hd.cc) ∧ W'.cell? ⟨w.heap.size + 1, 5, none⟩ = some (.slice F.hd.Ak F.hd.nk F.hd.ck) ∧ W'.cell? ⟨w.heap.size + 1, 6, none⟩ = some (.slice F.hd.Ap F.hd.np F.hd.cp) ∧ W'.cell? ⟨w.heap.size + 1, 7, none⟩ = some (.slice F.hd.Ah F.hd.nh F.hd.ch) ∧ W'.cell? ⟨wr.heap.size, 0, none⟩ = some (.int .i64 e.s) ∧ W'.cell? ⟨wr.heap.size, 1, none⟩ = some (.int .i64 e.h) ∧ W'.cell? ⟨wr.heap.size, 2, none⟩ = some (.int .i64 e.o) ∧ W'.cell? ⟨wr.heap.size, 3, none⟩ = some (.int .i64 e.c) ∧ Below (e.al wr 38).heap.size (e.al wr 38) W') (first | exact HS.out _ B1.out | exact HS.out _ B1.out.drew | exact HS.out _ (by assumption) | exact HS.out _ hb1.drew | exact HS.out _ (below_via (last14 (by assumption)) hb2) | exact HS.out _ (below_via (last14 (by assumption)) hb3) | exact HS.out _ (below_via (last14 (by assumption)) hb4) | exact HS.out _ (Below.drew (last14 (by assumption))) | assumption) (first | (go_at_call 34; (with_reducible refine (KB.out _ (last14 (by assumption))).mono ?_); rintro r w3 ⟨rfl, hb3⟩))
              go_wp2
              go_ret
              exact ⟨ret_bool (by rw [hall.out, HI'.out]; rfl), below_via HB.out (below_via HBR.out (below_via HAL.out (last14 (by assumption))))⟩
            · simp only [hA] at KA
              rw [hA] at HI'
              replace KA := Lib.hid KA
              cases hBo : opd n F e.o (x1.toNat : Int) e.o
              · simp only [hBo] at KB
                rw [hBo] at HI'
                replace KB := Lib.hid KB
                clear hA hBo y0 y1 y2 y3 y4 y5 y6 y7 y8 y9 y10 y11 y12 y13
                go_wp2
                go_region_held3 (fun W' => W'.cell? ⟨w.heap.size, 0, none⟩ = some (.slice A n c) ∧ W'.cell? ⟨w.heap.size + 1, 0, none⟩ = some (.string F.hd.nm) ∧ W'.cell? ⟨w.heap.size + 1, 1, none⟩ = some (.int .i64 F.hd.pa) ∧ W'.cell? ⟨w.heap.size + 1, 2, none⟩ = some (.int .i64 F.hd.re) ∧ W'.cell? ⟨w.heap.size + 1, 3, none⟩ = some (.bool F.hd.ge) ∧ W'.cell? ⟨w.heap.size + 1, 4, none⟩ = some (.slice F.hd.Ac F.hd.nc F.hd.cc) ∧ W'.cell? ⟨w.heap.size + 1, 5, none⟩ = some (.slice F.hd.Ak F.hd.nk F.hd.ck) ∧ W'.cell? ⟨w.heap.size + 1, 6, none⟩ = some (.slice F.hd.Ap F.hd.np F.hd.cp) ∧ W'.cell? ⟨w.heap.size + 1, 7, none⟩ = some (.slice F.hd.Ah F.hd.nh F.hd.ch) ∧ W'.cell? ⟨wr.heap.size, 0, none⟩ = some (.int .i64 e.s) ∧ W'.cell? ⟨wr.heap.size, 1, none⟩ = some (.int .i64 e.h) ∧ W'.cell? ⟨wr.heap.size, 2, none⟩ = some (.int .i64 e.o) ∧ W'.cell? ⟨wr.heap.size, 3, none⟩ = some (.int .i64 e.c) ∧ Below (e.al wr 38).heap.size (e.al wr 38) W') (first | exact HS.out _ B1.out | exact HS.out _ B1.out.drew | exact HS.out _ (by assumption) | exact HS.out _ hb1.drew | exact HS.out _ (below_via (last14 (by assumption)) hb2) | exact HS.out _ (below_via (last14 (by assumption)) hb3) | exact HS.out _ (below_via (last14 (by assumption)) hb4) | exact HS.out _ (Below.drew (last14 (by assumption))) | assumption) (first | (go_at_call 34; (with_reducible refine (KA.out _ (last14 (by assumption))).mono ?_); rintro r w2 ⟨rfl, hb2⟩))
                go_wp2
                go_region_held3 (fun W' => W'.cell? ⟨w.heap.size, 0, none⟩ = some (.slice A n c) ∧ W'.cell? ⟨w.heap.size + 1, 0, none⟩ = some (.string F.hd.nm) ∧ W'.cell? ⟨w.heap.size + 1, 1, none⟩ = some (.int .i64 F.hd.pa) ∧ W'.cell? ⟨w.heap.size + 1, 2, none⟩ = some (.int .i64 F.hd.re) ∧ W'.cell? ⟨w.heap.size + 1, 3, none⟩ = some (.bool F.hd.ge) ∧ W'.cell? ⟨w.heap.size + 1, 4, none⟩ = some (.slice F.hd.Ac F.hd.nc F.hd.cc) ∧ W'.cell? ⟨w.heap.size + 1, 5, none⟩ = some (.slice F.hd.Ak F.hd.nk F.hd.ck) ∧ W'.cell? ⟨w.heap.size + 1, 6, none⟩ = some (.slice F.hd.Ap F.hd.np F.hd.cp) ∧ W'.cell? ⟨w.heap.size + 1, 7, none⟩ = some (.slice F.hd.Ah F.hd.nh F.hd.ch) ∧ W'.cell? ⟨wr.heap.size, 0, none⟩ = some (.int .i64 e.s) ∧ W'.cell? ⟨wr.heap.size, 1, none⟩ = some (.int .i64 e.h) ∧ W'.cell? ⟨wr.heap.size, 2, none⟩ = some (.int .i64 e.o) ∧ W'.cell? ⟨wr.heap.size, 3, none⟩ = some (.int .i64 e.c) ∧ Below (e.al wr 38).heap.size (e.al wr 38) W') (first | exact HS.out _ B1.out | exact HS.out _ B1.out.drew | exact HS.out _ (by assumption) | exact HS.out _ hb1.drew | exact HS.out _ (below_via (last14 (by assumption)) hb2) | exact HS.out _ (below_via (last14 (by assumption)) hb3) | exact HS.out _ (below_via (last14 (by assumption)) hb4) | exact HS.out _ (Below.drew (last14 (by assumption))) | assumption) (first | (go_at_call 34; (with_reducible refine (KB.out _ (last14 (by assumption))).mono ?_); rintro r w3 ⟨rfl, hb3⟩))
                go_wp2
                go_ret
                exact ⟨ret_bool (by rw [hall.out, HI'.out]; rfl), below_via HB.out (below_via HBR.out (below_via HAL.out (last14 (by assumption))))⟩
              · have hbo : (x2.toNat : Int) = 110 → 0 ≤ e.o ∧ e.o < 400 := by
                  intro h
                  rw [N2 h, opd_r] at hBo
                  have := within_true hBo
                  omega
                have KC := fun W bb => KO'.out W bb (x2.toNat : Int) e.c L2 HMEM.out.2.2 hbo
                simp only [hBo] at KB
                rw [hBo] at HI'
                replace KB := Lib.hid KB
                cases hCo : opd n F e.o (x2.toNat : Int) e.c
                · simp only [hCo] at KC
                  rw [hCo] at HI'
                  replace KC := Lib.hid KC
                  clear hA hBo hCo hbo y0 y1 y2 y3 y4 y5 y6 y7 y8 y9 y10 y11 y12 y13
                  go_wp2
                  go_region_held3 (fun W' => W'.cell? ⟨w.heap.size, 0, none⟩ = some (.slice A n c) ∧ W'.cell? ⟨w.heap.size + 1, 0, none⟩ = some (.string F.hd.nm) ∧ W'.cell? ⟨w.heap.size + 1, 1, none⟩ = some (.int .i64 F.hd.pa) ∧ W'.cell? ⟨w.heap.size + 1, 2, none⟩ = some (.int .i64 F.hd.re) ∧ W'.cell? ⟨w.heap.size + 1, 3, none⟩ = some (.bool F.hd.ge) ∧ W'.cell? ⟨w.heap.size + 1, 4, none⟩ = some (.slice F.hd.Ac F.hd.nc F.hd.cc) ∧ W'.cell? ⟨w.heap.size + 1, 5, none⟩ = some (.slice F.hd.Ak F.hd.nk F.hd.ck) ∧ W'.cell? ⟨w.heap.size + 1, 6, none⟩ = some (.slice F.hd.Ap F.hd.np F.hd.cp) ∧ W'.cell? ⟨w.heap.size + 1, 7, none⟩ = some (.slice F.hd.Ah F.hd.nh F.hd.ch) ∧ W'.cell? ⟨wr.heap.size, 0, none⟩ = some (.int .i64 e.s) ∧ W'.cell? ⟨wr.heap.size, 1, none⟩ = some (.int .i64 e.h) ∧ W'.cell? ⟨wr.heap.size, 2, none⟩ = some (.int .i64 e.o) ∧ W'.cell? ⟨wr.heap.size, 3, none⟩ = some (.int .i64 e.c) ∧ Below (e.al wr 38).heap.size (e.al wr 38) W') (first | exact HS.out _ B1.out | exact HS.out _ B1.out.drew | exact HS.out _ (by assumption) | exact HS.out _ hb1.drew | exact HS.out _ (below_via (last14 (by assumption)) hb2) | exact HS.out _ (below_via (last14 (by assumption)) hb3) | exact HS.out _ (below_via (last14 (by assumption)) hb4) | exact HS.out _ (Below.drew (last14 (by assumption))) | assumption) (first | (go_at_call 34; (with_reducible refine (KA.out _ (last14 (by assumption))).mono ?_); rintro r w2 ⟨rfl, hb2⟩))
                  go_wp2
                  go_region_held3 (fun W' => W'.cell? ⟨w.heap.size, 0, none⟩ = some (.slice A n c) ∧ W'.cell? ⟨w.heap.size + 1, 0, none⟩ = some (.string F.hd.nm) ∧ W'.cell? ⟨w.heap.size + 1, 1, none⟩ = some (.int .i64 F.hd.pa) ∧ W'.cell? ⟨w.heap.size + 1, 2, none⟩ = some (.int .i64 F.hd.re) ∧ W'.cell? ⟨w.heap.size + 1, 3, none⟩ = some (.bool F.hd.ge) ∧ W'.cell? ⟨w.heap.size + 1, 4, none⟩ = some (.slice F.hd.Ac F.hd.nc F.hd.cc) ∧ W'.cell? ⟨w.heap.size + 1, 5, none⟩ = some (.slice F.hd.Ak F.hd.nk F.hd.ck) ∧ W'.cell? ⟨w.heap.size + 1, 6, none⟩ = some (.slice F.hd.Ap F.hd.np F.hd.cp) ∧ W'.cell? ⟨w.heap.size + 1, 7, none⟩ = some (.slice F.hd.Ah F.hd.nh F.hd.ch) ∧ W'.cell? ⟨wr.heap.size, 0, none⟩ = some (.int .i64 e.s) ∧ W'.cell? ⟨wr.heap.size, 1, none⟩ = some (.int .i64 e.h) ∧ W'.cell? ⟨wr.heap.size, 2, none⟩ = some (.int .i64 e.o) ∧ W'.cell? ⟨wr.heap.size, 3, none⟩ = some (.int .i64 e.c) ∧ Below (e.al wr 38).heap.size (e.al wr 38) W') (first | exact HS.out _ B1.out | exact HS.out _ B1.out.drew | exact HS.out _ (by assumption) | exact HS.out _ hb1.drew | exact HS.out _ (below_via (last14 (by assumption)) hb2) | exact HS.out _ (below_via (last14 (by assumption)) hb3) | exact HS.out _ (below_via (last14 (by assumption)) hb4) | exact HS.out _ (Below.drew (last14 (by assumption))) | assumption) (first | (go_at_call 34; (with_reducible refine (KB.out _ (last14 (by assumption))).mono ?_); rintro r w3 ⟨rfl, hb3⟩))
                  go_wp2
                  go_region_held3 (fun W' => W'.cell? ⟨w.heap.size, 0, none⟩ = some (.slice A n c) ∧ W'.cell? ⟨w.heap.size + 1, 0, none⟩ = some (.string F.hd.nm) ∧ W'.cell? ⟨w.heap.size + 1, 1, none⟩ = some (.int .i64 F.hd.pa) ∧ W'.cell? ⟨w.heap.size + 1, 2, none⟩ = some (.int .i64 F.hd.re) ∧ W'.cell? ⟨w.heap.size + 1, 3, none⟩ = some (.bool F.hd.ge) ∧ W'.cell? ⟨w.heap.size + 1, 4, none⟩ = some (.slice F.hd.Ac F.hd.nc F.hd.cc) ∧ W'.cell? ⟨w.heap.size + 1, 5, none⟩ = some (.slice F.hd.Ak F.hd.nk F.hd.ck) ∧ W'.cell? ⟨w.heap.size + 1, 6, none⟩ = some (.slice F.hd.Ap F.hd.np F.hd.cp) ∧ W'.cell? ⟨w.heap.size + 1, 7, none⟩ = some (.slice F.hd.Ah F.hd.nh F.hd.ch) ∧ W'.cell? ⟨wr.heap.size, 0, none⟩ = some (.int .i64 e.s) ∧ W'.cell? ⟨wr.heap.size, 1, none⟩ = some (.int .i64 e.h) ∧ W'.cell? ⟨wr.heap.size, 2, none⟩ = some (.int .i64 e.o) ∧ W'.cell? ⟨wr.heap.size, 3, none⟩ = some (.int .i64 e.c) ∧ Below (e.al wr 38).heap.size (e.al wr 38) W') (first | exact HS.out _ B1.out | exact HS.out _ B1.out.drew | exact HS.out _ (by assumption) | exact HS.out _ hb1.drew | exact HS.out _ (below_via (last14 (by assumption)) hb2) | exact HS.out _ (below_via (last14 (by assumption)) hb3) | exact HS.out _ (below_via (last14 (by assumption)) hb4) | exact HS.out _ (Below.drew (last14 (by assumption))) | assumption) (first | (go_at_call 34; (with_reducible refine (KC.out _ (last14 (by assumption))).mono ?_); rintro r w4 ⟨rfl, hb4⟩))
                  go_wp2
                  go_ret
                  exact ⟨ret_bool (by rw [hall.out, HI'.out]; rfl), below_via HB.out (below_via HBR.out (below_via HAL.out (last14 (by assumption))))⟩
                · simp only [hCo] at KC
                  rw [hCo] at HI'
                  replace KC := Lib.hid KC
                  clear hA hBo hCo hbo y0 y1 y2 y3 y4 y5 y6 y7 y8 y9 y10 y11 y12 y13
                  go_wp2
                  go_region_held3 (fun W' => W'.cell? ⟨w.heap.size, 0, none⟩ = some (.slice A n c) ∧ W'.cell? ⟨w.heap.size + 1, 0, none⟩ = some (.string F.hd.nm) ∧ W'.cell? ⟨w.heap.size + 1, 1, none⟩ = some (.int .i64 F.hd.pa) ∧ W'.cell? ⟨w.heap.size + 1, 2, none⟩ = some (.int .i64 F.hd.re) ∧ W'.cell? ⟨w.heap.size + 1, 3, none⟩ = some (.bool F.hd.ge) ∧ W'.cell? ⟨w.heap.size + 1, 4, none⟩ = some (.slice F.hd.Ac F.hd.nc F.hd.cc) ∧ W'.cell? ⟨w.heap.size + 1, 5, none⟩ = some (.slice F.hd.Ak F.hd.nk F.hd.ck) ∧ W'.cell? ⟨w.heap.size + 1, 6, none⟩ = some (.slice F.hd.Ap F.hd.np F.hd.cp) ∧ W'.cell? ⟨w.heap.size + 1, 7, none⟩ = some (.slice F.hd.Ah F.hd.nh F.hd.ch) ∧ W'.cell? ⟨wr.heap.size, 0, none⟩ = some (.int .i64 e.s) ∧ W'.cell? ⟨wr.heap.size, 1, none⟩ = some (.int .i64 e.h) ∧ W'.cell? ⟨wr.heap.size, 2, none⟩ = some (.int .i64 e.o) ∧ W'.cell? ⟨wr.heap.size, 3, none⟩ = some (.int .i64 e.c) ∧ Below (e.al wr 38).heap.size (e.al wr 38) W') (first | exact HS.out _ B1.out | exact HS.out _ B1.out.drew | exact HS.out _ (by assumption) | exact HS.out _ hb1.drew | exact HS.out _ (below_via (last14 (by assumption)) hb2) | exact HS.out _ (below_via (last14 (by assumption)) hb3) | exact HS.out _ (below_via (last14 (by assumption)) hb4) | exact HS.out _ (Below.drew (last14 (by assumption))) | assumption) (first | (go_at_call 34; (with_reducible refine (KA.out _ (last14 (by assumption))).mono ?_); rintro r w2 ⟨rfl, hb2⟩))
                  go_wp2
                  go_region_held3 (fun W' => W'.cell? ⟨w.heap.size, 0, none⟩ = some (.slice A n c) ∧ W'.cell? ⟨w.heap.size + 1, 0, none⟩ = some (.string F.hd.nm) ∧ W'.cell? ⟨w.heap.size + 1, 1, none⟩ = some (.int .i64 F.hd.pa) ∧ W'.cell? ⟨w.heap.size + 1, 2, none⟩ = some (.int .i64 F.hd.re) ∧ W'.cell? ⟨w.heap.size + 1, 3, none⟩ = some (.bool F.hd.ge) ∧ W'.cell? ⟨w.heap.size + 1, 4, none⟩ = some (.slice F.hd.Ac F.hd.nc F.hd.cc) ∧ W'.cell? ⟨w.heap.size + 1, 5, none⟩ = some (.slice F.hd.Ak F.hd.nk F.hd.ck) ∧ W'.cell? ⟨w.heap.size + 1, 6, none⟩ = some (.slice F.hd.Ap F.hd.np F.hd.cp) ∧ W'.cell? ⟨w.heap.size + 1, 7, none⟩ = some (.slice F.hd.Ah F.hd.nh F.hd.ch) ∧ W'.cell? ⟨wr.heap.size, 0, none⟩ = some (.int .i64 e.s) ∧ W'.cell? ⟨wr.heap.size, 1, none⟩ = some (.int .i64 e.h) ∧ W'.cell? ⟨wr.heap.size, 2, none⟩ = some (.int .i64 e.o) ∧ W'.cell? ⟨wr.heap.size, 3, none⟩ = some (.int .i64 e.c) ∧ Below (e.al wr 38).heap.size (e.al wr 38) W') (first | exact HS.out _ B1.out | exact HS.out _ B1.out.drew | exact HS.out _ (by assumption) | exact HS.out _ hb1.drew | exact HS.out _ (below_via (last14 (by assumption)) hb2) | exact HS.out _ (below_via (last14 (by assumption)) hb3) | exact HS.out _ (below_via (last14 (by assumption)) hb4) | exact HS.out _ (Below.drew (last14 (by assumption))) | assumption) (first | (go_at_call 34; (with_reducible refine (KB.out _ (last14 (by assumption))).mono ?_); rintro r w3 ⟨rfl, hb3⟩))
                  go_wp2
                  go_region_held3 (fun W' => W'.cell? ⟨w.heap.size, 0, none⟩ = some (.slice A n c) ∧ W'.cell? ⟨w.heap.size + 1, 0, none⟩ = some (.string F.hd.nm) ∧ W'.cell? ⟨w.heap.size + 1, 1, none⟩ = some (.int .i64 F.hd.pa) ∧ W'.cell? ⟨w.heap.size + 1, 2, none⟩ = some (.int .i64 F.hd.re) ∧ W'.cell? ⟨w.heap.size + 1, 3, none⟩ = some (.bool F.hd.ge) ∧ W'.cell? ⟨w.heap.size + 1, 4, none⟩ = some (.slice F.hd.Ac F.hd.nc F.hd.cc) ∧ W'.cell? ⟨w.heap.size + 1, 5, none⟩ = some (.slice F.hd.Ak F.hd.nk F.hd.ck) ∧ W'.cell? ⟨w.heap.size + 1, 6, none⟩ = some (.slice F.hd.Ap F.hd.np F.hd.cp) ∧ W'.cell? ⟨w.heap.size + 1, 7, none⟩ = some (.slice F.hd.Ah F.hd.nh F.hd.ch) ∧ W'.cell? ⟨wr.heap.size, 0, none⟩ = some (.int .i64 e.s) ∧ W'.cell? ⟨wr.heap.size, 1, none⟩ = some (.int .i64 e.h) ∧ W'.cell? ⟨wr.heap.size, 2, none⟩ = some (.int .i64 e.o) ∧ W'.cell? ⟨wr.heap.size, 3, none⟩ = some (.int .i64 e.c) ∧ Below (e.al wr 38).heap.size (e.al wr 38) W') (first | exact HS.out _ B1.out | exact HS.out _ B1.out.drew | exact HS.out _ (by assumption) | exact HS.out _ hb1.drew | exact HS.out _ (below_via (last14 (by assumption)) hb2) | exact HS.out _ (below_via (last14 (by assumption)) hb3) | exact HS.out _ (below_via (last14 (by assumption)) hb4) | exact HS.out _ (Below.drew (last14 (by assumption))) | assumption) (first | (go_at_call 34; (with_reducible refine (KC.out _ (last14 (by assumption))).mono ?_); rintro r w4 ⟨rfl, hb4⟩))
                  go_wp2
                  go_roundg f'
                  case measure => have := HF'.out; omega
                  case rel => exact ⟨k + 1, by simp, by have := HF'.out; have := HFF.out; omega, by rw [hall.out, HI'.out, HZ.out]; rfl, below_via HBR.out (below_via HAL.out (last14 (by assumption)))⟩
          · clear KA KB y0 y1 y2 y3 y4 y5 y6 y7 y8 y9 y10 y11 y12 y13
            go_wp2
            go_ret
            exact ⟨ret_bool (by rw [hall.out, HI'.out, HZ.out]; simp), below_via HB.out (below_via HBR.out (below_via HAL.out hb1))⟩
    · have hk' : ¬ (k : Int) < F.hd.nc := by omega
      have hend : F.C.all (okI n F) = true := by rw [he, List.drop_of_length_le (by have := hlc.out; omega)]; rfl
      have hT : F.T.all (okH F.hd.nc) = (F.T.drop 0).all (okH F.hd.nc) := rfl
      have HEND := Lib.hid hend
      clear he hend hf hB
      go_wp2
      go_loopg [11] F.hd.nh (fun f i wr2 => ∃ j : Nat, i = .int .i64 j ∧ j + f = F.hd.nh ∧ F.T.all (okH F.hd.nc) = (F.T.drop j).all (okH F.hd.nc) ∧ Below (box2 w A n c F.hd).heap.size (box2 w A n c F.hd) wr2)
      case atStart => exact ⟨0, rfl, by omega, rfl, HBR.out⟩
      case round =>
        clear p4 p7 plt hT hk' hk HE HFF
        obtain ⟨j, rfl, hf, he, hB⟩ := hrel
        rename World => wr2
        have HBR2 := Lib.hid hB
        have HFF := Lib.hid hf
        obtain ⟨p4, p7, plt⟩ := HC2.out wr2 hB
        by_cases hj : j < F.hd.nh
        · obtain ⟨t, hx⟩ : ∃ t, F.T[j]? = some t := ⟨_, List.getElem?_eq_getElem (by have := hlt.out; omega)⟩
          obtain ⟨b, off, hA, hbl, ⟨c0, c1, c2⟩⟩ := reads_at3 (HF.out wr2 hB).his.hand hx
          rw [hA] at p7
          have HA := Lib.hid hA
          have hall := Lib.hid (he.trans (all_dropT hx))
          have hj' : (j : Int) < F.hd.nh := by omega
          obtain ⟨f', hf'⟩ : ∃ f', gk = f' + 1 := ⟨gk - 1, by omega⟩
          have HF' := Lib.hid hf'
          have HAL := Lib.hid (below_new wr2 (.cells #[.int .i64 t.x, .int .i64 t.y, .int .i64 t.z] 49))
          clear hx hf hf' he hB hA
          cases hok : okH F.hd.nc t
          · have HOK := Lib.hid hok
            rcases okH_false hok with q1 | ⟨q1, q2⟩ | ⟨q1, q2, q3⟩ | ⟨q1, q2, q3, q4⟩ | ⟨q1, q2, q3, q4, q5⟩
            all_goals
              clear hok
              go_wp2
              go_ret
              exact ⟨ret_bool (by rw [HEND.out, tail_swap, hall.out, HOK.out]; rfl), below_via HB.out (below_via HBR2.out HAL.out)⟩
          · have HOK := Lib.hid hok
            obtain ⟨q1, q2, q3, q4, q5⟩ := okH_true hok
            clear hok
            go_wp2
            go_roundg f'
            case measure => have := HF'.out; omega
            case rel => exact ⟨j + 1, by simp, by have := HF'.out; have := HFF.out; omega, by rw [hall.out, HOK.out]; rfl, below_via HBR2.out HAL.out⟩
        · have hj' : ¬ (j : Int) < F.hd.nh := by omega
          have hendT : F.T.all (okH F.hd.nc) = true := by rw [he, List.drop_of_length_le (by have := hlt.out; omega)]; rfl
          obtain ⟨e, hx⟩ : ∃ e, F.C[F.hd.nc - 1]? = some e := ⟨_, List.getElem?_eq_getElem (by have := hlc.out; omega)⟩
          obtain ⟨b, off, hA, hbl, ⟨c0, c1, c2, c3⟩⟩ := reads_at (HF.out wr2 hB).his.code hx
          have hle := last_at rfl hx
          rw [hA] at p4
          have HA := Lib.hid hA
          have HET := Lib.hid hendT
          have HLE := Lib.hid hle
          have q1 : (0 : Int) ≤ (F.hd.nc : Int) - 1 := by omega
          have KE := Lib.hid (rends_calls wr2 e.s)
          clear hx hf he hB hA hle hendT
          go_wp2_with (first | (go_at_call 19; (with_reducible refine KE.out.mono ?_); rintro r w' ⟨rfl, rfl⟩))
          go_ret
          exact ⟨ret_bool (by rw [HEND.out, tail_swap, HET.out, HLE.out]; rfl), below_via HB.out HBR2.out⟩
theorem rfunction_calls (w : World) (A : Option Addr) (n c : Nat) (F : Fn) (hF : F.Is w) (hw64 : ∀ e ∈ F.C, e.h ≤ 9223372036854775807 ∧ e.o ≤ 9223372036854775807 ∧ e.c ≤ 9223372036854775807) :
    Calls Tryd.prog 22 #[pv A n c, F.hd.v] w fun r w' => r = .returned (.bool (fnOk n F)) ∧ Below w.heap.size w w' := by
  unfold fnOk
  cases ho : okHead F.hd
  · exact rfunction_head w A n c F ho
  · rw [Bool.true_and]; exact rfunction_rest w A n c F hF hw64 ho
end Go.Proofs.YteagkdmefmpokaaDoor
