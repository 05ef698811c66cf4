/- Code: may a program be run? the document's. -/
import Derived.Test.YteagkdmefmpokaaDoorEi
namespace Go.Proofs.YteagkdmefmpokaaDoor
open Go.RowKit Go
set_option linter.unusedVariables false
set_option linter.unusedSimpArgs false
theorem Hd.eight {h : Hd} {w : World} {g : Nat} (b : Blk w g 36 h.b) : w.cell? ⟨g, 0, none⟩ = some (.string h.nm) ∧ w.cell? ⟨g, 1, none⟩ = some (.int .i64 h.pa) ∧ w.cell? ⟨g, 2, none⟩ = some (.int .i64 h.re) ∧ w.cell? ⟨g, 3, none⟩ = some (.bool h.ge) ∧
    w.cell? ⟨g, 4, none⟩ = some (.slice h.Ac h.nc h.cc) ∧ w.cell? ⟨g, 5, none⟩ = some (.slice h.Ak h.nk h.ck) ∧ w.cell? ⟨g, 6, none⟩ = some (.slice h.Ap h.np h.cp) ∧ w.cell? ⟨g, 7, none⟩ = some (.slice h.Ah h.nh h.ch) ∧ g < w.heap.size :=
  ⟨(b.cell 0).trans rfl, (b.cell 1).trans rfl, (b.cell 2).trans rfl, (b.cell 3).trans rfl, (b.cell 4).trans rfl, (b.cell 5).trans rfl, (b.cell 6).trans rfl, (b.cell 7).trans rfl, b.lt⟩
theorem last10 {a b c d e f g h i j : Prop} (x : a ∧ b ∧ c ∧ d ∧ e ∧ f ∧ g ∧ h ∧ i ∧ j) : j := x.2.2.2.2.2.2.2.2.2
def RdP (g b off k : Nat) (n c : Nat) (h : Hd) (W1 w : World) : Prop :=
  w.cell? ⟨g, 0, none⟩ = some (.slice (some ⟨b, off, none⟩) n c) ∧ w.cell? ⟨b, off + k * 8, none⟩ = some (.string h.nm) ∧ w.cell? ⟨b, off + k * 8 + 1, none⟩ = some (.int .i64 h.pa) ∧ w.cell? ⟨b, off + k * 8 + 2, none⟩ = some (.int .i64 h.re) ∧ w.cell? ⟨b, off + k * 8 + 3, none⟩ = some (.bool h.ge) ∧ w.cell? ⟨b, off + k * 8 + 4, none⟩ = some (.slice h.Ac h.nc h.cc) ∧ w.cell? ⟨b, off + k * 8 + 5, none⟩ = some (.slice h.Ak h.nk h.ck) ∧ w.cell? ⟨b, off + k * 8 + 6, none⟩ = some (.slice h.Ap h.np h.cp) ∧ w.cell? ⟨b, off + k * 8 + 7, none⟩ = some (.slice h.Ah h.nh h.ch) ∧ Below W1.heap.size W1 w
theorem rdP_of {w wr w' : World} {b off k n c : Nat} {Fs : List Fn} {F : Fn} (hp : ∀ W, Below (box1 w (some ⟨b, off, none⟩) n c).heap.size (box1 w (some ⟨b, off, none⟩) n c) W → PIs W (some ⟨b, off, none⟩) n Fs) (bb : Below (box1 w (some ⟨b, off, none⟩) n c).heap.size (box1 w (some ⟨b, off, none⟩) n c) wr) (hx : Fs[k]? = some F) (b' : Below wr.heap.size wr w') : RdP w.heap.size b off k n c F.hd wr w' := by
  have b2 := below_via bb b'
  obtain ⟨_, _, hA, _, ⟨c0, c1, c2, c3, c4, c5, c6, c7⟩⟩ := reads_at8 (hp _ b2).rd hx
  cases hA
  exact ⟨(box1_cell b2).1, c0, c1, c2, c3, c4, c5, c6, c7, b'⟩
theorem all_dropP {p : Cp → Bool} {C : List Cp} {k : Nat} {e : Cp} (hx : C[k]? = some e) : (C.drop k).all p = (p e && (C.drop (k + 1)).all p) := by rw [drop_at hx, List.all_cons]
theorem okP_false {re : Int} {np : Nat} {f : Bool} {i : Int} (h : okP re np ⟨f, i⟩ = false) : i < 0 ∨ (¬ i < 0 ∧ (if f then (np : Int) else re) ≤ i) := by
  unfold okP within at h; cases f <;> simp at h ⊢ <;> omega
theorem okP_true {re : Int} {np : Nat} {f : Bool} {i : Int} (h : okP re np ⟨f, i⟩ = true) : ¬ i < 0 ∧ i < (if f then (np : Int) else re) := by
  unfold okP within at h; cases f <;> simp at h ⊢ <;> omega
set_option maxRecDepth 100000 in
set_option maxHeartbeats 16000000 in
theorem rcheck_rest (w : World) (A : Option Addr) (n c : Nat) (Fs : List Fn) (hP : PIs w A n Fs) (ho : headOk Fs = true) :
    Calls Tryd.prog 11 #[pv A n c] w fun r w' => r = .returned (.int .i64 (chkV (Fs.all (fnOk n) && takesB Fs))) ∧ Below w.heap.size w w' := by
  have HB := Lib.hid (below_new w (.cells #[.slice A n c] 24))
  have HP := Lib.hid (fun (W : World) (b : Below (box1 w A n c).heap.size (box1 w A n c) W) => (hP.later (below_new w (.cells #[.slice A n c] 24))).later b)
  have HC := Lib.hid (fun (W : World) (b : Below (box1 w A n c).heap.size (box1 w A n c) W) => box1_cell b)
  have hl := Lib.hid (reads_len8 hP.rd)
  have hn := hP.n
  have hmf : ∀ (fn : _root_.Go.Fn) (first cap : Array Value) (w : World), (Instr.makeFunc fn first cap).run Tryd.prog w = .ok (.func fn first cap) w := fun _ _ _ _ => rfl
  obtain ⟨F0, hx0⟩ : ∃ F, Fs[0]? = some F := by
    rcases h : Fs[0]? with _ | F
    · unfold headOk at ho; rw [h] at ho; simp at ho
    · exact ⟨F, rfl⟩
  obtain ⟨h1, h2, hf0⟩ : 0 < n ∧ n ≤ 200 ∧ first0 F0.hd = true := by
    unfold headOk at ho
    rw [reads_len8 hP.rd, hx0] at ho
    simpa using ho
  obtain ⟨q1, q2, q3⟩ := first0_all hf0
  obtain ⟨b, off, rfl, hbl, h8⟩ := reads_at8 (hP.later (below_new w (.cells #[.slice A n c] 24))).rd hx0
  obtain ⟨c1, c3, c6⟩ := h8.zero
  rw [q1] at c1
  rw [q2] at c3
  rw [q3] at c6
  have B0 := Lib.hid (Below.refl (box1 w (some ⟨b, off, none⟩) n c).heap.size (box1 w (some ⟨b, off, none⟩) n c))
  have hz : ((n : Int) == 0) = false := by simp; omega
  have d2 : decide (200 < (n : Int)) = false := by simp; omega
  have n0 : (0 : Int) < n := by omega
  unfold pv
  clear hP h8 hx0 ho hf0 q1 q2 q3 hmf
  go_enter Tryd.func11, Tryd.ntmps11
  go_wp2_with fail
  clear c1 c3 c6
  go_loopg [3] n (fun f i wr => ∃ k : Nat, i = .int .i64 k ∧ k + f = n ∧ Fs.all (fnOk n) = (Fs.drop k).all (fnOk n) ∧ Below (box1 w (some ⟨b, off, none⟩) n c).heap.size (box1 w (some ⟨b, off, none⟩) n c) wr)
  case atStart => exact ⟨0, rfl, by omega, rfl, B0.out⟩
  case round =>
    obtain ⟨k, rfl, hf, he, hB⟩ := hrel
    have HE := Lib.hid he
    have HBR := Lib.hid hB
    have HFF := Lib.hid hf
    obtain ⟨p0, plt⟩ := HC.out _ hB
    by_cases hk : k < n
    · obtain ⟨F, hx⟩ : ∃ F, Fs[k]? = some F := ⟨_, List.getElem?_eq_getElem (by have := hl.out; omega)⟩
      have hmem := List.mem_of_getElem? hx
      have hall := Lib.hid (he.trans (all_dropF hx))
      have hk' : (k : Int) < n := by omega
      have hk0 : (0 : Int) ≤ k := by omega
      obtain ⟨f', hf'⟩ : ∃ f', gk = f' + 1 := ⟨gk - 1, by omega⟩
      have HF' := Lib.hid hf'
      have HS := Lib.hid (fun (w' : World) (b' : Below wr.heap.size wr w') => rdP_of HP.out hB hx b')
      have B1 := Lib.hid (Below.refl wr.heap.size wr)
      have KF := fun (W : World) (bb : Below wr.heap.size wr W) => rfunction_calls W (some ⟨b, off, none⟩) n c F ((HP.out _ (below_via hB bb)).is F hmem) ((HP.out _ hB).fw F hmem)
      unfold Hd.v pv at KF
      clear hx hf hf' he hB hmem
      cases ok : fnOk n F
      all_goals
        simp only [ok] at KF
        have OK := Lib.hid ok
        have KF' := Lib.hid KF
        clear KF ok
      · skip
        go_wp2_with fail
        clear p0 plt
        go_region_held3 (fun W' => W'.cell? ⟨w.heap.size, 0, none⟩ = some (.slice (some ⟨b, off, none⟩) n c) ∧ W'.cell? ⟨b, off + k * 8, none⟩ = some (.string F.hd.nm) ∧ W'.cell? ⟨b, off + k * 8 + 1, none⟩ = some (.int .i64 F.hd.pa) ∧ W'.cell? ⟨b, off + k * 8 + 2, none⟩ = some (.int .i64 F.hd.re) ∧ W'.cell? ⟨b, off + k * 8 + 3, none⟩ = some (.bool F.hd.ge) ∧ W'.cell? ⟨b, off + k * 8 + 4, none⟩ = some (.slice F.hd.Ac F.hd.nc F.hd.cc) ∧ W'.cell? ⟨b, off + k * 8 + 5, none⟩ = some (.slice F.hd.Ak F.hd.nk F.hd.ck) ∧ W'.cell? ⟨b, off + k * 8 + 6, none⟩ = some (.slice F.hd.Ap F.hd.np F.hd.cp) ∧ W'.cell? ⟨b, off + k * 8 + 7, none⟩ = some (.slice F.hd.Ah F.hd.nh F.hd.ch) ∧ Below wr.heap.size wr W') (first | exact HS.out _ B1.out | exact HS.out _ (Below.drew B1.out) | exact HS.out _ (below_via (last10 (by assumption)) hb1) | assumption) (first | (go_at_call 22; (with_reducible refine (KF'.out _ (last10 (by assumption))).mono ?_); rintro r w1 ⟨rfl, hb1⟩))
        go_wp2_with fail
        go_ret
        exact ⟨ret_int (by rw [hall.out, OK.out]; rfl), below_via HB.out (below_via HBR.out (last10 (by assumption)))⟩
      · skip
        go_wp2_with fail
        clear p0 plt
        go_region_held3 (fun W' => W'.cell? ⟨w.heap.size, 0, none⟩ = some (.slice (some ⟨b, off, none⟩) n c) ∧ W'.cell? ⟨b, off + k * 8, none⟩ = some (.string F.hd.nm) ∧ W'.cell? ⟨b, off + k * 8 + 1, none⟩ = some (.int .i64 F.hd.pa) ∧ W'.cell? ⟨b, off + k * 8 + 2, none⟩ = some (.int .i64 F.hd.re) ∧ W'.cell? ⟨b, off + k * 8 + 3, none⟩ = some (.bool F.hd.ge) ∧ W'.cell? ⟨b, off + k * 8 + 4, none⟩ = some (.slice F.hd.Ac F.hd.nc F.hd.cc) ∧ W'.cell? ⟨b, off + k * 8 + 5, none⟩ = some (.slice F.hd.Ak F.hd.nk F.hd.ck) ∧ W'.cell? ⟨b, off + k * 8 + 6, none⟩ = some (.slice F.hd.Ap F.hd.np F.hd.cp) ∧ W'.cell? ⟨b, off + k * 8 + 7, none⟩ = some (.slice F.hd.Ah F.hd.nh F.hd.ch) ∧ Below wr.heap.size wr W') (first | exact HS.out _ B1.out | exact HS.out _ (Below.drew B1.out) | exact HS.out _ (below_via (last10 (by assumption)) hb1) | assumption) (first | (go_at_call 22; (with_reducible refine (KF'.out _ (last10 (by assumption))).mono ?_); rintro r w1 ⟨rfl, hb1⟩))
        go_wp2_with fail
        go_roundg f'
        case measure => have := HF'.out; omega
        case rel => exact ⟨k + 1, by simp, by have := HF'.out; have := HFF.out; omega, by rw [hall.out, OK.out]; rfl, below_via HBR.out (last10 (by assumption))⟩
    · have hk' : ¬ (k : Int) < n := by omega
      have hfin : Fs.all (fnOk n) = true := by rw [he, List.drop_of_length_le (by have := hl.out; omega)]; rfl
      have HFIN := Lib.hid hfin
      have HIN := Lib.hid (in_of_all hfin)
      clear hf hB he hfin
      go_wp2_with fail
      clear p0 plt HE HFF hk' hk
      go_loopg [5] n (fun f i wr2 => ∃ k : Nat, i = .int .i64 k ∧ k + f = n ∧ takesB Fs = (Fs.drop k).all (takesF Fs) ∧ Below (box1 w (some ⟨b, off, none⟩) n c).heap.size (box1 w (some ⟨b, off, none⟩) n c) wr2)
      case atStart => exact ⟨0, rfl, by omega, rfl, HBR.out⟩
      case round =>
        clear HBR
        obtain ⟨k, rfl, hf, he, hB⟩ := hrel
        rename World => wr2
        have HE := Lib.hid he
        have HBR := Lib.hid hB
        have HFF := Lib.hid hf
        obtain ⟨p0, plt⟩ := HC.out _ hB
        by_cases hk : k < n
        · obtain ⟨F, hx⟩ : ∃ F, Fs[k]? = some F := ⟨_, List.getElem?_eq_getElem (by have := hl.out; omega)⟩
          obtain ⟨b', off', hA, hbl', ⟨c0, c1, c2, c3, c4, c5, c6, c7⟩⟩ := reads_at8 (HP.out _ hB).rd hx
          cases hA
          have hmem := List.mem_of_getElem? hx
          have hall := Lib.hid (he.trans (all_dropF hx))
          have hk' : (k : Int) < n := by omega
          obtain ⟨f', hf'⟩ : ∃ f', gk = f' + 1 := ⟨gk - 1, by omega⟩
          have HF' := Lib.hid hf'
          have HAF := Lib.hid (below_new wr2 (.cells F.hd.b 36))
          have HM := Lib.hid hmem
          have hlc := Lib.hid (reads_len ((HP.out _ hB).is F hmem).his.code)
          have hnc := ((HP.out _ hB).is F hmem).his.nc
          have BF := Lib.hid (fun (W : World) (bb : Below (F.hd.box wr2).heap.size (F.hd.box wr2) W) => Hd.eight (F.hd.all bb))
          have BL := Lib.hid (Below.refl (F.hd.box wr2).heap.size (F.hd.box wr2))
          clear hx hf hf' he hB hmem
          go_wp2_with fail
          clear p0 plt c0 c1 c2 c3 c4 c5 c6 c7
          go_loopg [7] F.hd.nc (fun f i wr3 => ∃ j : Nat, i = .int .i64 j ∧ j + f = F.hd.nc ∧ takesF Fs F = (F.C.drop j).all (takesI Fs F) ∧ Below (F.hd.box wr2).heap.size (F.hd.box wr2) wr3)
          case atStart => exact ⟨0, rfl, by omega, rfl, BL.out⟩
          case round =>
            obtain ⟨j, rfl, hf, he, hB⟩ := hrel
            rename World => wr3
            have HE2 := Lib.hid he
            have HBR2 := Lib.hid hB
            have HFF2 := Lib.hid hf
            have hbw := Lib.hid (below_via HBR.out (below_via HAF.out hB))
            obtain ⟨f0, f1, f2, f3, f4, f5, f6, f7, flt⟩ := BF.out _ hB
            by_cases hj : j < F.hd.nc
            · obtain ⟨⟨es, eh, eo, ec⟩, hx⟩ : ∃ e, F.C[j]? = some e := ⟨_, List.getElem?_eq_getElem (by have := hlc.out; omega)⟩
              obtain ⟨b2, off2, hA2, hbl2, ⟨d0, d1, d2, d3⟩⟩ := reads_at ((HP.out _ hbw.out).is F HM.out).his.code hx
              rw [hA2] at f4
              simp only at d0 d1 d2 d3
              have HA2 := Lib.hid hA2
              have hall2 := he.trans (all_drop hx)
              have hj' : (j : Int) < F.hd.nc := by omega
              have hj0 : (0 : Int) ≤ j := by omega
              obtain ⟨f2', hf2⟩ : ∃ f2, gk = f2 + 1 := ⟨gk - 1, by omega⟩
              have HF2 := Lib.hid hf2
              have hin2 := HIN.out F HM.out _ (List.mem_of_getElem? hx)
              simp only at hin2
              by_cases h12 : es = 12
              · subst h12
                obtain ⟨o0, o1⟩ := hin2 rfl
                obtain ⟨q, rfl⟩ : ∃ q : Nat, eo = q := ⟨eo.toNat, by omega⟩
                obtain ⟨G, hG⟩ : ∃ G, Fs[q]? = some G := ⟨_, List.getElem?_eq_getElem (by have := hl.out; omega)⟩
                rw [takesI_at (F := F) rfl rfl hG] at hall2
                have hall3 := Lib.hid hall2
                have hpis := HP.out _ hbw.out
                obtain ⟨bq, offq, hAq, _, ⟨_, _, _, _, _, _, g6, _⟩⟩ := reads_at8 hpis.rd hG
                cases hAq
                obtain ⟨p0, plt⟩ := HC.out _ hbw.out
                have o1' : (q : Int) < n := by omega
                have o0' : (0 : Int) ≤ q := by omega
                have hcap := (hpis.is G (List.mem_of_getElem? hG)).cap
                have hcl := Lib.hid (reads_lenP hcap)
                have HCAP := Lib.hid hcap
                have hnp := (hpis.is G (List.mem_of_getElem? hG)).np
                obtain ⟨Ap, hAp⟩ : ∃ A, G.hd.Ap = A := ⟨_, rfl⟩
                rw [hAp] at g6
                have HAP := Lib.hid hAp
                clear hx hf hf2 he hB hall2 hG hin2 hpis hA2 hAp hcap
                go_wp2_with fail
                go_quiet (fail)
                go_wp2_with fail
                clear p0 plt f0 f1 f2 f3 f4 f5 f6 f7 flt d0 d1 d2 d3 g6
                go_loopg [9] G.hd.np (fun f i wr4 => ∃ l : Nat, i = .int .i64 l ∧ l + f = G.hd.np ∧ (G.P.all (okP F.hd.re F.hd.np)) = (G.P.drop l).all (okP F.hd.re F.hd.np) ∧ Below wr3.heap.size wr3 wr4)
                case atStart => exact ⟨0, rfl, by omega, rfl, below_drewN (Below.refl _ _) _⟩
                case round =>
                  obtain ⟨l, rfl, hf, he, hB⟩ := hrel
                  rename World => wr4
                  have HBR3 := Lib.hid hB
                  have HFF3 := Lib.hid hf
                  obtain ⟨f0, f1, f2, f3, f4, f5, f6, f7, flt⟩ := BF.out _ (below_via HBR2.out hB)
                  by_cases hlp : l < G.hd.np
                  · obtain ⟨⟨fr, ix⟩, hx⟩ : ∃ e, G.P[l]? = some e := ⟨_, List.getElem?_eq_getElem (by have := hcl.out; omega)⟩
                    obtain ⟨b3, off3, hA3, hbl3, ⟨e0, e1⟩⟩ := reads_atP (HCAP.out.below hB) hx
                    rw [HAP.out] at hA3
                    subst hA3
                    simp only at e0 e1
                    have hall4 := Lib.hid (he.trans (all_dropP hx))
                    have hl' : (l : Int) < G.hd.np := by omega
                    obtain ⟨f3', hf3⟩ : ∃ f3, gk = f3 + 1 := ⟨gk - 1, by omega⟩
                    have HF3 := Lib.hid hf3
                    clear hx hf hf3 he hB
                    cases ok : okP F.hd.re F.hd.np ⟨fr, ix⟩
                    · have OK := Lib.hid ok
                      have hw := okP_false ok
                      clear ok
                      cases fr
                      all_goals
                        simp only [if_true, if_false, Bool.false_eq_true] at hw
                        rcases hw with hw | ⟨hw1, hw2⟩
                        all_goals
                          go_wp2_with fail
                          go_ret
                          exact ⟨ret_int (by rw [HFIN.out, hall.out, hall3.out, hall4.out, OK.out]; rfl), below_via HB.out (below_via hbw.out HBR3.out)⟩
                    · have OK := Lib.hid ok
                      have hw := okP_true ok
                      clear ok
                      cases fr
                      all_goals
                        simp only [if_true, if_false, Bool.false_eq_true] at hw
                        obtain ⟨hw1, hw2⟩ := hw
                        go_wp2_with fail
                        go_roundg f3'
                        case measure => have := HF3.out; omega
                        case rel => exact ⟨l + 1, by simp, by have := HF3.out; have := HFF3.out; omega, by rw [hall4.out, OK.out]; rfl, HBR3.out⟩
                  · have hl' : ¬ (l : Int) < G.hd.np := by omega
                    have hfin2 : G.P.all (okP F.hd.re F.hd.np) = true := by rw [he, List.drop_of_length_le (by have := hcl.out; omega)]; rfl
                    have HFIN2 := Lib.hid hfin2
                    clear hf he hB hfin2
                    go_wp2_with fail
                    go_roundg f2'
                    case measure => have := HF2.out; omega
                    case rel => exact ⟨j + 1, by simp, by have := HF2.out; have := HFF2.out; omega, by rw [hall3.out, HFIN2.out]; rfl, below_via HBR2.out HBR3.out⟩
              · have hti : takesI Fs F ⟨es, eh, eo, ec⟩ = true := by unfold takesI; simp [h12]
                rw [hti] at hall2
                have hall3 := Lib.hid hall2
                have hy : (es != 12) = true := by simpa using h12
                clear hx hf hf2 he hB hti hall2 h12 hin2 hA2
                go_wp2_with fail
                go_roundg f2'
                case measure => have := HF2.out; omega
                case rel => exact ⟨j + 1, by simp, by have := HF2.out; have := HFF2.out; omega, by rw [hall3.out]; rfl, HBR2.out⟩
            · have hj' : ¬ (j : Int) < F.hd.nc := by omega
              have hfin : takesF Fs F = true := by rw [he, List.drop_of_length_le (by have := hlc.out; omega)]; rfl
              have HFIN3 := Lib.hid hfin
              clear hf he hB hfin
              go_wp2_with fail
              go_roundg f'
              case measure => have := HF'.out; omega
              case rel => exact ⟨k + 1, by simp, by have := HF'.out; have := HFF.out; omega, by rw [hall.out, HFIN3.out]; rfl, hbw.out⟩
        · have hk' : ¬ (k : Int) < n := by omega
          clear hf hB he
          go_wp2_with fail
          go_ret
          exact ⟨ret_int (by rw [HFIN.out, HE.out, List.drop_of_length_le (by have := hl.out; omega)]; rfl), below_via HB.out HBR.out⟩
theorem rcheck_calls (w : World) (A : Option Addr) (n c : Nat) (Fs : List Fn) (hP : PIs w A n Fs) :
    Calls Tryd.prog 11 #[pv A n c] w fun r w' => r = .returned (.int .i64 (chkV (chk n Fs))) ∧ Below w.heap.size w w' := by
  unfold chk
  cases ho : headOk Fs
  · exact rcheck_head w A n c Fs hP ho
  · rw [Bool.true_and]; exact rcheck_rest w A n c Fs hP ho
end Go.Proofs.YteagkdmefmpokaaDoor
