/- Code: may a program be run? the program's own. -/
import Derived.Test.YteagkdmefmpokaaDoorEh
namespace Go.Proofs.YteagkdmefmpokaaDoor
open Go.RowKit Go
set_option linter.unusedVariables false
set_option linter.unusedSimpArgs false
/-- may the first function be? -/
def first0 (h : Hd) : Bool := (h.pa == 0) && (!h.ge && decide (h.np = 0))
def headOk (Fs : List Fn) : Bool := decide (0 < Fs.length) && (decide (Fs.length ≤ 200) && ((Fs[0]?).map fun F => first0 F.hd).getD false)
/-- may a program be run? -/
def chk (n : Nat) (Fs : List Fn) : Bool := headOk Fs && (Fs.all (fnOk n) && takesB Fs)
def chkV (b : Bool) : Int := if b then 0 else 80
theorem ret_int {k : IntKind} {a b : Int} (h : a = b) : Ending.returned (.int k a) = .returned (.int k b) := by rw [h]
theorem okI_closure {n : Nat} {F : Fn} {e : En} (h : okI n F e = true) (h12 : e.s = 12) : 0 ≤ e.o ∧ e.o < n := by
  have hs : shp 12 = [119, 102, 45] := by decide
  rw [okI_eq, h12, hs] at h
  simp only [ltr, List.getD_cons_succ, List.getD_cons_zero, Bool.and_eq_true] at h
  have := h.2.2.1
  rw [show ((102 : UInt8).toNat : Int) = 102 from rfl, opd_f, Bool.and_eq_true] at this
  exact within_true this.1
theorem in_of_all {n : Nat} {Fs : List Fn} (h : Fs.all (fnOk n) = true) : ∀ F ∈ Fs, ∀ e ∈ F.C, e.s = 12 → 0 ≤ e.o ∧ e.o < n := by
  intro F hF e he h12
  have h1 := List.all_eq_true.1 h F hF
  simp only [fnOk, Bool.and_eq_true] at h1
  exact okI_closure (List.all_eq_true.1 h1.2.1 e he) h12
theorem At8.zero {w : World} {b off : Nat} {h : Hd} (k : At8 w b off 0 h) : w.cell? ⟨b, off + 1, none⟩ = some (.int .i64 h.pa) ∧ w.cell? ⟨b, off + 3, none⟩ = some (.bool h.ge) ∧ w.cell? ⟨b, off + 6, none⟩ = some (.slice h.Ap h.np h.cp) := by
  have h1 := k.c1; have h2 := k.c3; have h3 := k.c6
  simp only [Nat.zero_mul, Nat.add_zero] at h1 h2 h3
  exact ⟨h1, h2, h3⟩
theorem first0_ways {h : Hd} (k : first0 h = false) : (h.pa != 0) = true ∨ ((h.pa == 0) = true ∧ h.ge = true) ∨ ((h.pa == 0) = true ∧ h.ge = false ∧ 0 < h.np) := by
  unfold first0 at k
  by_cases h1 : h.pa = 0
  · cases h2 : h.ge
    · right; right
      refine ⟨by simp [h1], rfl, ?_⟩
      simp [h1, h2] at k
      omega
    · exact .inr (.inl ⟨by simp [h1], rfl⟩)
  · exact .inl (by simpa using h1)
theorem first0_all {h : Hd} (k : first0 h = true) : h.pa = 0 ∧ h.ge = false ∧ h.np = 0 := by
  unfold first0 at k
  simp only [Bool.and_eq_true, beq_iff_eq, Bool.not_eq_true', decide_eq_true_eq] at k
  exact k
set_option maxRecDepth 100000 in
set_option maxHeartbeats 8000000 in
theorem check_head (w : World) (A : Option Addr) (n c : Nat) (Fs : List Fn) (hP : PIs w A n Fs) (ho : headOk Fs = false) :
    Calls Tryd.prog 10 #[pv A n c] w fun r w' => r = .returned (.int .i64 80) ∧ Below w.heap.size w w' := by
  have HB := Lib.hid (below_new w (.cells #[.slice A n c] 24))
  have hl := reads_len8 hP.rd
  have hn := hP.n
  unfold pv
  by_cases h1 : 0 < n
  · have hz : ((n : Int) == 0) = false := by simp; omega
    by_cases h2 : n ≤ 200
    · have d2 : decide (200 < (n : Int)) = false := by simp; omega
      obtain ⟨F, hx⟩ : ∃ F, Fs[0]? = some F := ⟨_, List.getElem?_eq_getElem (by omega)⟩
      obtain ⟨b, off, rfl, hbl, h8⟩ := reads_at8 (hP.later (below_new w (.cells #[.slice A n c] 24))).rd hx
      obtain ⟨c1, c3, c6⟩ := h8.zero
      have hf : first0 F.hd = false := by
        unfold headOk at ho; rw [hl, hx] at ho; simpa [h1, h2] using ho
      have n0 : (0 : Int) < n := by omega
      rcases first0_ways hf with q1 | ⟨q1, q2⟩ | ⟨q1, q2, q3⟩
      · clear hP h8 hx ho hf hl
        go_enter Tryd.func10, Tryd.ntmps10
        go_wp2_with fail
        go_ret
        exact ⟨rfl, HB.out⟩
      · rw [show F.hd.pa = 0 by simpa using q1] at c1
        rw [q2] at c3
        clear hP h8 hx ho hf hl q1 q2
        go_enter Tryd.func10, Tryd.ntmps10
        go_wp2_with fail
        go_ret
        exact ⟨rfl, HB.out⟩
      · rw [show F.hd.pa = 0 by simpa using q1] at c1
        rw [q2] at c3
        clear hP h8 hx ho hf hl q1 q2
        go_enter Tryd.func10, Tryd.ntmps10
        go_wp2_with fail
        go_ret
        exact ⟨rfl, HB.out⟩
    · clear hP ho hl
      go_enter Tryd.func10, Tryd.ntmps10
      go_wp2_with fail
      go_ret
      exact ⟨rfl, HB.out⟩
  · have hz : ((n : Int) == 0) = true := by simp; omega
    clear hP ho hl h1
    go_enter Tryd.func10, Tryd.ntmps10
    go_wp2_with fail
    go_ret
    exact ⟨rfl, HB.out⟩
set_option maxRecDepth 100000 in
set_option maxHeartbeats 8000000 in
theorem rcheck_head (w : World) (A : Option Addr) (n c : Nat) (Fs : List Fn) (hP : PIs w A n Fs) (ho : headOk Fs = false) :
    Calls Tryd.prog 11 #[pv A n c] w fun r w' => r = .returned (.int .i64 80) ∧ Below w.heap.size w w' := by
  have HB := Lib.hid (below_new w (.cells #[.slice A n c] 24))
  have hl := reads_len8 hP.rd
  have hn := hP.n
  unfold pv
  by_cases h1 : 0 < n
  · have hz : ((n : Int) == 0) = false := by simp; omega
    by_cases h2 : n ≤ 200
    · have d2 : decide (200 < (n : Int)) = false := by simp; omega
      obtain ⟨F, hx⟩ : ∃ F, Fs[0]? = some F := ⟨_, List.getElem?_eq_getElem (by omega)⟩
      obtain ⟨b, off, rfl, hbl, h8⟩ := reads_at8 (hP.later (below_new w (.cells #[.slice A n c] 24))).rd hx
      obtain ⟨c1, c3, c6⟩ := h8.zero
      have hf : first0 F.hd = false := by
        unfold headOk at ho; rw [hl, hx] at ho; simpa [h1, h2] using ho
      have n0 : (0 : Int) < n := by omega
      rcases first0_ways hf with q1 | ⟨q1, q2⟩ | ⟨q1, q2, q3⟩
      · clear hP h8 hx ho hf hl
        go_enter Tryd.func11, Tryd.ntmps11
        go_wp2_with fail
        go_ret
        exact ⟨rfl, HB.out⟩
      · rw [show F.hd.pa = 0 by simpa using q1] at c1
        rw [q2] at c3
        clear hP h8 hx ho hf hl q1 q2
        go_enter Tryd.func11, Tryd.ntmps11
        go_wp2_with fail
        go_ret
        exact ⟨rfl, HB.out⟩
      · rw [show F.hd.pa = 0 by simpa using q1] at c1
        rw [q2] at c3
        clear hP h8 hx ho hf hl q1 q2
        go_enter Tryd.func11, Tryd.ntmps11
        go_wp2_with fail
        go_ret
        exact ⟨rfl, HB.out⟩
    · clear hP ho hl
      go_enter Tryd.func11, Tryd.ntmps11
      go_wp2_with fail
      go_ret
      exact ⟨rfl, HB.out⟩
  · have hz : ((n : Int) == 0) = true := by simp; omega
    clear hP ho hl h1
    go_enter Tryd.func11, Tryd.ntmps11
    go_wp2_with fail
    go_ret
    exact ⟨rfl, HB.out⟩
set_option maxRecDepth 100000 in
set_option maxHeartbeats 16000000 in
theorem check_rest (w : World) (A : Option Addr) (n c : Nat) (Fs : List Fn) (hT : Tab w) (hP : PIs w A n Fs) (ho : headOk Fs = true) :
    Calls Tryd.prog 10 #[pv A n c] w fun r w' => r = .returned (.int .i64 (chkV (Fs.all (fnOk n) && takesB Fs))) ∧ Below w.heap.size w w' := by
  have HB := Lib.hid (below_new w (.cells #[.slice A n c] 24))
  have HP := Lib.hid (fun (W : World) (b : Below (box1 w A n c).heap.size (box1 w A n c) W) => (hP.later (below_new w (.cells #[.slice A n c] 24))).later b)
  have HC := Lib.hid (fun (W : World) (b : Below (box1 w A n c).heap.size (box1 w A n c) W) => box1_cell b)
  have hl := Lib.hid (reads_len8 hP.rd)
  have hn := hP.n
  have hmf : ∀ (fn : _root_.Go.Fn) (first cap : Array Value) (w : World), (Instr.makeFunc fn first cap).run Tryd.prog w = .ok (.func fn first cap) w := fun _ _ _ _ => rfl
  obtain ⟨F0, hx0⟩ : ∃ F, Fs[0]? = some F := by
    rcases h : Fs[0]? with _ | F
    · unfold headOk at ho; rw [h] at ho; simp at ho
    · exact ⟨F, rfl⟩
  obtain ⟨h1, h2, hf0⟩ : 0 < n ∧ n ≤ 200 ∧ first0 F0.hd = true := by
    unfold headOk at ho
    rw [reads_len8 hP.rd, hx0] at ho
    simpa using ho
  obtain ⟨q1, q2, q3⟩ := first0_all hf0
  obtain ⟨b, off, rfl, hbl, h8⟩ := reads_at8 (hP.later (below_new w (.cells #[.slice A n c] 24))).rd hx0
  obtain ⟨c1, c3, c6⟩ := h8.zero
  rw [q1] at c1
  rw [q2] at c3
  rw [q3] at c6
  have B0 := Lib.hid (Below.refl (box1 w (some ⟨b, off, none⟩) n c).heap.size (box1 w (some ⟨b, off, none⟩) n c))
  have hz : ((n : Int) == 0) = false := by simp; omega
  have d2 : decide (200 < (n : Int)) = false := by simp; omega
  have n0 : (0 : Int) < n := by omega
  have HTb := Lib.hid (fun (W : World) (bb : Below (box1 w (some ⟨b, off, none⟩) n c).heap.size (box1 w (some ⟨b, off, none⟩) n c) W) => (hT.later (below_new w (.cells #[.slice (some ⟨b, off, none⟩) n c] 24))).later bb)
  unfold pv
  clear hP hT h8 hx0 ho hf0 q1 q2 q3 hmf
  go_enter Tryd.func10, Tryd.ntmps10
  go_wp2_with fail
  clear c1 c3 c6
  go_loopg [42] n (fun f i wr => ∃ k : Nat, i = .int .i64 k ∧ k + f = n ∧ Fs.all (fnOk n) = (Fs.drop k).all (fnOk n) ∧ Below (box1 w (some ⟨b, off, none⟩) n c).heap.size (box1 w (some ⟨b, off, none⟩) n c) wr)
  case atStart => exact ⟨0, rfl, by omega, rfl, B0.out⟩
  case round =>
    obtain ⟨k, rfl, hf, he, hB⟩ := hrel
    have HE := Lib.hid he
    have HBR := Lib.hid hB
    have HFF := Lib.hid hf
    by_cases hk : k < n
    · obtain ⟨F, hx⟩ : ∃ F, Fs[k]? = some F := ⟨_, List.getElem?_eq_getElem (by have := hl.out; omega)⟩
      obtain ⟨b', off', hA, hbl', ⟨c0, c1, c2, c3, c4, c5, c6, c7⟩⟩ := reads_at8 (HP.out wr hB).rd hx
      cases hA
      have hmem := List.mem_of_getElem? hx
      have hall := Lib.hid (he.trans (all_dropF hx))
      have hk' : (k : Int) < n := by omega
      obtain ⟨f', hf'⟩ : ∃ f', gk = f' + 1 := ⟨gk - 1, by omega⟩
      have HF' := Lib.hid hf'
      have HAF := Lib.hid (below_new wr (.cells F.hd.b 36))
      obtain ⟨p0, plt⟩ := HC.out _ hB
      have KF := function_calls (wr.alloc (.cells F.hd.b 36)) (some ⟨b, off, none⟩) n c F (HTb.out _ (below_via hB HAF.out)) ((HP.out _ (below_via hB HAF.out)).is F hmem) ((HP.out _ hB).fw F hmem)
      unfold Hd.v pv Hd.b at KF
      unfold Hd.b at HAF
      clear hx hf hf' he hB hmem
      cases ok : fnOk n F
      · rw [ok] at KF
        have OK := Lib.hid ok
        have KF' := Lib.hid KF
        clear KF ok
        go_wp2_with (go_at_call 20; (with_reducible refine KF'.out.mono ?_); rintro r w1 ⟨rfl, hb1⟩)
        go_ret
        exact ⟨ret_int (by rw [hall.out, OK.out]; rfl), below_via HB.out (below_via HBR.out (below_via HAF.out hb1))⟩
      · rw [ok] at KF
        have OK := Lib.hid ok
        have KF' := Lib.hid KF
        clear KF ok
        go_wp2_with (go_at_call 20; (with_reducible refine KF'.out.mono ?_); rintro r w1 ⟨rfl, hb1⟩)
        go_roundg f'
        case measure => have := HF'.out; omega
        case rel => exact ⟨k + 1, by simp, by have := HF'.out; have := HFF.out; omega, by rw [hall.out, OK.out]; rfl, below_via HBR.out (below_via HAF.out hb1)⟩
    · have hk' : ¬ (k : Int) < n := by omega
      have hfin : Fs.all (fnOk n) = true := by rw [he, List.drop_of_length_le (by have := hl.out; omega)]; rfl
      have HFIN := Lib.hid hfin
      have p0 := (HC.out _ hB).1
      have KT := takes_calls wr (some ⟨b, off, none⟩) n c Fs (HP.out _ hB) (in_of_all hfin)
      unfold pv at KT
      clear hf hB he hfin
      cases ok : takesB Fs
      · rw [ok] at KT
        have OK := Lib.hid ok
        have KT' := Lib.hid KT
        clear KT ok
        go_wp2_with (go_at_call 21; (with_reducible refine KT'.out.mono ?_); rintro r w1 ⟨rfl, hb1⟩)
        go_ret
        exact ⟨ret_int (by rw [HFIN.out, OK.out]; rfl), below_via HB.out (below_via HBR.out hb1)⟩
      · rw [ok] at KT
        have OK := Lib.hid ok
        have KT' := Lib.hid KT
        clear KT ok
        go_wp2_with (go_at_call 21; (with_reducible refine KT'.out.mono ?_); rintro r w1 ⟨rfl, hb1⟩)
        go_ret
        exact ⟨ret_int (by rw [HFIN.out, OK.out]; rfl), below_via HB.out (below_via HBR.out hb1)⟩
theorem check_calls (w : World) (A : Option Addr) (n c : Nat) (Fs : List Fn) (hT : Tab w) (hP : PIs w A n Fs) :
    Calls Tryd.prog 10 #[pv A n c] w fun r w' => r = .returned (.int .i64 (chkV (chk n Fs))) ∧ Below w.heap.size w w' := by
  unfold chk
  cases ho : headOk Fs
  · exact check_head w A n c Fs hP ho
  · rw [Bool.true_and]; exact check_rest w A n c Fs hT hP ho
end Go.Proofs.YteagkdmefmpokaaDoor
