/- Scope: jump. -/
import Derived.Test.YtlenhcmgcgccmaaDoorUo
namespace Go.Proofs.YtlenhcmgcgccmaaDoor
open Go.RowKit Go
set_option linter.unusedVariables false
set_option linter.unusedSimpArgs false
set_option maxRecDepth 100000 in
set_option maxHeartbeats 8000000 in
theorem jump_calls (w : World) (p B : Nat) (ms : List Nat) (E : Env) (o : Out) (R : Rw) (t : Tr) (kv : Value) (h : WAt w p B ms E o R) (hbd : E.labels.length ≤ 2000000 ∧ E.loops ≤ 2000000) (hk : KidsAt w B kv t.kids) :
    WCall 43 w p B ms E R t kv (jumpW E t o) := by
  unfold WCall
  obtain ⟨A, cap, rfl, hcl, hcm, hA⟩ := hk.slice
  obtain ⟨U, hU⟩ : ∃ U, w.alloc (.cells #[.int .i64 t.kind, .int .i64 t.at_, .string t.name, .int .u64 t.num, .string t.op, .slice A t.kids.length cap] 31) = U := ⟨_, rfl⟩
  have W1 : Below w.heap.size w U := by rw [← hU]; exact below_alloc (Below.refl _ _)
  have h1 := h.fr W1
  have hb8 : Blk U w.heap.size 31 #[.int .i64 t.kind, .int .i64 t.at_, .string t.name, .int .u64 t.num, .string t.op, .slice A t.kids.length cap] := by rw [← hU]; exact Blk.new _ _ _
  have e0 := hb8.cell 0
  have e1 := hb8.cell 1
  have e2 := hb8.cell 2
  obtain ⟨Al, cl, hlv⟩ := own_is_slice h1.inn.lb
  have hr := h.blk
  rw [hlv] at hr
  have r5 := hr.cell 5
  have r6 := hr.cell 6
  simp only [List.getElem?_toArray, List.getElem?_cons_succ, List.getElem?_cons_zero] at e0 e1 e2 r5 r6
  have hpw := hr.lt
  have np : w.heap.size ≠ p := by omega
  have hpl : p < U.heap.size := h1.blk.lt
  have r5' : U.cell? ⟨p, 5, none⟩ = some (.slice Al E.labels.length cl) := (W1.cell (p := ⟨p, 5, none⟩) hpw).trans r5
  have h8l := hb8.lt
  have FC := Lib.hid fail_calls
  have HW := Lib.hid h
  have HB := Lib.hid (show Below B w U from W1.mono h.inn.sz)
  have HF := Lib.hid (show Fr (Ft p R) w U from Fr.of_below W1)
  have H1 := Lib.hid h1
  have hlb := h1.inn.lb
  rw [hlv] at hlb
  have hn : ∀ (b : Bool) w1, (Op.unary .not (.bool b)).run Tryd.prog w1 = .ok (.bool (!b)) w1 := fun _ _ => rfl
  have IC := Lib.hid (lindex64 U B w.heap.size _ E.labels t.name hlb hbd.1 hb8.lt e2)
  have KX := Lib.hid (fun (v : World) (b : Below U.heap.size U v) => show v.cell? ⟨w.heap.size, 0, none⟩ = some (.int .i64 t.kind) ∧ v.cell? ⟨w.heap.size, 1, none⟩ = some (.int .i64 t.at_) ∧ v.cell? ⟨w.heap.size, 2, none⟩ = some (.string t.name) ∧ v.cell? ⟨p, 5, none⟩ = some (.slice Al E.labels.length cl) ∧ w.heap.size < v.heap.size ∧ p < v.heap.size from
    ⟨(b.cell (p := ⟨w.heap.size, 0, none⟩) h8l).trans e0, (b.cell (p := ⟨w.heap.size, 1, none⟩) h8l).trans e1, (b.cell (p := ⟨w.heap.size, 2, none⟩) h8l).trans e2, (b.cell (p := ⟨p, 5, none⟩) hpl).trans r5', Nat.lt_of_lt_of_le h8l b.size, Nat.lt_of_lt_of_le hpl b.size⟩)
  have HLB := Lib.hid hlb
  have hln := hbd.1
  have hlp := hbd.2
  clear h1 hlv hlb W1 r5'
  unfold jumpW
  by_cases hnm : t.name = ⟨#[]⟩
  · rw [if_pos hnm]
    have qn : (t.name.toList == []) = true := by rw [hnm]; simp
    clear hnm
    by_cases hl0 : E.loops = 0
    · rw [if_pos hl0]
      rw [show (E.loops : Int) = 0 by omega] at r6
      try clear hk40
      clear h hk hcl hcm hA hb8 hr hbd
      subst hU
      go_enter Tryd.func43, Tryd.ntmps43
      go_wp2_with (first | (go_at_call 39; (with_reducible refine (FC.out _ _ _).mono ?_); rintro e w2 ⟨rfl, rfl⟩; unfold bad))
      exact ⟨rfl, WP.err rfl ⟨rfl, HB.out⟩⟩
    · rw [if_neg hl0]
      have q0 : ((E.loops : Int) == 0) = false := by simp [hl0]
      have q1 : ¬ (E.loops : Int) = 0 := by omega
      try clear hk40
      clear h hk hcl hcm hA hb8 hr hbd
      subst hU
      go_enter Tryd.func43, Tryd.ntmps43
      go_wp2
      first | go_end0 | go_ret | (refine bodyPost_ret (results_none rfl _ _ _) rfl ?_)
      exact WP.ok rfl ⟨⟨_, rfl⟩, R, H1.out, HF.out, Gr.refl _ _ _⟩
  · rw [if_neg hnm]
    have qn : (t.name.toList == []) = false := by simpa using toList_ne hnm
    cases hfd : E.labels.find? (fun l => decide (l.1 = t.name)) with
    | none =>
      have hx := lidx_none E.labels 0 hfd
      rw [hx] at IC
      clear hx hfd
      try clear hk40
      clear h hk hcl hcm hA hb8 hr hbd
      subst hU
      go_enter Tryd.func43, Tryd.ntmps43
      go_wp2_with (first | (go_at_call 63; (with_reducible refine IC.out.mono ?_); rintro e v1 ⟨rfl, g1⟩; obtain ⟨y0, y1, y2, y5, l0, l1⟩ := KX.out _ g1; have G1 := Lib.hid g1; clear g1) | (go_at_call 39; (with_reducible refine (FC.out _ _ _).mono ?_); rintro e w2 ⟨rfl, rfl⟩; unfold bad))
      exact ⟨rfl, WP.err rfl ⟨rfl, HB.out.trans (G1.out.mono (Nat.le_trans HW.out.inn.sz HF.out.size))⟩⟩
    | some y =>
      obtain ⟨j, hx, hj⟩ := lidx_some E.labels 0 hfd
      have hx : lidx E.labels t.name 0 = (j : Int) := by rw [hx]; omega
      rw [hx] at IC
      have hjl := (List.getElem?_eq_some_iff.1 hj).1
      have hj1 : (0 : Int) ≤ (j : Int) ∧ (j : Int) < (E.labels.length : Int) := by omega
      have hj2 : ¬ (j : Int) < 0 := by omega
      obtain ⟨g, c', eg, _, hg, _, _⟩ := own_some HLB.out (by omega)
      injection eg with eg _ eg2
      subst eg
      subst eg2
      have a1 := (own_cell HLB.out (k := j * 2 + 1) (u := .bool y.2) (flat_get (f := lcells) (s := 2) (fun _ => rfl) E.labels j 1 y hj (by omega))).1
      have LX := Lib.hid (fun (v : World) (b : Below U.heap.size U v) => show v.cell? ⟨g, j * 2 + 1, none⟩ = some (.bool y.2) from (b.cell (p := ⟨g, j * 2 + 1, none⟩) hg).trans a1)
      have hgl := hg
      clear hx hj hfd a1 hjl hg
      by_cases hk40 : t.kind = 40
      · have q40 : (t.kind == 40) = true := by simp [hk40]
        cases hy : y.2 with
        | false =>
          rw [hy] at LX
          dsimp only
          rw [if_pos ⟨hk40, hy⟩]
          try clear hk40
          clear h hk hcl hcm hA hb8 hr hbd
          subst hU
          go_enter Tryd.func43, Tryd.ntmps43
          go_wp2_with (first | (go_at_call 63; (with_reducible refine IC.out.mono ?_); rintro e v1 ⟨rfl, g1⟩; have l2 := LX.out _ g1; obtain ⟨y0, y1, y2, y5, l0, l1⟩ := KX.out _ g1; have G1 := Lib.hid g1; clear g1) | (go_at_call 39; (with_reducible refine (FC.out _ _ _).mono ?_); rintro e w2 ⟨rfl, rfl⟩; unfold bad))
          exact ⟨rfl, WP.err rfl ⟨rfl, HB.out.trans (G1.out.mono (Nat.le_trans HW.out.inn.sz HF.out.size))⟩⟩
        | true =>
          rw [hy] at LX
          dsimp only
          rw [if_neg (fun h => by rw [hy] at h; cases h.2)]
          try clear hk40
          clear h hk hcl hcm hA hb8 hr hbd
          subst hU
          go_enter Tryd.func43, Tryd.ntmps43
          go_wp2_with (first | (go_at_call 63; (with_reducible refine IC.out.mono ?_); rintro e v1 ⟨rfl, g1⟩; have l2 := LX.out _ g1; obtain ⟨y0, y1, y2, y5, l0, l1⟩ := KX.out _ g1; have G1 := Lib.hid g1; clear g1) | (go_at_call 39; (with_reducible refine (FC.out _ _ _).mono ?_); rintro e w2 ⟨rfl, rfl⟩; unfold bad))
          first | go_end0 | go_ret | (refine bodyPost_ret (results_none rfl _ _ _) rfl ?_)
          exact WP.ok rfl ⟨⟨_, rfl⟩, R, H1.out.fr G1.out, HF.out.tr (Fr.of_below G1.out), Gr.refl _ _ _⟩
      · have q40 : (t.kind == 40) = false := by simp [hk40]
        dsimp only
        rw [if_neg (fun h => hk40 h.1)]
        try clear hk40
        clear h hk hcl hcm hA hb8 hr hbd
        subst hU
        go_enter Tryd.func43, Tryd.ntmps43
        go_wp2_with (first | (go_at_call 63; (with_reducible refine IC.out.mono ?_); rintro e v1 ⟨rfl, g1⟩; have l2 := LX.out _ g1; obtain ⟨y0, y1, y2, y5, l0, l1⟩ := KX.out _ g1; have G1 := Lib.hid g1; clear g1) | (go_at_call 39; (with_reducible refine (FC.out _ _ _).mono ?_); rintro e w2 ⟨rfl, rfl⟩; unfold bad))
        first | go_end0 | go_ret | (refine bodyPost_ret (results_none rfl _ _ _) rfl ?_)
        exact WP.ok rfl ⟨⟨_, rfl⟩, R, H1.out.fr G1.out, HF.out.tr (Fr.of_below G1.out), Gr.refl _ _ _⟩
end Go.Proofs.YtlenhcmgcgccmaaDoor
