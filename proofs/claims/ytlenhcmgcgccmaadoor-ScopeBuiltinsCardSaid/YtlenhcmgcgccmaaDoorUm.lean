/- Scope: a function's closures: what comes ahead of its body. -/
import Derived.Test.YtlenhcmgcgccmaaDoorUl
namespace Go.Proofs.YtlenhcmgcgccmaaDoor
open Go.RowKit Go
set_option linter.unusedVariables false
set_option linter.unusedSimpArgs false
theorem scp_modify {o : Out} {fn : Nat} {g : Sc → Sc} (h : fn < o.scopes.length) : (Out.scp { o with scopes := o.scopes.modify fn g } fn) = g (o.scp fn) := by
  unfold Out.scp
  simp only [List.getD_eq_getElem?_getD, List.getElem?_modify, List.getElem?_eq_getElem h]
  simp
theorem declareP_vars {fn : Nat} {nm : ByteArray} {a k : Int} {b : Bk} {o : Out} {y : Bk × Out} (hfn : fn < o.scopes.length) (h : declareP fn nm a k b o = .ok y) : (y.2.scp fn).vars ≤ 200 ∧ y.2.scopes.length = o.scopes.length := by
  unfold declareP at h
  split at h
  · cases h
  · split at h
    · cases h
    · rename_i h1 h2
      injection h with h
      subst h
      refine ⟨?_, by simp [incV]⟩
      show (Out.scp { scopes := o.scopes.modify fn (fun s => { s with vars := s.vars + 1 }), vars := _, uses := o.uses } fn).vars ≤ 200
      have := scp_modify (o := o) (g := fun s => { s with vars := s.vars + 1 }) hfn
      unfold Out.scp at this ⊢
      simp only at this ⊢
      rw [this]
      show (o.scp fn).vars + 1 ≤ 200
      omega
theorem paramsP_vars {fn : Nat} : ∀ (l : List Tr) (b : Bk) (o : Out) (x : Bk × Out), fn < o.scopes.length → (o.scp fn).vars ≤ 200 → paramsP fn l b o = .ok x → (x.2.scp fn).vars ≤ 200
  | [], b, o, x, _, hv, h => by injection h with h; subst h; exact hv
  | t :: l, b, o, x, hf, hv, h => by
    rw [paramsP] at h
    cases h1 : declareP fn t.name t.at_ 3 b o with
    | error c => rw [seqD_err h1] at h; cases h
    | ok y =>
      rw [seqD_ok h1] at h
      have h2 := declareP_vars hf h1
      exact paramsP_vars l y.1 y.2 x (by rw [h2.2]; exact hf) h2.1 h
set_option maxRecDepth 100000 in
set_option maxHeartbeats 8000000 in
theorem ahead_calls (w : World) (p B m : Nat) (ms : List Nat) (E : Env) (bs : List Bk) (o : Out) (R : Rw) (l : List Tr) (A : Option Addr) (cap : Nat) (h : WAt w p B (ms ++ [m]) (E.at (bs ++ [[]])) o R) (hlen : bs.length ≤ 2000000) (hk : KidsAt w B (.slice A l.length cap) l) (hvl : o.len + l.length ≤ 2000000) (hv : (o.scp E.fn).vars ≤ 200)
    (own : Bool) (q1 q2 q9 q10 : Nat) (hb1 : Blk w q1 29 #[.slice A l.length cap]) (hb2 : Blk w q2 60 #[.pointer (some ⟨p, 0, none⟩)]) (hb9 : Blk w q9 1 #[.func (.func 60) #[] #[.pointer (some ⟨q1, 0, none⟩), .pointer (some ⟨q2, 0, none⟩)]]) (hb10 : Blk w q10 4 #[.bool own]) :
    Calls Tryd.prog 61 #[.pointer (some ⟨q9, 0, none⟩), .pointer (some ⟨q10, 0, none⟩), .pointer (some ⟨q2, 0, none⟩)] w (DP w p B ms m E bs R (aheadP own E.fn l [] o)) := by
  have PC := params_calls w p B m ms E bs o R l A cap h hlen hk hvl q1 q2 hb1 hb2
  have hml : ms.length = bs.length := by have := h.inn.mlen; simpa [Env.at] using this
  have hmm := (own_above h hml).1
  have no : ∀ {q : Nat} {t : TypeId} {cs : Array Value}, Blk w q t cs → (t ≠ 64 ∧ t ≠ 41 ∧ t ≠ 44 ∧ t ≠ 46 ∧ t ≠ 78 ∧ t ≠ 99) → ¬ (Ft p R q ∨ q = m) := fun hb ht e => by
    rcases e with e | e
    · exact h.not_ft hb ht e
    · subst e; exact hmm.no_cells hb
  have c9 := hb9.cell 0
  simp only [List.getElem?_toArray, List.getElem?_cons_zero] at c9
  have KX := Lib.hid (fun (v : World) (f : Fr (fun y => Ft p R y ∨ y = m) w v) => show v.cell? ⟨q10, 0, none⟩ = some (.bool own) ∧ v.cell? ⟨q2, 0, none⟩ = some (.pointer (some ⟨p, 0, none⟩)) ∧ Blk v q2 60 #[.pointer (some ⟨p, 0, none⟩)] from ⟨f.cel hb10 (no hb10 (by decide)) 0 rfl, f.cel hb2 (no hb2 (by decide)) 0 rfl, f.blk hb2 (no hb2 (by decide))⟩)
  have HFN := Lib.hid (show E.fn < o.scopes.length from h.inn.fnlt)
  have HV := Lib.hid hv
  clear h hk hvl hlen hb1 hb2 hb9 hb10 hml hmm no hv
  cases hr : paramsP E.fn l [] o with
  | error cc =>
    have CC := Lib.hid (PC.mono (R' := fun e w' => e = bad cc ∧ Below B w w') fun e w' hh => hh.2 cc hr)
    have HE := Lib.hid (show aheadP own E.fn l [] o = .error cc from by unfold aheadP; rw [seqD_err hr])
    clear hr PC
    obtain ⟨e1, e2⟩ := cc
    unfold bad at CC
    go_enter Tryd.func61, Tryd.ntmps61
    go_wp2_with (first | (go_at_call 60; (with_reducible refine CC.out.mono ?_); rintro e v1 ⟨rfl, g1⟩; have G1 := Lib.hid g1; clear g1))
    exact ⟨rfl, DP.err HE.out ⟨rfl, G1.out⟩⟩
  | ok x1 =>
    obtain ⟨b1, o1⟩ := x1
    have CC := Lib.hid (PC.mono (R' := fun e w' => (∃ v, e = .returned v) ∧ ∃ R'', WAt w' p B (ms ++ [m]) (E.at (bs ++ [b1])) o1 R'' ∧ Fr (fun y => Ft p R y ∨ y = m) w w' ∧ Gr w.heap.size p R R'') fun e w' hh => hh.1 _ hr)
    have HE := Lib.hid (show aheadP own E.fn l [] o = .ok (b1, if own = true then incV E.fn o1 else o1) from by unfold aheadP; rw [seqD_ok hr])
    have HV1 := Lib.hid (paramsP_vars l [] o _ HFN.out HV.out hr)
    clear hr PC
    cases own
    · go_enter Tryd.func61, Tryd.ntmps61
      go_wp2_with (first | (go_at_call 60; (with_reducible refine CC.out.mono ?_); rintro e v1 ⟨⟨v, rfl⟩, R1, g1, g2, g3⟩; obtain ⟨x10, x2, x3⟩ := KX.out _ g2; have G1 := Lib.hid g1; have G2 := Lib.hid g2; have G3 := Lib.hid g3; clear g1 g2 g3 x3))
      first | go_end0 | (refine bodyPost_ret (results_none rfl _ _ _) rfl ?_)
      exact DP.ok HE.out ⟨⟨_, rfl⟩, R1, G1.out, G2.out, G3.out⟩
    · go_enter Tryd.func61, Tryd.ntmps61
      go_wp2_with (first | (go_at_call 60; (with_reducible refine CC.out.mono ?_); rintro e v1 ⟨⟨v, rfl⟩, R1, g1, g2, g3⟩; obtain ⟨x10, x2, x3⟩ := KX.out _ g2; have X3 := Lib.hid x3; have G1 := Lib.hid g1; have G2 := Lib.hid g2; have G3 := Lib.hid g3; clear g1 g2 g3 x3))
      obtain ⟨gs, cs, hsv, hs0, hs1, hs2, hs3⟩ := own_some G1.out.inn.sc (Nat.lt_of_le_of_lt (Nat.zero_le _) G1.out.inn.fnlt)
      have hfn1 : E.fn < o1.scopes.length := G1.out.inn.fnlt
      have hat : o1.scopes[E.fn]? = some (o1.scp E.fn) := by unfold Out.scp; rw [List.getD_eq_getElem?_getD, List.getElem?_eq_getElem hfn1]; rfl
      have hsc := G1.out.inn.sc
      rw [hsv] at hsc
      obtain ⟨cv, fv⟩ := own_cell hsc (k := E.fn * 4 + 3) (u := .int .i64 (o1.scp E.fn).vars) (by rw [flat_get (f := Sc.cells) (s := 4) (fun _ => rfl) o1.scopes E.fn 3 _ hat (by omega)]; rfl)
      have hscv := G1.out.inn.scv _ (List.mem_of_getElem? hat)
      have hbr := G1.out.blk
      rw [hsv] at hbr
      have r0 := hbr.cell 0
      have r4 := hbr.cell 4
      simp only [List.getElem?_toArray, List.getElem?_cons_succ, List.getElem?_cons_zero] at r0 r4
      have hk2 : (0 : Int) ≤ (E.fn : Int) ∧ (E.fn : Int) < (o1.scopes.length : Int) := by omega
      have hwv : IntKind.i64.wrap ((o1.scp E.fn).vars + 1) = (o1.scp E.fn).vars + 1 := by rw [IntKind.wrap_i64]; omega
      have hgp : gs ≠ p := own_ne_blk G1.out.inn.sc G1.out.blk (by decide) (by rw [hsv]; rfl)
      have HSV := Lib.hid hsv
      have HF1 := Lib.hid hfn1
      clear hsc hat hsv hbr hscv hfn1
      have hTr : True := trivial
      refine wp_region_tail (S := (fun w' => w'.cell? ⟨q2, 0, none⟩ = some (.pointer (some ⟨p, 0, none⟩)) ∧ w'.cell? ⟨p, 0, none⟩ = some (.slice (some ⟨gs, 0, none⟩) o1.scopes.length cs) ∧ w'.cell? ⟨p, 4, none⟩ = some (.int .i64 (E.fn : Int)) ∧ w'.cell? ⟨gs, E.fn * 4 + 3, none⟩ = some (.int .i64 (o1.scp E.fn).vars))) 13 3 rfl (by kernel_rfl) ?_ (fun hHeld => ?_)
      · exact ⟨x2, r0, r4, cv⟩
      refine tt 0 ?_
      try simp only [Act.put, z1, z2, z3]
      refine tt 1 ?_
      try simp only [Act.put, z1, z2, z3]
      refine tt 2 ?_
      try simp only [Act.put, z1, z2, z3]
      refine tt 3 ?_
      try simp only [Act.put, z1, z2, z3]
      refine tt 4 ?_
      try simp only [Act.put, z1, z2, z3]
      refine tt 5 ?_
      try simp only [Act.put, z1, z2, z3]
      refine tt 6 ?_
      try simp only [Act.put, z1, z2, z3]
      refine tt 7 ?_
      try simp only [Act.put, z1, z2, z3]
      refine tt 8 ?_
      try simp only [Act.put, z1, z2, z3]
      refine tt 9 ?_
      try simp only [Act.put, z1, z2, z3]
      refine tt 10 ?_
      try simp only [Act.put, z1, z2, z3]
      refine tt 11 ?_
      try simp only [Act.put, z1, z2, z3]
      refine tt 12 ?_
      try simp only [Act.put, z1, z2, z3]
      refine wpAnyT_done (by kernel_rfl) ?_
      refine tk 13 ?_
      try simp only [Act.put, z1, z2, z3]
      refine tk 14 ?_
      try simp only [Act.put, z1, z2, z3]
      refine wpAnyH_ready (rs := [15]) (by kernel_rfl) (by simp) ?_
      refine (AllReadyH.cons (i := 15) (o := ?o16) ?h16 (fun K hK => ?k16) AllReadyH.nil)
      case h16 => (simp only [List.getElem?_toArray, List.getElem?_cons_succ, List.getElem?_cons_zero]; try rfl)
      case k16 =>
        go_simp
        try go_wp2_with fail
        refine hK.out _ _ ?_ (fun hHeld => ?_)
        · trivial
        clear hK K
        try simp only [Act.put, z1, z2, z3]
        refine wpAnyH_done (by kernel_rfl) ?_ _
        go_wp2
        go_end0
        have i2 := (G1.out.inn.inc (g := gs) (n := o1.scopes.length) (c := cs) HSV.out HF1.out HV1.out).fr (Below.refl _ _).drew
        exact DP.ok HE.out ⟨⟨_, rfl⟩, R1, ⟨G1.out.hp, (G1.out.blk.far (fun e => hgp e.symm) _).drew, i2, fun b hb => G1.out.ent b hb⟩, ((G2.out.set (p := gs) (i := E.fn * 4 + 3) (by
          rcases G3.out gs (.inr (.inl (by rw [HSV.out]; rfl))) with e | e
          · exact .inl (.inl e)
          · exact .inr e) (.int .i64 ((o1.scp E.fn).vars + 1))).drew), G3.out⟩
end Go.Proofs.YtlenhcmgcgccmaaDoor
