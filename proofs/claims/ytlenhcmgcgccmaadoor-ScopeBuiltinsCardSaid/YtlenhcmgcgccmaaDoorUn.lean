/- Scope: function, without a name of its own. -/
import Derived.Test.YtlenhcmgcgccmaaDoorUu
namespace Go.Proofs.YtlenhcmgcgccmaaDoor
open Go.RowKit Go
set_option linter.unusedVariables false
set_option linter.unusedSimpArgs false
set_option maxRecDepth 100000 in
set_option maxHeartbeats 8000000 in
theorem fnW_non {F : WF} {n : Nat} (G : GoodW F n) (L : LenW F) (w : World) (p B : Nat) (ms : List Nat) (E : Env) (o : Out) (R : Rw) (t : Tr) (kv : Value) (h : WAt w p B ms E o R) (hne : 0 < E.blocks.length) (hbd : bnd E o + 9 * t.size ≤ 2000000) (hk : KidsAt w B kv t.kids) (hwf : t.wf1) (hd : t.fitsD (n + 1) = true) (hok : ∃ body, t.kids.getLast? = some body ∧ body.kind = 44 ∧ (∀ k ∈ body.kids, OkS k) ∧ ∀ k ∈ t.kids.dropLast, k.kind = 3 ∧ k.kids = []) (hof : ownP t = false) : WCall 40 w p B ms E R t kv (functionW F E t o) := by
  obtain ⟨body, hbody, h44, hbk, hpar⟩ := hok
  obtain ⟨A, cap, rfl, hcl, hcm, hA⟩ := hk.slice
  obtain ⟨m, hm⟩ : ∃ m, t.kids.length = m + 1 := by
    rcases hl : t.kids with _ | ⟨x, l⟩
    · rw [hl] at hbody; cases hbody
    · exact ⟨l.length, rfl⟩
  have hbi : t.kids[m]? = some body := by rw [List.getLast?_eq_getElem?, hm, Nat.add_sub_cancel] at hbody; exact hbody
  obtain ⟨b, off, rfl, hbB⟩ := hA (by omega)
  obtain ⟨_, hwb, kvb, hnb, hkb⟩ := hk.kid hbi
  obtain ⟨Ab, cb, rfl, _, _, _⟩ := hkb.slice
  obtain ⟨M, hM⟩ : ∃ M, m + 1 = M := ⟨_, rfl⟩
  have hdl : t.kids.dropLast = t.kids.take m := by rw [List.dropLast_eq_take, hm, Nat.add_sub_cancel]
  have hfront : KidsAt w B (.slice (some ⟨b, off, none⟩) m cap) (t.kids.take m) := hk.front m (by omega)
  have hfl : (t.kids.take m).length = m := by rw [List.length_take]; omega
  rw [hm, hM] at hk ⊢
  have hP : functionW F E t o = if 200 ≤ o.scopes.length then .error (t.at_, 72) else bodyW F (enterE E t o) (aheadP (ownP t) o.scopes.length (t.kids.take m)) body.kids (enterO E t o) := by unfold functionW; rw [hbody, hdl]
  unfold WCall
  rw [hP]
  have W0 : Below w.heap.size w ((w.alloc (.cells #[.pointer (some ⟨p, 0, none⟩)] 60)).alloc (.cells #[.int .i64 t.kind, .int .i64 t.at_, .string t.name, .int .u64 t.num, .string t.op, .slice (some ⟨b, off, none⟩) M cap] 31)) := below_alloc (below_alloc (Below.refl _ _))
  have HW := Lib.hid h
  have FC := Lib.hid fail_calls
  obtain ⟨As, cs, hsv⟩ := own_is_slice h.inn.sc
  obtain ⟨Al, cl, hlv⟩ := own_is_slice h.inn.lb
  have hbr := h.blk
  rw [hsv, hlv] at hbr
  have r0 := hbr.cell 0
  simp only [List.getElem?_toArray, List.getElem?_cons_zero] at r0
  have HLV := Lib.hid hlv
  clear hlv
  have hpl := hbr.lt
  have n1 : w.heap.size ≠ p := by omega
  have n2 : w.heap.size + 1 ≠ p := by omega
  by_cases hmany : 200 ≤ o.scopes.length
  · rw [if_pos hmany]
    have hm' : (200 : Int) ≤ (o.scopes.length : Int) := by omega
    have HB0 := Lib.hid (W0.mono h.inn.sz)
    clear h hne hbd hk hwf hd hbk hpar hcl hcm hA hm hbi hnb hkb hM hdl hfront hfl hP W0 hsv hbr hmany G L hbody h44 hwb
    go_enter Tryd.func40, Tryd.ntmps40
    go_wp2_with (first | (go_at_call 39; (with_reducible refine (FC.out _ _ _).mono ?_); rintro e w2 ⟨rfl, rfl⟩; unfold bad))
    exact ⟨rfl, WP.err rfl ⟨rfl, HB0.out⟩⟩
  · rw [if_neg hmany]
    have hm' : ¬ (200 : Int) ≤ (o.scopes.length : Int) := by omega
    have r4 := hbr.cell 4
    have r5 := hbr.cell 5
    have r6 := hbr.cell 6
    simp only [List.getElem?_toArray, List.getElem?_cons_succ, List.getElem?_cons_zero] at r4 r5 r6
    obtain ⟨d0, d1, d2, d3, d4, d5⟩ := hnb.get
    have hbw : b < w.heap.size := Nat.lt_of_lt_of_le hbB h.inn.sz
    have n3 : w.heap.size ≠ b := by omega
    have n4 : w.heap.size + 1 ≠ b := by omega
    have hcm' : (m : Int) + 1 ≤ (cap : Int) ∧ (cap : Int) ≤ 9223372036854775807 := by simp [maxLen] at hcm; omega
    have hw1 : IntKind.i64.wrap ((M : Int) - 1) = (m : Int) := by rw [IntKind.wrap_i64]; omega
    have hk1 : (0 : Int) ≤ (m : Int) ∧ (m : Int) < (M : Int) ∧ (m : Int) ≤ (M : Int) ∧ (M : Int) ≤ (cap : Int) ∧ (m : Int) ≤ (cap : Int) := by omega
    have hk2 : ¬ (cap : Int) = (m : Int) := by omega
    have HL := Lib.hid L
    have HFD := Lib.hid (fun k (hk : k ∈ body.kids) => Tr.fitsD_kid (Tr.fitsD_mono (Nat.le_succ n) (Tr.fitsD_kid hd (List.mem_of_getElem? hbi))) hk)
    have HSZ := Lib.hid (show o.uses.length + o.vars.length + o.scopes.length + E.blocks.length + m + 10 + 9 * Tr.sizes body.kids ≤ 2000000 from by
      have h1 := sizes_rest hbi
      have h2 := Tr.length_le_sizes (t.kids.take m)
      have h3 : body.size = 1 + Tr.sizes body.kids := by cases body; rfl
      have h4 : t.size = 1 + Tr.sizes t.kids := by cases t; rfl
      rw [hfl] at h2
      simp only [bnd, Out.len] at hbd
      omega)
    have HDL := Lib.hid (show t.kids.dropLast.length = m from by rw [List.length_dropLast, hm]; rfl)
    have HG := Lib.hid G
    have HB0 := Lib.hid W0
    have HNE := Lib.hid hne
    have HK := Lib.hid hk
    have H44 := Lib.hid h44
    have HFR := Lib.hid hfront
    have HFL := Lib.hid hfl
    have HBD := Lib.hid hbd
    have HWF := Lib.hid hwf
    have HD := Lib.hid hd
    have HBK := Lib.hid hbk
    have HPAR := Lib.hid hpar
    have HHB := Lib.hid hkb
    have HWB := Lib.hid hwb
    have HBI := Lib.hid hbi
    clear hk hP hdl hA hcl hcm hbody hne G L h h44 hfront hfl hbd hwf hd hbk hpar hkb hnb hwb hbi hm hM hbr W0
    go_enter Tryd.func40, Tryd.ntmps40
    go_wp2
    go_quiet (fail)
    go_upto_region 4 with (fail)
    generalize hV1 : World.drewN _ _ = V1
    have hb1 : Below ((w.alloc (.cells #[.pointer (some ⟨p, 0, none⟩)] 60)).alloc (.cells #[.int .i64 t.kind, .int .i64 t.at_, .string t.name, .int .u64 t.num, .string t.op, .slice (some ⟨b, off, none⟩) M cap] 31)).heap.size ((w.alloc (.cells #[.pointer (some ⟨p, 0, none⟩)] 60)).alloc (.cells #[.int .i64 t.kind, .int .i64 t.at_, .string t.name, .int .u64 t.num, .string t.op, .slice (some ⟨b, off, none⟩) M cap] 31)) V1 := by rw [← hV1]; exact ⟨rfl, rfl, rfl, Nat.le_refl _, fun _ _ => rfl⟩
    have hq3 : Blk V1 (w.heap.size + 1) 31 #[.int .i64 t.kind, .int .i64 t.at_, .string t.name, .int .u64 t.num, .string t.op, .slice (some ⟨b, off, none⟩) M cap] := by
      have h1 := Blk.new (w.alloc (.cells #[.pointer (some ⟨p, 0, none⟩)] 60)) 31 #[.int .i64 t.kind, .int .i64 t.at_, .string t.name, .int .u64 t.num, .string t.op, .slice (some ⟨b, off, none⟩) M cap]
      rw [size_alloc] at h1
      exact h1.below hb1 (by simp)
    have x35 := hq3.cell 5
    simp only [List.getElem?_toArray, List.getElem?_cons_succ, List.getElem?_cons_zero] at x35
    have hV1s : w.heap.size + 2 ≤ V1.heap.size := by have := hb1.size; simp at this; exact this
    have bdd := fun (j : Nat) (u : Value) (hj : w.cell? ⟨b, j, none⟩ = some u) => show V1.cell? ⟨b, j, none⟩ = some u from ((HB0.out.trans (hb1.mono HB0.out.size)).cell (p := ⟨b, j, none⟩) hbw).trans hj
    have e0 := bdd _ _ d0
    have e1 := bdd _ _ d1
    have e2 := bdd _ _ d2
    have e3 := bdd _ _ d3
    have e4 := bdd _ _ d4
    have e5 := bdd _ _ d5
    have hbw' : b < V1.heap.size := by omega
    have n5 : V1.heap.size ≠ b := by omega
    have n6 : V1.heap.size + 1 ≠ b := by omega
    have HQ3 := Lib.hid hq3
    have HB1 := Lib.hid hb1
    clear hV1 bdd d0 d1 d2 d3 d4 d5 hq3 hb1 n2 n4 r0 r4 r5 r6
    have hq3s : w.heap.size + 1 < V1.heap.size := by omega
    clear hV1s
    obtain ⟨q3, hq3e⟩ : ∃ q3, w.heap.size + 1 = q3 := ⟨_, rfl⟩
    rw [hq3e] at x35 HQ3 hq3s
    have n7 : V1.heap.size ≠ q3 := by omega
    have n8 : V1.heap.size + 1 ≠ q3 := by omega
    rw [hq3e]
    have HQE := Lib.hid hq3e
    clear hq3e
    go_cut [7, 8] from 33 to 47 (fun p7 p8 wx => Lo wx p7 29 #[.slice (some ⟨b, off, none⟩) m cap] V1.heap.size ∧ Lo wx p8 31 #[.int .i64 body.kind, .int .i64 body.at_, .string body.name, .int .u64 body.num, .string body.op, .slice Ab body.kids.length cb] V1.heap.size ∧ Below V1.heap.size V1 wx)
    case first => as_aux_lemma =>
      go_big_region
      all_goals
        go_wp2
        go_meet
        refine ⟨?_, ?_, ?_⟩
        all_goals first
          | exact ((Lo.new _ _ _ _ _ rfl (Nat.le_refl _)).alloc _).drew
          | exact (Lo.new _ _ _ _ _ (size_alloc _ _) (Nat.le_succ _)).drew
          | exact (below_alloc (below_alloc (Below.refl _ _))).drew
    case rest =>
      obtain ⟨⟨q7, rfl, k7, l7⟩, ⟨q8, rfl, k8, l8⟩, hbc⟩ := hcut
      obtain ⟨V, rfl⟩ : ∃ V : World, V = wc := ⟨_, rfl⟩
      have hV : Below w.heap.size w V := HB0.out.trans ((HB1.out.mono HB0.out.size).trans (hbc.mono (Nat.le_trans HB0.out.size HB1.out.size)))
      have HA := Lib.hid (HW.out.fr hV)
      have k2 : Blk V w.heap.size 60 #[.pointer (some ⟨p, 0, none⟩)] := (((Blk.new w 60 #[.pointer (some ⟨p, 0, none⟩)]).alloc _).below HB1.out (by rw [size_alloc, size_alloc]; omega)).below hbc (by have := HB1.out.size; simp at this; omega)
      have k3 := HQ3.out.below hbc hq3s
      have hbr := HA.out.blk
      rw [hsv, HLV.out] at hbr
      have r0 := hbr.cell 0
      simp only [List.getElem?_toArray, List.getElem?_cons_zero] at r0
      have f4 := hbr.frozen 4
      have f5 := hbr.frozen 5
      have f6 := hbr.frozen 6
      have c4 := hbr.cell 4
      have c5 := hbr.cell 5
      have c6 := hbr.cell 6
      simp only [List.getElem?_toArray, List.getElem?_cons_succ, List.getElem?_cons_zero] at c4 c5 c6
      have c2 := k2.cell 0
      simp only [List.getElem?_toArray, List.getElem?_cons_zero] at c2
      have K2 := Lib.hid k2
      have K3 := Lib.hid k3
      have K7 := Lib.hid k7
      have K8 := Lib.hid k8
      have HBR := Lib.hid hbr
      have hqp : w.heap.size ≠ p := n1
      have HVB := Lib.hid hV
      clear k2 k3 k7 k8 hbr hbc hV x35 e0 e1 e2 e3 e4 e5 HQ3 HB1
      go_upto_region 5 with (fail)
      go_region
      obtain ⟨U, hU⟩ : ∃ U, (((V.setCell ⟨p, 4, none⟩ (.int .i64 (o.scopes.length : Int))).setCell ⟨p, 5, none⟩ (.slice none 0 0)).setCell ⟨p, 6, none⟩ (.int .i64 0)).drew = U := ⟨_, rfl⟩
      have hI5 : WIn U B ms { E with labels := [] } o { R with lv := .slice none 0 0 } := by
        rw [← hU]
        have h1 := (((HA.out.inn.recd HBR.out 4 (.int .i64 (o.scopes.length : Int))).recd (HBR.out.set_ 4 _) 5 (.slice none 0 0)).recd ((HBR.out.set_ 4 _).set_ 5 _) 6 (.int .i64 0)).fr (Below.refl _ _).drew
        exact ⟨h1.sz, h1.sc, h1.vr, h1.us, h1.bl, World.ownsRow_nil _ _ _ _, h1.mlen, h1.maps, h1.nod, h1.fnlt, h1.scv⟩
      have HL5 := Lib.hid (show U.ownsRow B 99 2 R.lv E.labels.length (E.labels.flatMap lcells) from by rw [← hU]; exact ((((HA.out.inn.recd HBR.out 4 (.int .i64 (o.scopes.length : Int))).recd (HBR.out.set_ 4 _) 5 (.slice none 0 0)).recd ((HBR.out.set_ 4 _).set_ 5 _) 6 (.int .i64 0)).fr (Below.refl _ _).drew).lb)
      have hB5 : Blk U p 64 #[.slice As o.scopes.length cs, R.vv, R.uv, R.bv, .int .i64 (o.scopes.length : Int), .slice none 0 0, .int .i64 0] := by rw [← hU]; exact (((HBR.out.set_ 4 _).set_ 5 _).set_ 6 _).drew
      have FXU := Lib.hid (fun (q : Nat) (ty : TypeId) (csx : Array Value) (hq : Blk V q ty csx) (hne : ty ≠ 64) => show Blk U q ty csx from by
        have hqp : q ≠ p := Blk.ne_ hq HBR.out hne
        rw [← hU]; exact (((hq.far (p := ⟨p, 4, none⟩) hqp _).far (p := ⟨p, 5, none⟩) hqp _).far (p := ⟨p, 6, none⟩) hqp _).drew)
      have hF5 : Fr (Ft p R) V U := by
        rw [← hU]; exact (((Fr.refl _ V).set (p := p) (i := 4) (.inl (.inl rfl)) _).set (p := p) (i := 5) (.inl (.inl rfl)) _).set (p := p) (i := 6) (.inl (.inl rfl)) _ |>.drew
      have k2 := FXU.out _ _ _ K2.out (by decide)
      have k3 := FXU.out _ _ _ K3.out (by decide)
      have k7 := FXU.out _ _ _ K7.out (by decide)
      have k8 := FXU.out _ _ _ K8.out (by decide)
      have HI5 := Lib.hid hI5
      have HB5 := Lib.hid hB5
      have HF5 := Lib.hid hF5
      have HBU := Lib.hid hI5.sz
      have HNUM := Lib.hid (show o.scopes.length ≤ 2000000 from by omega)
      obtain ⟨i41, hi, hz0, hz1, hz2⟩ := info_parts info41
      have hplU : p < U.heap.size := hB5.lt
      have hrow : U.ownsRow B 41 4 (.slice As o.scopes.length cs) o.scopes.length (o.scopes.flatMap Sc.cells) := by have h1 := hI5.sc; rw [hsv] at h1; exact h1
      have HOWN := Lib.hid (fun w' (bw : Below U.heap.size U w') => own_below bw hrow)
      have SX := Lib.hid (fun w' (bw : Below U.heap.size U w') => show (fun w' => w'.cell? ⟨w.heap.size, 0, none⟩ = some (.pointer (some ⟨p, 0, none⟩)) ∧ w'.cell? ⟨p, 0, none⟩ = some (.slice As o.scopes.length cs) ∧ w'.cell? ⟨q3, 1, none⟩ = some (.int .i64 t.at_) ∧ w'.cell? ⟨q7, 0, none⟩ = some (.slice (some ⟨b, off, none⟩) m cap)) w' from ⟨(k2.below bw k2.lt).cell 0, (hB5.below bw hplU).cell 0, (k3.below bw k3.lt).cell 1, (k7.below bw k7.lt).cell 0⟩)
      have SG := Lib.hid (fun (wa w2 : World) (bw : Below U.heap.size U wa) (g2 : wa.grownBy w2 (Value.ownBlock (.slice As o.scopes.length cs))) => show (fun w' => w'.cell? ⟨w.heap.size, 0, none⟩ = some (.pointer (some ⟨p, 0, none⟩)) ∧ w'.cell? ⟨p, 0, none⟩ = some (.slice As o.scopes.length cs) ∧ w'.cell? ⟨q3, 1, none⟩ = some (.int .i64 t.at_) ∧ w'.cell? ⟨q7, 0, none⟩ = some (.slice (some ⟨b, off, none⟩) m cap)) w2 ∧ Blk w2 p 64 #[.slice As o.scopes.length cs, R.vv, R.uv, R.bv, .int .i64 (o.scopes.length : Int), .slice none 0 0, .int .i64 0] from by
        have gr : ∀ {q : Nat} {ty : TypeId} {csx : Array Value}, Blk U q ty csx → ty ≠ 41 → Blk w2 q ty csx := fun hq hne => (hq.below bw hq.lt).grown g2 (fun e => own_blk_ne (HOWN.out _ bw) (hq.below bw hq.lt) (Ne.symm hne) e.symm)
        exact ⟨⟨(gr k2 (by decide)).cell 0, (gr hB5 (by decide)).cell 0, (gr k3 (by decide)).cell 1, (gr k7 (by decide)).cell 0⟩, gr hB5 (by decide)⟩)
      have GB := Lib.hid (fun (wa w2 : World) (bw : Below U.heap.size U wa) (g2 : wa.grownBy w2 (Value.ownBlock (.slice As o.scopes.length cs))) (q : Nat) (ty : TypeId) (csx : Array Value) (hq : Blk U q ty csx) (hne : ty ≠ 41) => show Blk w2 q ty csx from (hq.below bw hq.lt).grown g2 (fun e => own_blk_ne (HOWN.out _ bw) (hq.below bw hq.lt) (Ne.symm hne) e.symm))
      have K2 := Lib.hid k2
      have K3 := Lib.hid k3
      have K7 := Lib.hid k7
      have K8 := Lib.hid k8
      clear hI5 hB5 hF5 k2 k3 k7 k8 hrow FXU r0 c2 c4 c5 c6 f4 f5 f6
      go_wp2
      clear hU
      have hTr : True := trivial
      refine wp_region_tail (S := (fun w' => w'.cell? ⟨w.heap.size, 0, none⟩ = some (.pointer (some ⟨p, 0, none⟩)) ∧ w'.cell? ⟨p, 0, none⟩ = some (.slice As o.scopes.length cs) ∧ w'.cell? ⟨q3, 1, none⟩ = some (.int .i64 t.at_) ∧ w'.cell? ⟨q7, 0, none⟩ = some (.slice (some ⟨b, off, none⟩) m cap))) 14 4 rfl (by kernel_rfl) ?_ (fun hHeld => ?_)
      · exact SX.out _ (Below.refl _ _).drew
      refine tt 0 ?_
      try simp only [Act.put, z1, z2, z3]
      refine tt 1 ?_
      try simp only [Act.put, z1, z2, z3]
      refine tt 2 ?_
      try simp only [Act.put, z1, z2, z3]
      refine tt 3 ?_
      try simp only [Act.put, z1, z2, z3]
      refine tt 4 ?_
      try simp only [Act.put, z1, z2, z3]
      refine tt 5 ?_
      try simp only [Act.put, z1, z2, z3]
      refine tt 6 ?_
      try simp only [Act.put, z1, z2, z3]
      refine tt 7 ?_
      try simp only [Act.put, z1, z2, z3]
      refine tt 8 ?_
      try simp only [Act.put, z1, z2, z3]
      refine tt 9 ?_
      try simp only [Act.put, z1, z2, z3]
      refine tt 10 ?_
      try simp only [Act.put, z1, z2, z3]
      refine tt 11 ?_
      try simp only [Act.put, z1, z2, z3]
      refine wpAnyT_ready (rs := [12]) (by kernel_rfl) (by simp) ?_
      refine (AllReadyT.cons (by decide) (i := 12) (o := ?o72) ?h72 (fun K hK => ?k72) AllReadyT.nil)
      case h72 => (simp only [List.getElem?_toArray, List.getElem?_cons_succ, List.getElem?_cons_zero]; try rfl)
      case k72 =>
        go_simp
        try go_wp2_with fail
        refine hK.out _ _ ?_ (fun hHeld => ?_)
        · exact SX.out _ (by first | exact ((Below.refl U.heap.size U).drew).alloc (Nat.le_refl _) _ | exact ((Below.refl U.heap.size U).alloc (Nat.le_refl _) _).drew)
        clear hK K
        try simp only [Act.put, z1, z2, z3]
        refine wpAnyT_ready (rs := [13]) (by kernel_rfl) (by simp) ?_
        refine (AllReadyT.cons (by decide) (i := 13) (o := ?o73) ?h73 (fun K hK => ?k73) AllReadyT.nil)
        case h73 => (simp only [List.getElem?_toArray, List.getElem?_cons_succ, List.getElem?_cons_zero]; try rfl)
        case k73 =>
          (refine step_append_any _ rfl (.tmp 68) (.tmp 75) 32 rfl B 41 i41 _ 4 32 Tryd.underlying32 hi hz0 hz1 hz2 rfl (by decide) (.slice As o.scopes.length cs) o.scopes.length (o.scopes.flatMap Sc.cells) rfl (HOWN.out _ (by first | exact ((Below.refl U.heap.size U).drew).alloc (Nat.le_refl _) _ | exact ((Below.refl U.heap.size U).alloc (Nat.le_refl _) _).drew)) _ _ 1 1 [.int .i64 t.at_, .int .i64 (E.fn : Int), .int .i64 (m : Int), .int .i64 0] rfl (by first | exact reads_blkn (Blk.new _ _ _) | exact reads_blkn ((Blk.new _ _ _).drew)) (by simp [Value.oneCell']) (by unfold maxLen; have := HNUM.out; omega) (by have := HNUM.out; omega) (Nat.le_trans HBU.out (Below.size (by first | exact ((Below.refl U.heap.size U).drew).alloc (Nat.le_refl _) _ | exact ((Below.refl U.heap.size U).alloc (Nat.le_refl _) _).drew))) ?_; intro v2 w2 o2 g2 at2; obtain ⟨A2, c2, rfl⟩ := own_is_slice o2; have hsg := SG.out _ _ (by first | exact ((Below.refl U.heap.size U).drew).alloc (Nat.le_refl _) _ | exact ((Below.refl U.heap.size U).alloc (Nat.le_refl _) _).drew) g2; have GW := Lib.hid (pair_gw (U := U) (by first | exact ((Below.refl U.heap.size U).drew).alloc (Nat.le_refl _) _ | exact ((Below.refl U.heap.size U).alloc (Nat.le_refl _) _).drew) g2); obtain ⟨hs1, hs2⟩ := hsg; have cpf := hs2.frozen 0; have cpc := hs2.cell 0; simp only [List.getElem?_toArray, List.getElem?_cons_succ, List.getElem?_cons_zero] at cpc)
          refine hK.out _ _ ?_ (fun hHeld => ?_)
          · exact hs1
          clear hK K
          try simp only [Act.put, z1, z2, z3]
          refine wpAnyT_done (by kernel_rfl) ?_
          refine tk 14 ?_
          try simp only [Act.put, z1, z2, z3]
          refine tk 15 ?_
          try simp only [Act.put, z1, z2, z3]
          refine tk 16 ?_
          try simp only [Act.put, z1, z2, z3]
          refine wpAnyH_ready (rs := [17]) (by kernel_rfl) (by simp) ?_
          refine (AllReadyH.cons (i := 17) (o := ?o77) ?h77 (fun K hK => ?k77) AllReadyH.nil)
          case h77 => (simp only [List.getElem?_toArray, List.getElem?_cons_succ, List.getElem?_cons_zero]; try rfl)
          case k77 =>
            go_simp
            try go_wp2_with fail
            refine hK.out _ _ ?_ (fun hHeld => ?_)
            · trivial
            clear hK K
            try simp only [Act.put, z1, z2, z3]
            refine wpAnyH_done (by kernel_rfl) ?_ _
            as_aux_lemma =>
              have f4 := (HF5.out.tr (Fr.of_below GW.out.1)).grown GW.out.2 (fun y e => .inl (.inr (.inl (by rw [hsv]; exact e))))
              have f5 := f4.set (p := p) (i := 0) (.inl (.inl rfl)) (.slice A2 (o.scopes.length + 1) c2)
              have gs1 := Fr.size (HF5.out.tr (Fr.of_below GW.out.1))
              obtain ⟨X, hX⟩ : ∃ X, w2.setCell ⟨p, 0, none⟩ (.slice A2 (o.scopes.length + 1) c2) = X := ⟨_, rfl⟩
              have i6 : WIn X B ms { E with labels := [] } { o with scopes := o.scopes ++ [⟨t.at_, E.fn, m, 0⟩] } { R with lv := .slice none 0 0, sv := .slice A2 (o.scopes.length + 1) c2 } := by
                rw [← hX]; exact ((HI5.out.fr GW.out.1).grow_sc (x := ⟨t.at_, E.fn, m, 0⟩) (own_snoc o2) (by have h1 := GW.out.2; rw [← hsv] at h1; exact h1) ⟨by show (0:Int) ≤ 0; omega, by show (0:Int) ≤ 201; omega⟩).recd hs2 0 _
              have b6 : Blk X p 64 #[.slice A2 (o.scopes.length + 1) c2, R.vv, R.uv, R.bv, .int .i64 (o.scopes.length : Int), .slice none 0 0, .int .i64 0] := by rw [← hX]; exact hs2.set_ 0 _
              have kk : ∀ {q : Nat} {ty : TypeId} {csx : Array Value}, Blk U q ty csx → ty ≠ 41 → ty ≠ 64 → Blk X q ty csx := fun hq h1 h2 => by
                have h3 := GB.out _ _ GW.out.1 GW.out.2 _ _ _ hq h1
                rw [← hX]; exact h3.far (p := ⟨p, 0, none⟩) (Blk.ne_ h3 hs2 h2) _
              have k2 := kk K2.out (by decide) (by decide)
              have k3 := kk K3.out (by decide) (by decide)
              have k7 := kk K7.out (by decide) (by decide)
              have k8 := kk K8.out (by decide) (by decide)
              have HL6 := Lib.hid (show X.ownsRow B 99 2 R.lv E.labels.length (E.labels.flatMap lcells) from by
                rw [← hX]
                exact own_set (own_same (own_below GW.out.1 HL5.out) (fun b e => GW.out.2.block b (own_lt (own_below GW.out.1 HL5.out) e).2 (fun e' => own_ne_own (own_below GW.out.1 HL5.out) (HOWN.out _ GW.out.1) (by decide) e e'.symm rfl))) hs2 (by decide) 0 _)
              rw [hX] at f5
              have HX := Lib.hid (show WAt X p B ms ⟨o.scopes.length, [], 0, E.blocks⟩ { o with scopes := o.scopes ++ [⟨t.at_, E.fn, m, 0⟩] } { R with lv := .slice none 0 0, sv := .slice A2 (o.scopes.length + 1) c2 } from ⟨HW.out.hp, b6, (i6.refn o.scopes.length 0 (by simp)), fun b hb => HW.out.ent b hb⟩)
              have HFX := Lib.hid (show Fr (Ft p R) w X from (Fr.of_below HVB.out).tr f5)
              have HGX := Lib.hid (show Gr w.heap.size p R { R with lv := .slice none 0 0, sv := .slice A2 (o.scopes.length + 1) c2 } from (Gr.lnil w.heap.size p R).trans (Gr.sv_ (R := { R with lv := .slice none 0 0 }) (n := w.heap.size) (by have h1 := at2; rw [← hsv] at h1; exact h1) (Nat.le_trans HVB.out.size gs1)) (Nat.le_refl _))
              have K2 := Lib.hid k2
              have K3 := Lib.hid k3
              have K7 := Lib.hid k7
              have K8 := Lib.hid k8
              clear f4 f5 i6 b6 kk k2 k3 k7 k8 o2 g2 at2 hs1 hs2 cpf cpc gs1
              rw [hX]
              have x0 := K3.out.cell 0
              have x2 := K3.out.cell 2
              have y2 := K2.out.cell 0
              have y8 := K8.out.cell 5
              simp only [List.getElem?_toArray, List.getElem?_cons_succ, List.getElem?_cons_zero] at x0 x2 y2 y8
              have lx2 := K2.out.lt
              have lx3 := K3.out.lt
              have lx8 := K8.out.lt
              have lx7 := K7.out.lt
              have nx2 : X.heap.size ≠ w.heap.size ∧ X.heap.size + 1 ≠ w.heap.size ∧ X.heap.size ≠ q3 ∧ X.heap.size + 1 ≠ q3 ∧ X.heap.size ≠ q8 ∧ X.heap.size + 1 ≠ q8 := by omega
              obtain ⟨nx2, nx3, nx4, nx5, nx6, nx7⟩ := nx2
              clear hX
              as_aux_lemma =>
                have HEE := Lib.hid (show enterE E t o = ⟨o.scopes.length, [], 0, E.blocks⟩ from by simp [enterE, hof])
                have HEO := Lib.hid (show enterO E t o = { o with scopes := o.scopes ++ [⟨t.at_, E.fn, m, 0⟩] } from by simp [enterO, hof, HDL.out])
                try rw [hof]
                by_cases hk12 : t.kind = 12
                · have hnm : t.name = ⟨#[]⟩ := by
                    by_cases hn : t.name = ⟨#[]⟩
                    · exact hn
                    · exact absurd (show ownP t = true by simp [ownP, hk12, hn]) (by rw [hof]; simp)
                  rw [hk12] at x0
                  rw [hnm] at x2
                  obtain ⟨V2, hV2⟩ : ∃ V2, ((X.alloc (.cells #[.func (.func 60) #[] #[.pointer (some ⟨q7, 0, none⟩), .pointer (some ⟨w.heap.size, 0, none⟩)]] 1)).alloc (.cells #[.bool false] 4)) = V2 := ⟨_, rfl⟩
                  have w2 : Below X.heap.size X V2 := by rw [← hV2]; exact below_alloc (below_alloc (Below.refl _ _))
                  have hx2 := HX.out.fr w2
                  have hB2 : Below B w X := HW.out.under HFX.out
                  have b10 : Blk V2 (X.heap.size + 1) 4 #[.bool false] := by rw [← hV2]; have h1 := Blk.new (X.alloc (.cells #[.func (.func 60) #[] #[.pointer (some ⟨q7, 0, none⟩), .pointer (some ⟨w.heap.size, 0, none⟩)]] 1)) 4 #[.bool false]; rw [size_alloc] at h1; exact h1
                  have b2 := K2.out.below w2 K2.out.lt
                  have HC := Lib.hid (fn_body (own := false) (q7 := q7) (q2 := w.heap.size) (q9 := X.heap.size) (q10 := X.heap.size + 1) HG.out HL.out hx2 (l := body.kids) (fr := t.kids.take m) (((HHB.out.under hB2)).under (w2.mono HX.out.inn.sz)) (fun k hk => HFD.out k hk) (HBK.out) (HHB.out.wf) (by rw [HFL.out]; exact (HFR.out.under hB2).under (w2.mono HX.out.inn.sz)) (by rw [HFL.out]; have := HSZ.out; simp only [bnd, Out.len, List.length_append, List.length_singleton, List.length_nil]; omega) (by simp [Out.scp]) (by rw [HFL.out]; exact K7.out.below w2 K7.out.lt) b2 (by rw [← hV2]; exact (Blk.new _ _ _).alloc _) b10)
                  have KX := Lib.hid (fun (v : World) (f : Fr (Ft p { R with lv := .slice none 0 0, sv := .slice A2 (o.scopes.length + 1) c2 }) V2 v) => show v.cell? ⟨X.heap.size + 1, 0, none⟩ = some (.bool false) ∧ v.cell? ⟨w.heap.size, 0, none⟩ = some (.pointer (some ⟨p, 0, none⟩)) from ⟨f.cel b10 (hx2.not_ft b10 (by decide)) 0 rfl, f.cel b2 (hx2.not_ft b2 (by decide)) 0 rfl⟩)
                  have HV2 := Lib.hid w2
                  clear w2 hx2 hB2 b10 b2
                  subst hV2
                  cases hr : bodyW F ⟨o.scopes.length, [], 0, E.blocks⟩ (aheadP false o.scopes.length (t.kids.take m)) body.kids { o with scopes := o.scopes ++ [⟨t.at_, E.fn, m, 0⟩] } with
                  | error cc =>
                    have HC := Lib.hid (HC.out.mono (R' := fun e w' => e = bad cc ∧ Below B _ w') fun e w' hh => hh.2 cc hr)
                    have HE := Lib.hid (show bodyW F (enterE E t o) (aheadP false o.scopes.length (t.kids.take m)) body.kids (enterO E t o) = .error cc from by rw [HEE.out, HEO.out]; exact hr)
                    clear hr
                    go_wp2_with (first | (go_at_call 22; (with_reducible refine (HC.out).mono ?_); rintro e w3 ⟨rfl, g1⟩; have G1 := Lib.hid g1; clear g1; unfold bad))
                    exact ⟨rfl, WP.err HE.out ⟨rfl, (HW.out.under HFX.out).trans (((below_alloc (below_alloc (Below.refl _ _))).mono HX.out.inn.sz).trans G1.out)⟩⟩
                  | ok o3 =>
                    have HC := Lib.hid (HC.out.mono (R' := fun e w' => (∃ v, e = .returned v) ∧ ∃ R3, WAt w' p B ms ⟨o.scopes.length, [], 0, E.blocks⟩ o3 R3 ∧ Fr (Ft p { R with lv := .slice none 0 0, sv := .slice A2 (o.scopes.length + 1) c2 }) _ w' ∧ Gr _ p { R with lv := .slice none 0 0, sv := .slice A2 (o.scopes.length + 1) c2 } R3) fun e w' hh => hh.1 o3 hr)
                    have HE := Lib.hid (show bodyW F (enterE E t o) (aheadP false o.scopes.length (t.kids.take m)) body.kids (enterO E t o) = .ok o3 from by rw [HEE.out, HEO.out]; exact hr)
                    clear hr
                    go_wp2_with (first | (go_at_call 22; (with_reducible refine (HC.out).mono ?_); rintro e w3 ⟨⟨v, rfl⟩, R3, g1, g2, g3⟩; obtain ⟨z10, z2'⟩ := KX.out _ g2; have G1 := Lib.hid g1; have G2 := Lib.hid g2; have G3 := Lib.hid g3; clear g1 g2 g3))
                    skip
                    have hbr3 := G1.out.blk
                    have z4 := hbr3.cell 4
                    have z5 := hbr3.cell 5
                    have z6 := hbr3.cell 6
                    simp only [List.getElem?_toArray, List.getElem?_cons_succ, List.getElem?_cons_zero] at z4 z5 z6
                    have zf4 := hbr3.frozen 4
                    have zf5 := hbr3.frozen 5
                    have zf6 := hbr3.frozen 6
                    have zlt := hbr3.lt
                    clear hbr3
                    go_region
                    go_wp2
                    go_end0
                    have hlk := lv_keep HX.out rfl HL6.out ((Fr.of_below HV2.out).tr G2.out)
                    have ftr : Fr (Ft p R) w w3 := HFX.out.trans ((Fr.of_below HV2.out).tr G2.out) HGX.out
                    exact WP.ok (by first | exact HE.out | (rw [hof]; exact HE.out)) ⟨⟨_, rfl⟩, fn_restore HW.out HLV.out G1.out hlk HW.out.inn.fnlt ftr (HGX.out.trans (G3.out.mono HV2.out.size) HFX.out.size)⟩
                · have hkf : (t.kind == 12) = false := by simpa using hk12
                  have hkn : (t.kind != 12) = true := by simpa using hk12
                  obtain ⟨V2, hV2⟩ : ∃ V2, ((X.alloc (.cells #[.func (.func 60) #[] #[.pointer (some ⟨q7, 0, none⟩), .pointer (some ⟨w.heap.size, 0, none⟩)]] 1)).alloc (.cells #[.bool false] 4)) = V2 := ⟨_, rfl⟩
                  have w2 : Below X.heap.size X V2 := by rw [← hV2]; exact below_alloc (below_alloc (Below.refl _ _))
                  have hx2 := HX.out.fr w2
                  have hB2 : Below B w X := HW.out.under HFX.out
                  have b10 : Blk V2 (X.heap.size + 1) 4 #[.bool false] := by rw [← hV2]; have h1 := Blk.new (X.alloc (.cells #[.func (.func 60) #[] #[.pointer (some ⟨q7, 0, none⟩), .pointer (some ⟨w.heap.size, 0, none⟩)]] 1)) 4 #[.bool false]; rw [size_alloc] at h1; exact h1
                  have b2 := K2.out.below w2 K2.out.lt
                  have HC := Lib.hid (fn_body (own := false) (q7 := q7) (q2 := w.heap.size) (q9 := X.heap.size) (q10 := X.heap.size + 1) HG.out HL.out hx2 (l := body.kids) (fr := t.kids.take m) (((HHB.out.under hB2)).under (w2.mono HX.out.inn.sz)) (fun k hk => HFD.out k hk) (HBK.out) (HHB.out.wf) (by rw [HFL.out]; exact (HFR.out.under hB2).under (w2.mono HX.out.inn.sz)) (by rw [HFL.out]; have := HSZ.out; simp only [bnd, Out.len, List.length_append, List.length_singleton, List.length_nil]; omega) (by simp [Out.scp]) (by rw [HFL.out]; exact K7.out.below w2 K7.out.lt) b2 (by rw [← hV2]; exact (Blk.new _ _ _).alloc _) b10)
                  have KX := Lib.hid (fun (v : World) (f : Fr (Ft p { R with lv := .slice none 0 0, sv := .slice A2 (o.scopes.length + 1) c2 }) V2 v) => show v.cell? ⟨X.heap.size + 1, 0, none⟩ = some (.bool false) ∧ v.cell? ⟨w.heap.size, 0, none⟩ = some (.pointer (some ⟨p, 0, none⟩)) from ⟨f.cel b10 (hx2.not_ft b10 (by decide)) 0 rfl, f.cel b2 (hx2.not_ft b2 (by decide)) 0 rfl⟩)
                  have HV2 := Lib.hid w2
                  clear w2 hx2 hB2 b10 b2
                  subst hV2
                  cases hr : bodyW F ⟨o.scopes.length, [], 0, E.blocks⟩ (aheadP false o.scopes.length (t.kids.take m)) body.kids { o with scopes := o.scopes ++ [⟨t.at_, E.fn, m, 0⟩] } with
                  | error cc =>
                    have HC := Lib.hid (HC.out.mono (R' := fun e w' => e = bad cc ∧ Below B _ w') fun e w' hh => hh.2 cc hr)
                    have HE := Lib.hid (show bodyW F (enterE E t o) (aheadP false o.scopes.length (t.kids.take m)) body.kids (enterO E t o) = .error cc from by rw [HEE.out, HEO.out]; exact hr)
                    clear hr
                    go_wp2_with (first | (go_at_call 22; (with_reducible refine (HC.out).mono ?_); rintro e w3 ⟨rfl, g1⟩; have G1 := Lib.hid g1; clear g1; unfold bad))
                    exact ⟨rfl, WP.err HE.out ⟨rfl, (HW.out.under HFX.out).trans (((below_alloc (below_alloc (Below.refl _ _))).mono HX.out.inn.sz).trans G1.out)⟩⟩
                  | ok o3 =>
                    have HC := Lib.hid (HC.out.mono (R' := fun e w' => (∃ v, e = .returned v) ∧ ∃ R3, WAt w' p B ms ⟨o.scopes.length, [], 0, E.blocks⟩ o3 R3 ∧ Fr (Ft p { R with lv := .slice none 0 0, sv := .slice A2 (o.scopes.length + 1) c2 }) _ w' ∧ Gr _ p { R with lv := .slice none 0 0, sv := .slice A2 (o.scopes.length + 1) c2 } R3) fun e w' hh => hh.1 o3 hr)
                    have HE := Lib.hid (show bodyW F (enterE E t o) (aheadP false o.scopes.length (t.kids.take m)) body.kids (enterO E t o) = .ok o3 from by rw [HEE.out, HEO.out]; exact hr)
                    clear hr
                    go_wp2_with (first | (go_at_call 22; (with_reducible refine (HC.out).mono ?_); rintro e w3 ⟨⟨v, rfl⟩, R3, g1, g2, g3⟩; obtain ⟨z10, z2'⟩ := KX.out _ g2; have G1 := Lib.hid g1; have G2 := Lib.hid g2; have G3 := Lib.hid g3; clear g1 g2 g3))
                    skip
                    have hbr3 := G1.out.blk
                    have z4 := hbr3.cell 4
                    have z5 := hbr3.cell 5
                    have z6 := hbr3.cell 6
                    simp only [List.getElem?_toArray, List.getElem?_cons_succ, List.getElem?_cons_zero] at z4 z5 z6
                    have zf4 := hbr3.frozen 4
                    have zf5 := hbr3.frozen 5
                    have zf6 := hbr3.frozen 6
                    have zlt := hbr3.lt
                    clear hbr3
                    go_region
                    go_wp2
                    go_end0
                    have hlk := lv_keep HX.out rfl HL6.out ((Fr.of_below HV2.out).tr G2.out)
                    have ftr : Fr (Ft p R) w w3 := HFX.out.trans ((Fr.of_below HV2.out).tr G2.out) HGX.out
                    exact WP.ok (by first | exact HE.out | (rw [hof]; exact HE.out)) ⟨⟨_, rfl⟩, fn_restore HW.out HLV.out G1.out hlk HW.out.inn.fnlt ftr (HGX.out.trans (G3.out.mono HV2.out.size) HFX.out.size)⟩
end Go.Proofs.YtlenhcmgcgccmaaDoor
