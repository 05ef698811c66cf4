/- Scope: use. -/
import Derived.Test.YtlenhcmgcgccmaaDoorUe
namespace Go.Proofs.YtlenhcmgcgccmaaDoor
open Go.RowKit Go
set_option linter.unusedVariables false
set_option linter.unusedSimpArgs false
/-- what a call of the walk's says behind it. -/
def WP (w : World) (p B : Nat) (ms : List Nat) (E : Env) (R : Rw) (r : Except Er Out) (e : Ending) (w' : World) : Prop :=
  (∀ x, r = .ok x → (∃ v, e = .returned v) ∧ ∃ R', WAt w' p B ms E x R' ∧ Fr (Ft p R) w w' ∧ Gr w.heap.size p R R') ∧
  (∀ c, r = .error c → e = bad c ∧ Below B w w')
theorem WP.ok {w : World} {p B : Nat} {ms : List Nat} {E : Env} {R : Rw} {r : Except Er Out} {e : Ending} {w' : World} {x : Out} (hr : r = .ok x) (h : (∃ v, e = .returned v) ∧ ∃ R', WAt w' p B ms E x R' ∧ Fr (Ft p R) w w' ∧ Gr w.heap.size p R R') : WP w p B ms E R r e w' :=
  ⟨fun y hy => by rw [hr] at hy; injection hy with hy; subst hy; exact h, fun c hc => by rw [hr] at hc; cases hc⟩
theorem WP.err {w : World} {p B : Nat} {ms : List Nat} {E : Env} {R : Rw} {r : Except Er Out} {e : Ending} {w' : World} {c : Er} (hr : r = .error c) (h : e = bad c ∧ Below B w w') : WP w p B ms E R r e w' :=
  ⟨fun y hy => (by rw [hr] at hy; cases hy), fun c' hc => by rw [hr] at hc; injection hc with hc; subst hc; exact h⟩
set_option maxRecDepth 100000 in
set_option maxHeartbeats 8000000 in
theorem useW_calls {w : World} {p B : Nat} {ms : List Nat} {E : Env} {o : Out} {R : Rw} (h : WAt w p B ms E o R) (hne : 0 < E.blocks.length) (hbl : E.blocks.length ≤ 2000000) (hul : o.uses.length ≤ 2000000) (k : Int) (nm : ByteArray) (hs : nm.size ≤ maxLen) (a : Int) (num op kids : Value) (hnum : num.oneCell' = true) (hop : op.oneCell' = true) (hkids : kids.oneCell' = true) (written : Bool) :
    Calls Tryd.prog 62 #[.pointer (some ⟨p, 0, none⟩), .agg #[.int .i64 k, .int .i64 a, .string nm, num, op, kids], .bool written] w (WP w p B ms E R (useP E nm a written o)) := by
  have W1 : Below w.heap.size w (w.alloc (.cells #[.int .i64 k, .int .i64 a, .string nm, num, op, kids] 31)) := below_alloc (Below.refl _ _)
  have hA := h.fr W1
  have FC := findW_calls hA hne hbl nm hs a
  have HW := Lib.hid h
  have HW1 := Lib.hid W1
  have BN := Lib.hid (Blk.new w 31 #[.int .i64 k, .int .i64 a, .string nm, num, op, kids])
  have HUL := Lib.hid hul
  have HFL := Lib.hid (fail_calls)
  have hpl := h.blk.lt
  have n1 : w.heap.size ≠ p := by omega
  have hrange := fun v => findP_range h (nm := nm) (a := a) (v := v)
  clear h hA hne hbl hul hs W1
  cases hf : findP E.blocks nm a with
  | error c =>
    have HR := Lib.hid (show useP E nm a written o = .error c from by unfold useP; rw [hf])
    have FC := Lib.hid (FC.mono (R' := fun e w' => e = bad c ∧ Below (w.alloc (.cells #[.int .i64 k, .int .i64 a, .string nm, num, op, kids] 31)).heap.size (w.alloc (.cells #[.int .i64 k, .int .i64 a, .string nm, num, op, kids] 31)) w') fun e w' hh => ⟨hh.2.2 c hf, hh.1⟩)
    clear hf hrange
    obtain ⟨c1, c2⟩ := c
    unfold bad at FC
    go_enter Tryd.func62, Tryd.ntmps62
    go_wp2_with (go_at_call 71; (with_reducible refine FC.out.mono ?_); rintro e w1 ⟨rfl, hb1⟩)
    exact ⟨rfl, WP.err HR.out ⟨rfl, (below_via HW1.out hb1).mono HW.out.inn.sz⟩⟩
  | ok v =>
    have FC := Lib.hid (FC.mono (R' := fun e w' => e = .returned (.int .i64 v) ∧ Below (w.alloc (.cells #[.int .i64 k, .int .i64 a, .string nm, num, op, kids] 31)).heap.size (w.alloc (.cells #[.int .i64 k, .int .i64 a, .string nm, num, op, kids] 31)) w') fun e w' hh => ⟨hh.2.1 v hf, hh.1⟩)
    have HP := Lib.hid (show useP E nm a written o = if (written && constP o v) = true then .error (a, 74) else .ok { o with vars := if capP E o v = true then o.vars.modify v.toNat (fun x => { x with cap := true }) else o.vars, uses := o.uses ++ [⟨a, v⟩] } from by unfold useP; rw [hf])
    have hvr := hrange v hf
    clear hf hrange
    rcases hvr with rfl | ⟨hv0, hv1⟩
    · have hcp : capP E o (-1) = false := by unfold capP; simp
      cases written
      · have HR := Lib.hid (show useP E nm a false o = .ok { o with uses := o.uses ++ [⟨a, -1⟩] } from by rw [HP.out, hcp]; rfl)
        clear hcp HP
        go_enter Tryd.func62, Tryd.ntmps62
        go_wp2_with (go_at_call 71; (with_reducible refine FC.out.mono ?_); rintro e w1 ⟨rfl, hb1⟩; have hbw := below_via HW1.out hb1; have HBW := Lib.hid hbw; have HA1 := Lib.hid (HW.out.fr hbw); have hbk := HA1.out.blk; have r1 := hbk.cell 1; have r4 := hbk.cell 4; simp only [List.getElem?_toArray, List.getElem?_cons_succ, List.getElem?_cons_zero] at r1 r4; have cn1 := (BN.out.below hb1 BN.out.lt).cell 1; simp only [List.getElem?_toArray, List.getElem?_cons_succ, List.getElem?_cons_zero] at cn1; have BN1 := Lib.hid (BN.out.below hb1 BN.out.lt); clear hb1 hbw hbk)
        go_quiet (fail)
        generalize hU : w1.drewN _ = U
        have hWU : Below w1.heap.size w1 U := by rw [← hU]; exact ⟨rfl, rfl, rfl, Nat.le_refl _, fun _ _ => rfl⟩
        have hI0 := HA1.out.inn.fr hWU
        have hBK := HA1.out.blk.below hWU HA1.out.blk.lt
        have hb0 := BN1.out.below hWU BN1.out.lt
        have hfU : Fr (Ft p R) w U := Fr.of_below (HBW.out.trans (hWU.mono HBW.out.size))
        obtain ⟨Au, cu, huv⟩ := own_is_slice hI0.us
        rw [huv] at hBK
        have HUV := Lib.hid huv
        have hrow := hI0.us
        rw [huv] at hrow
        have HI0 := Lib.hid hI0
        have HBU := Lib.hid hI0.sz
        have HNUM := HUL
        have HFU := Lib.hid hfU
        obtain ⟨i46, hi, hz0, hz1, hz2⟩ := info_parts info46
        have hplU : p < U.heap.size := hBK.lt
        have HOWN := Lib.hid (fun w' (bw : Below U.heap.size U w') => own_below bw hrow)
        have SX := Lib.hid (fun w' (bw : Below U.heap.size U w') => show (fun w' => w'.cell? ⟨p, 2, none⟩ = some (.slice Au o.uses.length cu) ∧ w'.cell? ⟨w.heap.size, 1, none⟩ = some (.int .i64 a)) w' from ⟨(hBK.below bw hplU).cell 2, (hb0.below bw hb0.lt).cell 1⟩)
        have SG := Lib.hid (fun (wa w2 : World) (bw : Below U.heap.size U wa) (g2 : wa.grownBy w2 (Value.ownBlock (.slice Au o.uses.length cu))) => show (fun w' => w'.cell? ⟨p, 2, none⟩ = some (.slice Au o.uses.length cu) ∧ w'.cell? ⟨w.heap.size, 1, none⟩ = some (.int .i64 a)) w2 ∧ Blk w2 p 64 #[R.sv, R.vv, .slice Au o.uses.length cu, R.bv, .int .i64 E.fn, R.lv, .int .i64 E.loops] from by
          have hb2 := (hBK.below bw hplU).grown g2 (fun e => own_blk_ne (HOWN.out _ bw) (hBK.below bw hplU) (by decide) e.symm)
          have hb3 := (hb0.below bw hb0.lt).grown g2 (fun e => own_blk_ne (HOWN.out _ bw) (hb0.below bw hb0.lt) (by decide) e.symm)
          exact ⟨⟨hb2.cell 2, hb3.cell 1⟩, hb2⟩)
        clear hI0 hBK hb0 hrow hfU huv
        go_wp2
        have hTr : True := trivial
        refine wp_region_tail (S := (fun w' => w'.cell? ⟨p, 2, none⟩ = some (.slice Au o.uses.length cu) ∧ w'.cell? ⟨w.heap.size, 1, none⟩ = some (.int .i64 a))) 12 4 rfl (by kernel_rfl) ?_ (fun hHeld => ?_)
        · exact SX.out _ (Below.refl _ _).drew
        refine tt 0 ?_
        try simp only [Act.put, z1, z2, z3]
        refine tt 1 ?_
        try simp only [Act.put, z1, z2, z3]
        refine tt 2 ?_
        try simp only [Act.put, z1, z2, z3]
        refine tt 3 ?_
        try simp only [Act.put, z1, z2, z3]
        refine tt 4 ?_
        try simp only [Act.put, z1, z2, z3]
        refine tt 5 ?_
        try simp only [Act.put, z1, z2, z3]
        refine tt 6 ?_
        try simp only [Act.put, z1, z2, z3]
        refine tt 7 ?_
        try simp only [Act.put, z1, z2, z3]
        refine tt 8 ?_
        try simp only [Act.put, z1, z2, z3]
        refine tt 9 ?_
        try simp only [Act.put, z1, z2, z3]
        refine wpAnyT_ready (rs := [10]) (by kernel_rfl) (by simp) ?_
        refine (AllReadyT.cons (by decide) (i := 10) (o := ?o11) ?h11 (fun K hK => ?k11) AllReadyT.nil)
        case h11 => (simp only [List.getElem?_toArray, List.getElem?_cons_succ, List.getElem?_cons_zero]; try rfl)
        case k11 =>
          go_simp
          try go_wp2_with fail
          refine hK.out _ _ ?_ (fun hHeld => ?_)
          · exact SX.out _ (by first | exact ((Below.refl U.heap.size U).drew).alloc (Nat.le_refl _) _ | exact ((Below.refl U.heap.size U).alloc (Nat.le_refl _) _).drew)
          clear hK K
          try simp only [Act.put, z1, z2, z3]
          refine wpAnyT_ready (rs := [11]) (by kernel_rfl) (by simp) ?_
          refine (AllReadyT.cons (by decide) (i := 11) (o := ?o12) ?h12 (fun K hK => ?k12) AllReadyT.nil)
          case h12 => (simp only [List.getElem?_toArray, List.getElem?_cons_succ, List.getElem?_cons_zero]; try rfl)
          case k12 =>
            (refine step_append_any _ rfl (.tmp 76) (.tmp 81) 34 rfl B 46 i46 _ 2 16 Tryd.underlying34 hi hz0 hz1 hz2 rfl (by decide) (.slice Au o.uses.length cu) o.uses.length (o.uses.flatMap Us.cells) rfl (HOWN.out _ (by first | exact ((Below.refl U.heap.size U).drew).alloc (Nat.le_refl _) _ | exact ((Below.refl U.heap.size U).alloc (Nat.le_refl _) _).drew)) _ _ 1 1 [.int .i64 a, .int .i64 (-1)] rfl (by first | exact reads_blkn (Blk.new _ _ _) | exact reads_blkn ((Blk.new _ _ _).drew)) (by simp [Value.oneCell']) (by unfold maxLen; have := HNUM.out; omega) (by have := HNUM.out; omega) (Nat.le_trans HBU.out (Below.size (by first | exact ((Below.refl U.heap.size U).drew).alloc (Nat.le_refl _) _ | exact ((Below.refl U.heap.size U).alloc (Nat.le_refl _) _).drew))) ?_; intro v2 w2 o2 g2 at2; obtain ⟨A2, c2, rfl⟩ := own_is_slice o2; have hsg := SG.out _ _ (by first | exact ((Below.refl U.heap.size U).drew).alloc (Nat.le_refl _) _ | exact ((Below.refl U.heap.size U).alloc (Nat.le_refl _) _).drew) g2; have GW := Lib.hid (pair_gw (U := U) (by first | exact ((Below.refl U.heap.size U).drew).alloc (Nat.le_refl _) _ | exact ((Below.refl U.heap.size U).alloc (Nat.le_refl _) _).drew) g2); obtain ⟨hs1, hs2⟩ := hsg; have cpf := hs2.frozen 2; have cpc := hs2.cell 2; simp only [List.getElem?_toArray, List.getElem?_cons_succ, List.getElem?_cons_zero] at cpc)
            refine hK.out _ _ ?_ (fun hHeld => ?_)
            · exact hs1
            clear hK K
            try simp only [Act.put, z1, z2, z3]
            refine wpAnyT_done (by kernel_rfl) ?_
            refine tk 12 ?_
            try simp only [Act.put, z1, z2, z3]
            refine tk 13 ?_
            try simp only [Act.put, z1, z2, z3]
            refine tk 14 ?_
            try simp only [Act.put, z1, z2, z3]
            refine wpAnyH_ready (rs := [15]) (by kernel_rfl) (by simp) ?_
            refine (AllReadyH.cons (i := 15) (o := ?o16) ?h16 (fun K hK => ?k16) AllReadyH.nil)
            case h16 => (simp only [List.getElem?_toArray, List.getElem?_cons_succ, List.getElem?_cons_zero]; try rfl)
            case k16 =>
              go_simp
              try go_wp2_with fail
              refine hK.out _ _ ?_ (fun hHeld => ?_)
              · trivial
              clear hK K
              try simp only [Act.put, z1, z2, z3]
              refine wpAnyH_done (by kernel_rfl) ?_ _
              go_wp2
              go_end0
              have f4 := (HFU.out.tr (Fr.of_below GW.out.1)).grown GW.out.2 (fun y e => .inl (.inr (.inr (.inr (.inl (by rw [HUV.out]; exact e))))))
              have f5 := f4.set (p := p) (i := 2) (.inl (.inl rfl)) (.slice A2 (o.uses.length + 1) c2)
              have i2 := ((HI0.out.fr GW.out.1).grow_us (x := ⟨a, (-1)⟩) (own_snoc o2) (by rw [HUV.out]; exact GW.out.2)).recd hs2 2 (.slice A2 (o.uses.length + 1) c2)
              refine WP.ok HR.out ⟨⟨_, rfl⟩, { R with uv := .slice A2 (o.uses.length + 1) c2 }, ⟨HW.out.hp, hs2.set_ 2 _, i2, fun b hb => by exact HW.out.ent b hb⟩, f5, Gr.uv_ (by rw [HUV.out]; exact at2) (Fr.size (HFU.out.tr (Fr.of_below GW.out.1)))⟩
      · have HR := Lib.hid (show useP E nm a true o = .error (a, 74) from by rw [HP.out]; unfold constP; simp)
        clear hcp HP
        go_enter Tryd.func62, Tryd.ntmps62
        go_wp2_with (first | (go_at_call 71; (with_reducible refine FC.out.mono ?_); rintro e w1 ⟨rfl, hb1⟩; have hbw := below_via HW1.out hb1; have HBW := Lib.hid hbw; have HA1 := Lib.hid (HW.out.fr hbw); have hbk := HA1.out.blk; have r1 := hbk.cell 1; have r4 := hbk.cell 4; simp only [List.getElem?_toArray, List.getElem?_cons_succ, List.getElem?_cons_zero] at r1 r4; have cn1 := (BN.out.below hb1 BN.out.lt).cell 1; simp only [List.getElem?_toArray, List.getElem?_cons_succ, List.getElem?_cons_zero] at cn1; have BN1 := Lib.hid (BN.out.below hb1 BN.out.lt); clear hb1 hbw hbk) | (go_at_call 39; (with_reducible refine (HFL.out _ _ _).mono ?_); rintro e w2 ⟨rfl, rfl⟩; unfold bad))
        exact ⟨rfl, WP.err HR.out ⟨rfl, HBW.out.mono HW.out.inn.sz⟩⟩
    · obtain ⟨n, rfl⟩ := Int.eq_ofNat_of_zero_le hv0
      have hn : n < o.vars.length := by omega
      obtain ⟨gv, cv, hvv, hg0, hg1, hc1, hc2⟩ := own_some HW.out.inn.vr (by omega)
      have hat : o.vars[n]? = some (o.vr (n : Int)) := by unfold Out.vr; rw [List.getD_eq_getElem?_getD, Int.toNat_natCast, List.getElem?_eq_getElem hn]; rfl
      have hvrow := HW.out.inn.vr
      rw [hvv] at hvrow
      have KV := Lib.hid (fun (W : World) (b : Below w.heap.size w W) => show W.cell? ⟨gv, n * 6 + 2, none⟩ = some (.int .i64 (o.vr (n : Int)).kind) ∧ W.cell? ⟨gv, n * 6 + 3, none⟩ = some (.int .i64 (o.vr (n : Int)).fn) ∧ W.cell? ⟨gv, n * 6 + 5, none⟩ = some (.bool (o.vr (n : Int)).cap) ∧ W.frozen? ⟨gv, n * 6 + 5, none⟩ = false from by
        have h1 := own_below b hvrow
        have e1 := flat_get (f := Vr.cells) (s := 6) (fun _ => rfl) o.vars n 2 _ hat (by omega)
        have e2 := flat_get (f := Vr.cells) (s := 6) (fun _ => rfl) o.vars n 3 _ hat (by omega)
        have e3 := flat_get (f := Vr.cells) (s := 6) (fun _ => rfl) o.vars n 5 _ hat (by omega)
        exact ⟨(own_cell h1 (by rw [e1]; rfl)).1, (own_cell h1 (by rw [e2]; rfl)).1, (own_cell h1 (by rw [e3]; rfl)).1, (own_cell h1 (u := .bool (o.vr (n : Int)).cap) (by rw [e3]; rfl)).2⟩)
      have hk2 : (0 : Int) ≤ (n : Int) ∧ (n : Int) < (o.vars.length : Int) := by omega
      have hn0 : ¬ (n : Int) < 0 := by omega
      have HN := Lib.hid hn
      have HVV := Lib.hid hvv
      have hgp : gv ≠ p := own_ne_blk HW.out.inn.vr HW.out.blk (by decide) (by rw [hvv]; rfl)
      clear hvrow hat hvv hv1
      have HCP := Lib.hid (show capP E o (n : Int) = decide ((o.vr (n : Int)).fn ≠ (E.fn : Int)) from by unfold capP; rw [decide_eq_true (show (0 : Int) ≤ (n : Int) from hv0)]; rfl)
      have HCO := Lib.hid (show constP o (n : Int) = (decide ((o.vr (n : Int)).kind = 2) || decide ((o.vr (n : Int)).kind = 5)) from by unfold constP; rw [decide_eq_false hn0]; rfl)
      generalize hkd : (o.vr (n : Int)).kind = kd at *
      generalize hfd : (o.vr (n : Int)).fn = fd at *
      clear hkd hfd hv0
      cases written
      · by_cases hcf : fd = (E.fn : Int)
        · have q6 : (fd != (E.fn : Int)) = false := by simp [hcf]
          have HR := Lib.hid (show useP E nm a false o = .ok { o with uses := o.uses ++ [⟨a, (n : Int)⟩] } from by rw [HP.out, HCP.out]; simp [hcf])
          clear HP hcf
          go_enter Tryd.func62, Tryd.ntmps62
          go_wp2_with (go_at_call 71; (with_reducible refine FC.out.mono ?_); rintro e w1 ⟨rfl, hb1⟩; have hbw := below_via HW1.out hb1; have HBW := Lib.hid hbw; have HA1 := Lib.hid (HW.out.fr hbw); have hbk := HA1.out.blk; have r1 := hbk.cell 1; have r4 := hbk.cell 4; simp only [List.getElem?_toArray, List.getElem?_cons_succ, List.getElem?_cons_zero] at r1 r4; have cn1 := (BN.out.below hb1 BN.out.lt).cell 1; simp only [List.getElem?_toArray, List.getElem?_cons_succ, List.getElem?_cons_zero] at cn1; have BN1 := Lib.hid (BN.out.below hb1 BN.out.lt); clear hb1 hbw hbk; rw [HVV.out] at r1; obtain ⟨v2c, v3c, v5c, v5f⟩ := KV.out _ HBW.out)
          go_quiet (fail)
          generalize hU : w1.drewN _ = U
          have hWU : Below w1.heap.size w1 U := by rw [← hU]; exact ⟨rfl, rfl, rfl, Nat.le_refl _, fun _ _ => rfl⟩
          have hI0 := HA1.out.inn.fr hWU
          have hBK := HA1.out.blk.below hWU HA1.out.blk.lt
          have hb0 := BN1.out.below hWU BN1.out.lt
          have hfU : Fr (Ft p R) w U := Fr.of_below (HBW.out.trans (hWU.mono HBW.out.size))
          obtain ⟨Au, cu, huv⟩ := own_is_slice hI0.us
          rw [huv] at hBK
          have HUV := Lib.hid huv
          have hrow := hI0.us
          rw [huv] at hrow
          have HI0 := Lib.hid hI0
          have HBU := Lib.hid hI0.sz
          have HNUM := HUL
          have HFU := Lib.hid hfU
          obtain ⟨i46, hi, hz0, hz1, hz2⟩ := info_parts info46
          have hplU : p < U.heap.size := hBK.lt
          have HOWN := Lib.hid (fun w' (bw : Below U.heap.size U w') => own_below bw hrow)
          have SX := Lib.hid (fun w' (bw : Below U.heap.size U w') => show (fun w' => w'.cell? ⟨p, 2, none⟩ = some (.slice Au o.uses.length cu) ∧ w'.cell? ⟨w.heap.size, 1, none⟩ = some (.int .i64 a)) w' from ⟨(hBK.below bw hplU).cell 2, (hb0.below bw hb0.lt).cell 1⟩)
          have SG := Lib.hid (fun (wa w2 : World) (bw : Below U.heap.size U wa) (g2 : wa.grownBy w2 (Value.ownBlock (.slice Au o.uses.length cu))) => show (fun w' => w'.cell? ⟨p, 2, none⟩ = some (.slice Au o.uses.length cu) ∧ w'.cell? ⟨w.heap.size, 1, none⟩ = some (.int .i64 a)) w2 ∧ Blk w2 p 64 #[R.sv, R.vv, .slice Au o.uses.length cu, R.bv, .int .i64 E.fn, R.lv, .int .i64 E.loops] from by
            have hb2 := (hBK.below bw hplU).grown g2 (fun e => own_blk_ne (HOWN.out _ bw) (hBK.below bw hplU) (by decide) e.symm)
            have hb3 := (hb0.below bw hb0.lt).grown g2 (fun e => own_blk_ne (HOWN.out _ bw) (hb0.below bw hb0.lt) (by decide) e.symm)
            exact ⟨⟨hb2.cell 2, hb3.cell 1⟩, hb2⟩)
          clear hI0 hBK hb0 hrow hfU huv
          go_wp2
          have hTr : True := trivial
          refine wp_region_tail (S := (fun w' => w'.cell? ⟨p, 2, none⟩ = some (.slice Au o.uses.length cu) ∧ w'.cell? ⟨w.heap.size, 1, none⟩ = some (.int .i64 a))) 12 4 rfl (by kernel_rfl) ?_ (fun hHeld => ?_)
          · exact SX.out _ (Below.refl _ _).drew
          refine tt 0 ?_
          try simp only [Act.put, z1, z2, z3]
          refine tt 1 ?_
          try simp only [Act.put, z1, z2, z3]
          refine tt 2 ?_
          try simp only [Act.put, z1, z2, z3]
          refine tt 3 ?_
          try simp only [Act.put, z1, z2, z3]
          refine tt 4 ?_
          try simp only [Act.put, z1, z2, z3]
          refine tt 5 ?_
          try simp only [Act.put, z1, z2, z3]
          refine tt 6 ?_
          try simp only [Act.put, z1, z2, z3]
          refine tt 7 ?_
          try simp only [Act.put, z1, z2, z3]
          refine tt 8 ?_
          try simp only [Act.put, z1, z2, z3]
          refine tt 9 ?_
          try simp only [Act.put, z1, z2, z3]
          refine wpAnyT_ready (rs := [10]) (by kernel_rfl) (by simp) ?_
          refine (AllReadyT.cons (by decide) (i := 10) (o := ?o27) ?h27 (fun K hK => ?k27) AllReadyT.nil)
          case h27 => (simp only [List.getElem?_toArray, List.getElem?_cons_succ, List.getElem?_cons_zero]; try rfl)
          case k27 =>
            go_simp
            try go_wp2_with fail
            refine hK.out _ _ ?_ (fun hHeld => ?_)
            · exact SX.out _ (by first | exact ((Below.refl U.heap.size U).drew).alloc (Nat.le_refl _) _ | exact ((Below.refl U.heap.size U).alloc (Nat.le_refl _) _).drew)
            clear hK K
            try simp only [Act.put, z1, z2, z3]
            refine wpAnyT_ready (rs := [11]) (by kernel_rfl) (by simp) ?_
            refine (AllReadyT.cons (by decide) (i := 11) (o := ?o28) ?h28 (fun K hK => ?k28) AllReadyT.nil)
            case h28 => (simp only [List.getElem?_toArray, List.getElem?_cons_succ, List.getElem?_cons_zero]; try rfl)
            case k28 =>
              (refine step_append_any _ rfl (.tmp 76) (.tmp 81) 34 rfl B 46 i46 _ 2 16 Tryd.underlying34 hi hz0 hz1 hz2 rfl (by decide) (.slice Au o.uses.length cu) o.uses.length (o.uses.flatMap Us.cells) rfl (HOWN.out _ (by first | exact ((Below.refl U.heap.size U).drew).alloc (Nat.le_refl _) _ | exact ((Below.refl U.heap.size U).alloc (Nat.le_refl _) _).drew)) _ _ 1 1 [.int .i64 a, .int .i64 (n : Int)] rfl (by first | exact reads_blkn (Blk.new _ _ _) | exact reads_blkn ((Blk.new _ _ _).drew)) (by simp [Value.oneCell']) (by unfold maxLen; have := HNUM.out; omega) (by have := HNUM.out; omega) (Nat.le_trans HBU.out (Below.size (by first | exact ((Below.refl U.heap.size U).drew).alloc (Nat.le_refl _) _ | exact ((Below.refl U.heap.size U).alloc (Nat.le_refl _) _).drew))) ?_; intro v2 w2 o2 g2 at2; obtain ⟨A2, c2, rfl⟩ := own_is_slice o2; have hsg := SG.out _ _ (by first | exact ((Below.refl U.heap.size U).drew).alloc (Nat.le_refl _) _ | exact ((Below.refl U.heap.size U).alloc (Nat.le_refl _) _).drew) g2; have GW := Lib.hid (pair_gw (U := U) (by first | exact ((Below.refl U.heap.size U).drew).alloc (Nat.le_refl _) _ | exact ((Below.refl U.heap.size U).alloc (Nat.le_refl _) _).drew) g2); obtain ⟨hs1, hs2⟩ := hsg; have cpf := hs2.frozen 2; have cpc := hs2.cell 2; simp only [List.getElem?_toArray, List.getElem?_cons_succ, List.getElem?_cons_zero] at cpc)
              refine hK.out _ _ ?_ (fun hHeld => ?_)
              · exact hs1
              clear hK K
              try simp only [Act.put, z1, z2, z3]
              refine wpAnyT_done (by kernel_rfl) ?_
              refine tk 12 ?_
              try simp only [Act.put, z1, z2, z3]
              refine tk 13 ?_
              try simp only [Act.put, z1, z2, z3]
              refine tk 14 ?_
              try simp only [Act.put, z1, z2, z3]
              refine wpAnyH_ready (rs := [15]) (by kernel_rfl) (by simp) ?_
              refine (AllReadyH.cons (i := 15) (o := ?o32) ?h32 (fun K hK => ?k32) AllReadyH.nil)
              case h32 => (simp only [List.getElem?_toArray, List.getElem?_cons_succ, List.getElem?_cons_zero]; try rfl)
              case k32 =>
                go_simp
                try go_wp2_with fail
                refine hK.out _ _ ?_ (fun hHeld => ?_)
                · trivial
                clear hK K
                try simp only [Act.put, z1, z2, z3]
                refine wpAnyH_done (by kernel_rfl) ?_ _
                go_wp2
                go_end0
                have f4 := (HFU.out.tr (Fr.of_below GW.out.1)).grown GW.out.2 (fun y e => .inl (.inr (.inr (.inr (.inl (by rw [HUV.out]; exact e))))))
                have f5 := f4.set (p := p) (i := 2) (.inl (.inl rfl)) (.slice A2 (o.uses.length + 1) c2)
                have i2 := ((HI0.out.fr GW.out.1).grow_us (x := ⟨a, (n : Int)⟩) (own_snoc o2) (by rw [HUV.out]; exact GW.out.2)).recd hs2 2 (.slice A2 (o.uses.length + 1) c2)
                refine WP.ok HR.out ⟨⟨_, rfl⟩, { R with uv := .slice A2 (o.uses.length + 1) c2 }, ⟨HW.out.hp, hs2.set_ 2 _, i2, fun b hb => by exact HW.out.ent b hb⟩, f5, Gr.uv_ (by rw [HUV.out]; exact at2) (Fr.size (HFU.out.tr (Fr.of_below GW.out.1)))⟩
        · have q6 : (fd != (E.fn : Int)) = true := by simp [hcf]
          have HR := Lib.hid (show useP E nm a false o = .ok { o with vars := o.vars.modify n (fun x => { x with cap := true }), uses := o.uses ++ [⟨a, (n : Int)⟩] } from by rw [HP.out, HCP.out]; simp [hcf])
          clear HP hcf
          go_enter Tryd.func62, Tryd.ntmps62
          go_wp2_with (go_at_call 71; (with_reducible refine FC.out.mono ?_); rintro e w1 ⟨rfl, hb1⟩; have hbw := below_via HW1.out hb1; have HBW := Lib.hid hbw; have HA1 := Lib.hid (HW.out.fr hbw); have hbk := HA1.out.blk; have r1 := hbk.cell 1; have r4 := hbk.cell 4; simp only [List.getElem?_toArray, List.getElem?_cons_succ, List.getElem?_cons_zero] at r1 r4; have cn1 := (BN.out.below hb1 BN.out.lt).cell 1; simp only [List.getElem?_toArray, List.getElem?_cons_succ, List.getElem?_cons_zero] at cn1; have BN1 := Lib.hid (BN.out.below hb1 BN.out.lt); clear hb1 hbw hbk; rw [HVV.out] at r1; obtain ⟨v2c, v3c, v5c, v5f⟩ := KV.out _ HBW.out)
          go_quiet (fail)
          generalize hW4e : w1.drewN _ = W4
          have hW4 : Below w1.heap.size w1 W4 := by rw [← hW4e]; exact ⟨rfl, rfl, rfl, Nat.le_refl _, fun _ _ => rfl⟩
          have r1 := (HA1.out.blk.below hW4 HA1.out.blk.lt).cell 1
          simp only [List.getElem?_toArray, List.getElem?_cons_succ, List.getElem?_cons_zero] at r1
          rw [HVV.out] at r1
          obtain ⟨v2c, v3c, v5c, v5f⟩ := KV.out _ (HBW.out.trans (hW4.mono HBW.out.size))
          clear hW4e
          obtain ⟨U, hU⟩ : ∃ U, W4.setCell ⟨gv, n * 6 + 5, none⟩ (.bool true) = U := ⟨_, rfl⟩
          have hI0 := (HA1.out.inn.fr hW4).capt (g := gv) (n := o.vars.length) (c := cv) HVV.out HN.out
          rw [hU] at hI0
          have hBK : Blk U p 64 #[R.sv, R.vv, R.uv, R.bv, .int .i64 E.fn, R.lv, .int .i64 E.loops] := by rw [← hU]; exact (HA1.out.blk.below hW4 HA1.out.blk.lt).far (fun e => hgp e.symm) _
          have hb0 : Blk U w.heap.size 31 #[.int .i64 k, .int .i64 a, .string nm, num, op, kids] := by rw [← hU]; exact (BN1.out.below hW4 BN1.out.lt).far (fun e => by have := (own_lt HW.out.inn.vr (b := gv) (by rw [HVV.out]; rfl)).2; simp at e; omega) _
          have hfU : Fr (Ft p R) w U := by rw [← hU]; exact (Fr.of_below (HBW.out.trans (hW4.mono HBW.out.size))).set (.inl (.inr (.inr (.inl (by rw [HVV.out]; rfl))))) _
          obtain ⟨Au, cu, huv⟩ := own_is_slice hI0.us
          rw [huv] at hBK
          have HUV := Lib.hid huv
          have hrow := hI0.us
          rw [huv] at hrow
          have HI0 := Lib.hid hI0
          have HBU := Lib.hid hI0.sz
          have HNUM := HUL
          have HFU := Lib.hid hfU
          obtain ⟨i46, hi, hz0, hz1, hz2⟩ := info_parts info46
          have hplU : p < U.heap.size := hBK.lt
          have HOWN := Lib.hid (fun w' (bw : Below U.heap.size U w') => own_below bw hrow)
          have SX := Lib.hid (fun w' (bw : Below U.heap.size U w') => show (fun w' => w'.cell? ⟨p, 2, none⟩ = some (.slice Au o.uses.length cu) ∧ w'.cell? ⟨w.heap.size, 1, none⟩ = some (.int .i64 a)) w' from ⟨(hBK.below bw hplU).cell 2, (hb0.below bw hb0.lt).cell 1⟩)
          have SG := Lib.hid (fun (wa w2 : World) (bw : Below U.heap.size U wa) (g2 : wa.grownBy w2 (Value.ownBlock (.slice Au o.uses.length cu))) => show (fun w' => w'.cell? ⟨p, 2, none⟩ = some (.slice Au o.uses.length cu) ∧ w'.cell? ⟨w.heap.size, 1, none⟩ = some (.int .i64 a)) w2 ∧ Blk w2 p 64 #[R.sv, R.vv, .slice Au o.uses.length cu, R.bv, .int .i64 E.fn, R.lv, .int .i64 E.loops] from by
            have hb2 := (hBK.below bw hplU).grown g2 (fun e => own_blk_ne (HOWN.out _ bw) (hBK.below bw hplU) (by decide) e.symm)
            have hb3 := (hb0.below bw hb0.lt).grown g2 (fun e => own_blk_ne (HOWN.out _ bw) (hb0.below bw hb0.lt) (by decide) e.symm)
            exact ⟨⟨hb2.cell 2, hb3.cell 1⟩, hb2⟩)
          clear hI0 hBK hb0 hrow hfU huv
          go_wp2
          have hTr : True := trivial
          refine wp_region_tail (S := (fun w' => w'.cell? ⟨p, 2, none⟩ = some (.slice Au o.uses.length cu) ∧ w'.cell? ⟨w.heap.size, 1, none⟩ = some (.int .i64 a))) 12 4 rfl (by kernel_rfl) ?_ (fun hHeld => ?_)
          · exact SX.out _ (Below.refl _ _).drew
          refine tt 0 ?_
          try simp only [Act.put, z1, z2, z3]
          refine tt 1 ?_
          try simp only [Act.put, z1, z2, z3]
          refine tt 2 ?_
          try simp only [Act.put, z1, z2, z3]
          refine tt 3 ?_
          try simp only [Act.put, z1, z2, z3]
          refine tt 4 ?_
          try simp only [Act.put, z1, z2, z3]
          refine tt 5 ?_
          try simp only [Act.put, z1, z2, z3]
          refine tt 6 ?_
          try simp only [Act.put, z1, z2, z3]
          refine tt 7 ?_
          try simp only [Act.put, z1, z2, z3]
          refine tt 8 ?_
          try simp only [Act.put, z1, z2, z3]
          refine tt 9 ?_
          try simp only [Act.put, z1, z2, z3]
          refine wpAnyT_ready (rs := [10]) (by kernel_rfl) (by simp) ?_
          refine (AllReadyT.cons (by decide) (i := 10) (o := ?o43) ?h43 (fun K hK => ?k43) AllReadyT.nil)
          case h43 => (simp only [List.getElem?_toArray, List.getElem?_cons_succ, List.getElem?_cons_zero]; try rfl)
          case k43 =>
            go_simp
            try go_wp2_with fail
            refine hK.out _ _ ?_ (fun hHeld => ?_)
            · exact SX.out _ (by first | exact ((Below.refl U.heap.size U).drew).alloc (Nat.le_refl _) _ | exact ((Below.refl U.heap.size U).alloc (Nat.le_refl _) _).drew)
            clear hK K
            try simp only [Act.put, z1, z2, z3]
            refine wpAnyT_ready (rs := [11]) (by kernel_rfl) (by simp) ?_
            refine (AllReadyT.cons (by decide) (i := 11) (o := ?o44) ?h44 (fun K hK => ?k44) AllReadyT.nil)
            case h44 => (simp only [List.getElem?_toArray, List.getElem?_cons_succ, List.getElem?_cons_zero]; try rfl)
            case k44 =>
              (refine step_append_any _ rfl (.tmp 76) (.tmp 81) 34 rfl B 46 i46 _ 2 16 Tryd.underlying34 hi hz0 hz1 hz2 rfl (by decide) (.slice Au o.uses.length cu) o.uses.length (o.uses.flatMap Us.cells) rfl (HOWN.out _ (by first | exact ((Below.refl U.heap.size U).drew).alloc (Nat.le_refl _) _ | exact ((Below.refl U.heap.size U).alloc (Nat.le_refl _) _).drew)) _ _ 1 1 [.int .i64 a, .int .i64 (n : Int)] rfl (by first | exact reads_blkn (Blk.new _ _ _) | exact reads_blkn ((Blk.new _ _ _).drew)) (by simp [Value.oneCell']) (by unfold maxLen; have := HNUM.out; omega) (by have := HNUM.out; omega) (Nat.le_trans HBU.out (Below.size (by first | exact ((Below.refl U.heap.size U).drew).alloc (Nat.le_refl _) _ | exact ((Below.refl U.heap.size U).alloc (Nat.le_refl _) _).drew))) ?_; intro v2 w2 o2 g2 at2; obtain ⟨A2, c2, rfl⟩ := own_is_slice o2; have hsg := SG.out _ _ (by first | exact ((Below.refl U.heap.size U).drew).alloc (Nat.le_refl _) _ | exact ((Below.refl U.heap.size U).alloc (Nat.le_refl _) _).drew) g2; have GW := Lib.hid (pair_gw (U := U) (by first | exact ((Below.refl U.heap.size U).drew).alloc (Nat.le_refl _) _ | exact ((Below.refl U.heap.size U).alloc (Nat.le_refl _) _).drew) g2); obtain ⟨hs1, hs2⟩ := hsg; have cpf := hs2.frozen 2; have cpc := hs2.cell 2; simp only [List.getElem?_toArray, List.getElem?_cons_succ, List.getElem?_cons_zero] at cpc)
              refine hK.out _ _ ?_ (fun hHeld => ?_)
              · exact hs1
              clear hK K
              try simp only [Act.put, z1, z2, z3]
              refine wpAnyT_done (by kernel_rfl) ?_
              refine tk 12 ?_
              try simp only [Act.put, z1, z2, z3]
              refine tk 13 ?_
              try simp only [Act.put, z1, z2, z3]
              refine tk 14 ?_
              try simp only [Act.put, z1, z2, z3]
              refine wpAnyH_ready (rs := [15]) (by kernel_rfl) (by simp) ?_
              refine (AllReadyH.cons (i := 15) (o := ?o48) ?h48 (fun K hK => ?k48) AllReadyH.nil)
              case h48 => (simp only [List.getElem?_toArray, List.getElem?_cons_succ, List.getElem?_cons_zero]; try rfl)
              case k48 =>
                go_simp
                try go_wp2_with fail
                refine hK.out _ _ ?_ (fun hHeld => ?_)
                · trivial
                clear hK K
                try simp only [Act.put, z1, z2, z3]
                refine wpAnyH_done (by kernel_rfl) ?_ _
                go_wp2
                go_end0
                have f4 := (HFU.out.tr (Fr.of_below GW.out.1)).grown GW.out.2 (fun y e => .inl (.inr (.inr (.inr (.inl (by rw [HUV.out]; exact e))))))
                have f5 := f4.set (p := p) (i := 2) (.inl (.inl rfl)) (.slice A2 (o.uses.length + 1) c2)
                have i2 := ((HI0.out.fr GW.out.1).grow_us (x := ⟨a, (n : Int)⟩) (own_snoc o2) (by rw [HUV.out]; exact GW.out.2)).recd hs2 2 (.slice A2 (o.uses.length + 1) c2)
                refine WP.ok HR.out ⟨⟨_, rfl⟩, { R with uv := .slice A2 (o.uses.length + 1) c2 }, ⟨HW.out.hp, hs2.set_ 2 _, i2, fun b hb => by simpa using HW.out.ent b hb⟩, f5, Gr.uv_ (by rw [HUV.out]; exact at2) (Fr.size (HFU.out.tr (Fr.of_below GW.out.1)))⟩
      · by_cases hk2' : kd = 2
        · have HR := Lib.hid (show useP E nm a true o = .error (a, 74) from by rw [HP.out, HCO.out, hk2']; rfl)
          clear HP
          subst hk2'
          go_enter Tryd.func62, Tryd.ntmps62
          go_wp2_with (first | (go_at_call 71; (with_reducible refine FC.out.mono ?_); rintro e w1 ⟨rfl, hb1⟩; have hbw := below_via HW1.out hb1; have HBW := Lib.hid hbw; have HA1 := Lib.hid (HW.out.fr hbw); have hbk := HA1.out.blk; have r1 := hbk.cell 1; have r4 := hbk.cell 4; simp only [List.getElem?_toArray, List.getElem?_cons_succ, List.getElem?_cons_zero] at r1 r4; have cn1 := (BN.out.below hb1 BN.out.lt).cell 1; simp only [List.getElem?_toArray, List.getElem?_cons_succ, List.getElem?_cons_zero] at cn1; have BN1 := Lib.hid (BN.out.below hb1 BN.out.lt); clear hb1 hbw hbk; rw [HVV.out] at r1; obtain ⟨v2c, v3c, v5c, v5f⟩ := KV.out _ HBW.out) | (go_at_call 39; (with_reducible refine (HFL.out _ _ _).mono ?_); rintro e w2 ⟨rfl, rfl⟩; unfold bad))
          exact ⟨rfl, WP.err HR.out ⟨rfl, HBW.out.mono HW.out.inn.sz⟩⟩
        · have q2 : (kd == 2) = false := by simp [hk2']
          by_cases hk5 : kd = 5
          · have HR := Lib.hid (show useP E nm a true o = .error (a, 74) from by rw [HP.out, HCO.out, hk5]; rfl)
            clear HP
            subst hk5
            go_enter Tryd.func62, Tryd.ntmps62
            go_wp2_with (first | (go_at_call 71; (with_reducible refine FC.out.mono ?_); rintro e w1 ⟨rfl, hb1⟩; have hbw := below_via HW1.out hb1; have HBW := Lib.hid hbw; have HA1 := Lib.hid (HW.out.fr hbw); have hbk := HA1.out.blk; have r1 := hbk.cell 1; have r4 := hbk.cell 4; simp only [List.getElem?_toArray, List.getElem?_cons_succ, List.getElem?_cons_zero] at r1 r4; have cn1 := (BN.out.below hb1 BN.out.lt).cell 1; simp only [List.getElem?_toArray, List.getElem?_cons_succ, List.getElem?_cons_zero] at cn1; have BN1 := Lib.hid (BN.out.below hb1 BN.out.lt); clear hb1 hbw hbk; rw [HVV.out] at r1; obtain ⟨v2c, v3c, v5c, v5f⟩ := KV.out _ HBW.out) | (go_at_call 39; (with_reducible refine (HFL.out _ _ _).mono ?_); rintro e w2 ⟨rfl, rfl⟩; unfold bad))
            exact ⟨rfl, WP.err HR.out ⟨rfl, HBW.out.mono HW.out.inn.sz⟩⟩
          · have q5 : (kd == 5) = false := by simp [hk5]
            have HCO2 := Lib.hid (show constP o (n : Int) = false from by rw [HCO.out]; simp [hk2', hk5])
            by_cases hcf : fd = (E.fn : Int)
            · have q6 : (fd != (E.fn : Int)) = false := by simp [hcf]
              have HR := Lib.hid (show useP E nm a true o = .ok { o with uses := o.uses ++ [⟨a, (n : Int)⟩] } from by rw [HP.out, HCO2.out, HCP.out]; simp [hcf])
              clear HP hcf
              go_enter Tryd.func62, Tryd.ntmps62
              go_wp2_with (go_at_call 71; (with_reducible refine FC.out.mono ?_); rintro e w1 ⟨rfl, hb1⟩; have hbw := below_via HW1.out hb1; have HBW := Lib.hid hbw; have HA1 := Lib.hid (HW.out.fr hbw); have hbk := HA1.out.blk; have r1 := hbk.cell 1; have r4 := hbk.cell 4; simp only [List.getElem?_toArray, List.getElem?_cons_succ, List.getElem?_cons_zero] at r1 r4; have cn1 := (BN.out.below hb1 BN.out.lt).cell 1; simp only [List.getElem?_toArray, List.getElem?_cons_succ, List.getElem?_cons_zero] at cn1; have BN1 := Lib.hid (BN.out.below hb1 BN.out.lt); clear hb1 hbw hbk; rw [HVV.out] at r1; obtain ⟨v2c, v3c, v5c, v5f⟩ := KV.out _ HBW.out)
              go_quiet (fail)
              generalize hU : w1.drewN _ = U
              have hWU : Below w1.heap.size w1 U := by rw [← hU]; exact ⟨rfl, rfl, rfl, Nat.le_refl _, fun _ _ => rfl⟩
              have hI0 := HA1.out.inn.fr hWU
              have hBK := HA1.out.blk.below hWU HA1.out.blk.lt
              have hb0 := BN1.out.below hWU BN1.out.lt
              have hfU : Fr (Ft p R) w U := Fr.of_below (HBW.out.trans (hWU.mono HBW.out.size))
              obtain ⟨Au, cu, huv⟩ := own_is_slice hI0.us
              rw [huv] at hBK
              have HUV := Lib.hid huv
              have hrow := hI0.us
              rw [huv] at hrow
              have HI0 := Lib.hid hI0
              have HBU := Lib.hid hI0.sz
              have HNUM := HUL
              have HFU := Lib.hid hfU
              obtain ⟨i46, hi, hz0, hz1, hz2⟩ := info_parts info46
              have hplU : p < U.heap.size := hBK.lt
              have HOWN := Lib.hid (fun w' (bw : Below U.heap.size U w') => own_below bw hrow)
              have SX := Lib.hid (fun w' (bw : Below U.heap.size U w') => show (fun w' => w'.cell? ⟨p, 2, none⟩ = some (.slice Au o.uses.length cu) ∧ w'.cell? ⟨w.heap.size, 1, none⟩ = some (.int .i64 a)) w' from ⟨(hBK.below bw hplU).cell 2, (hb0.below bw hb0.lt).cell 1⟩)
              have SG := Lib.hid (fun (wa w2 : World) (bw : Below U.heap.size U wa) (g2 : wa.grownBy w2 (Value.ownBlock (.slice Au o.uses.length cu))) => show (fun w' => w'.cell? ⟨p, 2, none⟩ = some (.slice Au o.uses.length cu) ∧ w'.cell? ⟨w.heap.size, 1, none⟩ = some (.int .i64 a)) w2 ∧ Blk w2 p 64 #[R.sv, R.vv, .slice Au o.uses.length cu, R.bv, .int .i64 E.fn, R.lv, .int .i64 E.loops] from by
                have hb2 := (hBK.below bw hplU).grown g2 (fun e => own_blk_ne (HOWN.out _ bw) (hBK.below bw hplU) (by decide) e.symm)
                have hb3 := (hb0.below bw hb0.lt).grown g2 (fun e => own_blk_ne (HOWN.out _ bw) (hb0.below bw hb0.lt) (by decide) e.symm)
                exact ⟨⟨hb2.cell 2, hb3.cell 1⟩, hb2⟩)
              clear hI0 hBK hb0 hrow hfU huv
              go_wp2
              have hTr : True := trivial
              refine wp_region_tail (S := (fun w' => w'.cell? ⟨p, 2, none⟩ = some (.slice Au o.uses.length cu) ∧ w'.cell? ⟨w.heap.size, 1, none⟩ = some (.int .i64 a))) 12 4 rfl (by kernel_rfl) ?_ (fun hHeld => ?_)
              · exact SX.out _ (Below.refl _ _).drew
              refine tt 0 ?_
              try simp only [Act.put, z1, z2, z3]
              refine tt 1 ?_
              try simp only [Act.put, z1, z2, z3]
              refine tt 2 ?_
              try simp only [Act.put, z1, z2, z3]
              refine tt 3 ?_
              try simp only [Act.put, z1, z2, z3]
              refine tt 4 ?_
              try simp only [Act.put, z1, z2, z3]
              refine tt 5 ?_
              try simp only [Act.put, z1, z2, z3]
              refine tt 6 ?_
              try simp only [Act.put, z1, z2, z3]
              refine tt 7 ?_
              try simp only [Act.put, z1, z2, z3]
              refine tt 8 ?_
              try simp only [Act.put, z1, z2, z3]
              refine tt 9 ?_
              try simp only [Act.put, z1, z2, z3]
              refine wpAnyT_ready (rs := [10]) (by kernel_rfl) (by simp) ?_
              refine (AllReadyT.cons (by decide) (i := 10) (o := ?o59) ?h59 (fun K hK => ?k59) AllReadyT.nil)
              case h59 => (simp only [List.getElem?_toArray, List.getElem?_cons_succ, List.getElem?_cons_zero]; try rfl)
              case k59 =>
                go_simp
                try go_wp2_with fail
                refine hK.out _ _ ?_ (fun hHeld => ?_)
                · exact SX.out _ (by first | exact ((Below.refl U.heap.size U).drew).alloc (Nat.le_refl _) _ | exact ((Below.refl U.heap.size U).alloc (Nat.le_refl _) _).drew)
                clear hK K
                try simp only [Act.put, z1, z2, z3]
                refine wpAnyT_ready (rs := [11]) (by kernel_rfl) (by simp) ?_
                refine (AllReadyT.cons (by decide) (i := 11) (o := ?o60) ?h60 (fun K hK => ?k60) AllReadyT.nil)
                case h60 => (simp only [List.getElem?_toArray, List.getElem?_cons_succ, List.getElem?_cons_zero]; try rfl)
                case k60 =>
                  (refine step_append_any _ rfl (.tmp 76) (.tmp 81) 34 rfl B 46 i46 _ 2 16 Tryd.underlying34 hi hz0 hz1 hz2 rfl (by decide) (.slice Au o.uses.length cu) o.uses.length (o.uses.flatMap Us.cells) rfl (HOWN.out _ (by first | exact ((Below.refl U.heap.size U).drew).alloc (Nat.le_refl _) _ | exact ((Below.refl U.heap.size U).alloc (Nat.le_refl _) _).drew)) _ _ 1 1 [.int .i64 a, .int .i64 (n : Int)] rfl (by first | exact reads_blkn (Blk.new _ _ _) | exact reads_blkn ((Blk.new _ _ _).drew)) (by simp [Value.oneCell']) (by unfold maxLen; have := HNUM.out; omega) (by have := HNUM.out; omega) (Nat.le_trans HBU.out (Below.size (by first | exact ((Below.refl U.heap.size U).drew).alloc (Nat.le_refl _) _ | exact ((Below.refl U.heap.size U).alloc (Nat.le_refl _) _).drew))) ?_; intro v2 w2 o2 g2 at2; obtain ⟨A2, c2, rfl⟩ := own_is_slice o2; have hsg := SG.out _ _ (by first | exact ((Below.refl U.heap.size U).drew).alloc (Nat.le_refl _) _ | exact ((Below.refl U.heap.size U).alloc (Nat.le_refl _) _).drew) g2; have GW := Lib.hid (pair_gw (U := U) (by first | exact ((Below.refl U.heap.size U).drew).alloc (Nat.le_refl _) _ | exact ((Below.refl U.heap.size U).alloc (Nat.le_refl _) _).drew) g2); obtain ⟨hs1, hs2⟩ := hsg; have cpf := hs2.frozen 2; have cpc := hs2.cell 2; simp only [List.getElem?_toArray, List.getElem?_cons_succ, List.getElem?_cons_zero] at cpc)
                  refine hK.out _ _ ?_ (fun hHeld => ?_)
                  · exact hs1
                  clear hK K
                  try simp only [Act.put, z1, z2, z3]
                  refine wpAnyT_done (by kernel_rfl) ?_
                  refine tk 12 ?_
                  try simp only [Act.put, z1, z2, z3]
                  refine tk 13 ?_
                  try simp only [Act.put, z1, z2, z3]
                  refine tk 14 ?_
                  try simp only [Act.put, z1, z2, z3]
                  refine wpAnyH_ready (rs := [15]) (by kernel_rfl) (by simp) ?_
                  refine (AllReadyH.cons (i := 15) (o := ?o64) ?h64 (fun K hK => ?k64) AllReadyH.nil)
                  case h64 => (simp only [List.getElem?_toArray, List.getElem?_cons_succ, List.getElem?_cons_zero]; try rfl)
                  case k64 =>
                    go_simp
                    try go_wp2_with fail
                    refine hK.out _ _ ?_ (fun hHeld => ?_)
                    · trivial
                    clear hK K
                    try simp only [Act.put, z1, z2, z3]
                    refine wpAnyH_done (by kernel_rfl) ?_ _
                    go_wp2
                    go_end0
                    have f4 := (HFU.out.tr (Fr.of_below GW.out.1)).grown GW.out.2 (fun y e => .inl (.inr (.inr (.inr (.inl (by rw [HUV.out]; exact e))))))
                    have f5 := f4.set (p := p) (i := 2) (.inl (.inl rfl)) (.slice A2 (o.uses.length + 1) c2)
                    have i2 := ((HI0.out.fr GW.out.1).grow_us (x := ⟨a, (n : Int)⟩) (own_snoc o2) (by rw [HUV.out]; exact GW.out.2)).recd hs2 2 (.slice A2 (o.uses.length + 1) c2)
                    refine WP.ok HR.out ⟨⟨_, rfl⟩, { R with uv := .slice A2 (o.uses.length + 1) c2 }, ⟨HW.out.hp, hs2.set_ 2 _, i2, fun b hb => by exact HW.out.ent b hb⟩, f5, Gr.uv_ (by rw [HUV.out]; exact at2) (Fr.size (HFU.out.tr (Fr.of_below GW.out.1)))⟩
            · have q6 : (fd != (E.fn : Int)) = true := by simp [hcf]
              have HR := Lib.hid (show useP E nm a true o = .ok { o with vars := o.vars.modify n (fun x => { x with cap := true }), uses := o.uses ++ [⟨a, (n : Int)⟩] } from by rw [HP.out, HCO2.out, HCP.out]; simp [hcf])
              clear HP hcf
              go_enter Tryd.func62, Tryd.ntmps62
              go_wp2_with (go_at_call 71; (with_reducible refine FC.out.mono ?_); rintro e w1 ⟨rfl, hb1⟩; have hbw := below_via HW1.out hb1; have HBW := Lib.hid hbw; have HA1 := Lib.hid (HW.out.fr hbw); have hbk := HA1.out.blk; have r1 := hbk.cell 1; have r4 := hbk.cell 4; simp only [List.getElem?_toArray, List.getElem?_cons_succ, List.getElem?_cons_zero] at r1 r4; have cn1 := (BN.out.below hb1 BN.out.lt).cell 1; simp only [List.getElem?_toArray, List.getElem?_cons_succ, List.getElem?_cons_zero] at cn1; have BN1 := Lib.hid (BN.out.below hb1 BN.out.lt); clear hb1 hbw hbk; rw [HVV.out] at r1; obtain ⟨v2c, v3c, v5c, v5f⟩ := KV.out _ HBW.out)
              go_quiet (fail)
              generalize hW4e : w1.drewN _ = W4
              have hW4 : Below w1.heap.size w1 W4 := by rw [← hW4e]; exact ⟨rfl, rfl, rfl, Nat.le_refl _, fun _ _ => rfl⟩
              have r1 := (HA1.out.blk.below hW4 HA1.out.blk.lt).cell 1
              simp only [List.getElem?_toArray, List.getElem?_cons_succ, List.getElem?_cons_zero] at r1
              rw [HVV.out] at r1
              obtain ⟨v2c, v3c, v5c, v5f⟩ := KV.out _ (HBW.out.trans (hW4.mono HBW.out.size))
              clear hW4e
              obtain ⟨U, hU⟩ : ∃ U, W4.setCell ⟨gv, n * 6 + 5, none⟩ (.bool true) = U := ⟨_, rfl⟩
              have hI0 := (HA1.out.inn.fr hW4).capt (g := gv) (n := o.vars.length) (c := cv) HVV.out HN.out
              rw [hU] at hI0
              have hBK : Blk U p 64 #[R.sv, R.vv, R.uv, R.bv, .int .i64 E.fn, R.lv, .int .i64 E.loops] := by rw [← hU]; exact (HA1.out.blk.below hW4 HA1.out.blk.lt).far (fun e => hgp e.symm) _
              have hb0 : Blk U w.heap.size 31 #[.int .i64 k, .int .i64 a, .string nm, num, op, kids] := by rw [← hU]; exact (BN1.out.below hW4 BN1.out.lt).far (fun e => by have := (own_lt HW.out.inn.vr (b := gv) (by rw [HVV.out]; rfl)).2; simp at e; omega) _
              have hfU : Fr (Ft p R) w U := by rw [← hU]; exact (Fr.of_below (HBW.out.trans (hW4.mono HBW.out.size))).set (.inl (.inr (.inr (.inl (by rw [HVV.out]; rfl))))) _
              obtain ⟨Au, cu, huv⟩ := own_is_slice hI0.us
              rw [huv] at hBK
              have HUV := Lib.hid huv
              have hrow := hI0.us
              rw [huv] at hrow
              have HI0 := Lib.hid hI0
              have HBU := Lib.hid hI0.sz
              have HNUM := HUL
              have HFU := Lib.hid hfU
              obtain ⟨i46, hi, hz0, hz1, hz2⟩ := info_parts info46
              have hplU : p < U.heap.size := hBK.lt
              have HOWN := Lib.hid (fun w' (bw : Below U.heap.size U w') => own_below bw hrow)
              have SX := Lib.hid (fun w' (bw : Below U.heap.size U w') => show (fun w' => w'.cell? ⟨p, 2, none⟩ = some (.slice Au o.uses.length cu) ∧ w'.cell? ⟨w.heap.size, 1, none⟩ = some (.int .i64 a)) w' from ⟨(hBK.below bw hplU).cell 2, (hb0.below bw hb0.lt).cell 1⟩)
              have SG := Lib.hid (fun (wa w2 : World) (bw : Below U.heap.size U wa) (g2 : wa.grownBy w2 (Value.ownBlock (.slice Au o.uses.length cu))) => show (fun w' => w'.cell? ⟨p, 2, none⟩ = some (.slice Au o.uses.length cu) ∧ w'.cell? ⟨w.heap.size, 1, none⟩ = some (.int .i64 a)) w2 ∧ Blk w2 p 64 #[R.sv, R.vv, .slice Au o.uses.length cu, R.bv, .int .i64 E.fn, R.lv, .int .i64 E.loops] from by
                have hb2 := (hBK.below bw hplU).grown g2 (fun e => own_blk_ne (HOWN.out _ bw) (hBK.below bw hplU) (by decide) e.symm)
                have hb3 := (hb0.below bw hb0.lt).grown g2 (fun e => own_blk_ne (HOWN.out _ bw) (hb0.below bw hb0.lt) (by decide) e.symm)
                exact ⟨⟨hb2.cell 2, hb3.cell 1⟩, hb2⟩)
              clear hI0 hBK hb0 hrow hfU huv
              go_wp2
              have hTr : True := trivial
              refine wp_region_tail (S := (fun w' => w'.cell? ⟨p, 2, none⟩ = some (.slice Au o.uses.length cu) ∧ w'.cell? ⟨w.heap.size, 1, none⟩ = some (.int .i64 a))) 12 4 rfl (by kernel_rfl) ?_ (fun hHeld => ?_)
              · exact SX.out _ (Below.refl _ _).drew
              refine tt 0 ?_
              try simp only [Act.put, z1, z2, z3]
              refine tt 1 ?_
              try simp only [Act.put, z1, z2, z3]
              refine tt 2 ?_
              try simp only [Act.put, z1, z2, z3]
              refine tt 3 ?_
              try simp only [Act.put, z1, z2, z3]
              refine tt 4 ?_
              try simp only [Act.put, z1, z2, z3]
              refine tt 5 ?_
              try simp only [Act.put, z1, z2, z3]
              refine tt 6 ?_
              try simp only [Act.put, z1, z2, z3]
              refine tt 7 ?_
              try simp only [Act.put, z1, z2, z3]
              refine tt 8 ?_
              try simp only [Act.put, z1, z2, z3]
              refine tt 9 ?_
              try simp only [Act.put, z1, z2, z3]
              refine wpAnyT_ready (rs := [10]) (by kernel_rfl) (by simp) ?_
              refine (AllReadyT.cons (by decide) (i := 10) (o := ?o75) ?h75 (fun K hK => ?k75) AllReadyT.nil)
              case h75 => (simp only [List.getElem?_toArray, List.getElem?_cons_succ, List.getElem?_cons_zero]; try rfl)
              case k75 =>
                go_simp
                try go_wp2_with fail
                refine hK.out _ _ ?_ (fun hHeld => ?_)
                · exact SX.out _ (by first | exact ((Below.refl U.heap.size U).drew).alloc (Nat.le_refl _) _ | exact ((Below.refl U.heap.size U).alloc (Nat.le_refl _) _).drew)
                clear hK K
                try simp only [Act.put, z1, z2, z3]
                refine wpAnyT_ready (rs := [11]) (by kernel_rfl) (by simp) ?_
                refine (AllReadyT.cons (by decide) (i := 11) (o := ?o76) ?h76 (fun K hK => ?k76) AllReadyT.nil)
                case h76 => (simp only [List.getElem?_toArray, List.getElem?_cons_succ, List.getElem?_cons_zero]; try rfl)
                case k76 =>
                  (refine step_append_any _ rfl (.tmp 76) (.tmp 81) 34 rfl B 46 i46 _ 2 16 Tryd.underlying34 hi hz0 hz1 hz2 rfl (by decide) (.slice Au o.uses.length cu) o.uses.length (o.uses.flatMap Us.cells) rfl (HOWN.out _ (by first | exact ((Below.refl U.heap.size U).drew).alloc (Nat.le_refl _) _ | exact ((Below.refl U.heap.size U).alloc (Nat.le_refl _) _).drew)) _ _ 1 1 [.int .i64 a, .int .i64 (n : Int)] rfl (by first | exact reads_blkn (Blk.new _ _ _) | exact reads_blkn ((Blk.new _ _ _).drew)) (by simp [Value.oneCell']) (by unfold maxLen; have := HNUM.out; omega) (by have := HNUM.out; omega) (Nat.le_trans HBU.out (Below.size (by first | exact ((Below.refl U.heap.size U).drew).alloc (Nat.le_refl _) _ | exact ((Below.refl U.heap.size U).alloc (Nat.le_refl _) _).drew))) ?_; intro v2 w2 o2 g2 at2; obtain ⟨A2, c2, rfl⟩ := own_is_slice o2; have hsg := SG.out _ _ (by first | exact ((Below.refl U.heap.size U).drew).alloc (Nat.le_refl _) _ | exact ((Below.refl U.heap.size U).alloc (Nat.le_refl _) _).drew) g2; have GW := Lib.hid (pair_gw (U := U) (by first | exact ((Below.refl U.heap.size U).drew).alloc (Nat.le_refl _) _ | exact ((Below.refl U.heap.size U).alloc (Nat.le_refl _) _).drew) g2); obtain ⟨hs1, hs2⟩ := hsg; have cpf := hs2.frozen 2; have cpc := hs2.cell 2; simp only [List.getElem?_toArray, List.getElem?_cons_succ, List.getElem?_cons_zero] at cpc)
                  refine hK.out _ _ ?_ (fun hHeld => ?_)
                  · exact hs1
                  clear hK K
                  try simp only [Act.put, z1, z2, z3]
                  refine wpAnyT_done (by kernel_rfl) ?_
                  refine tk 12 ?_
                  try simp only [Act.put, z1, z2, z3]
                  refine tk 13 ?_
                  try simp only [Act.put, z1, z2, z3]
                  refine tk 14 ?_
                  try simp only [Act.put, z1, z2, z3]
                  refine wpAnyH_ready (rs := [15]) (by kernel_rfl) (by simp) ?_
                  refine (AllReadyH.cons (i := 15) (o := ?o80) ?h80 (fun K hK => ?k80) AllReadyH.nil)
                  case h80 => (simp only [List.getElem?_toArray, List.getElem?_cons_succ, List.getElem?_cons_zero]; try rfl)
                  case k80 =>
                    go_simp
                    try go_wp2_with fail
                    refine hK.out _ _ ?_ (fun hHeld => ?_)
                    · trivial
                    clear hK K
                    try simp only [Act.put, z1, z2, z3]
                    refine wpAnyH_done (by kernel_rfl) ?_ _
                    go_wp2
                    go_end0
                    have f4 := (HFU.out.tr (Fr.of_below GW.out.1)).grown GW.out.2 (fun y e => .inl (.inr (.inr (.inr (.inl (by rw [HUV.out]; exact e))))))
                    have f5 := f4.set (p := p) (i := 2) (.inl (.inl rfl)) (.slice A2 (o.uses.length + 1) c2)
                    have i2 := ((HI0.out.fr GW.out.1).grow_us (x := ⟨a, (n : Int)⟩) (own_snoc o2) (by rw [HUV.out]; exact GW.out.2)).recd hs2 2 (.slice A2 (o.uses.length + 1) c2)
                    refine WP.ok HR.out ⟨⟨_, rfl⟩, { R with uv := .slice A2 (o.uses.length + 1) c2 }, ⟨HW.out.hp, hs2.set_ 2 _, i2, fun b hb => by simpa using HW.out.ent b hb⟩, f5, Gr.uv_ (by rw [HUV.out]; exact at2) (Fr.size (HFU.out.tr (Fr.of_below GW.out.1)))⟩
end Go.Proofs.YtlenhcmgcgccmaaDoor
