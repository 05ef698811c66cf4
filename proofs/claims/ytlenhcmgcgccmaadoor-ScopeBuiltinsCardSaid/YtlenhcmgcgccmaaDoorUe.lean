/- Scope: declare. -/
import Derived.Test.YtlenhcmgcgccmaaDoorUd
namespace Go.Proofs.YtlenhcmgcgccmaaDoor
open Go.RowKit Go
set_option linter.unusedVariables false
set_option linter.unusedSimpArgs false
theorem info44 : (Tryd.prog.info? 44).map (fun i => (i.zero, i.size, i.bytes)) = some (some (.agg #[.string ⟨#[]⟩, .int .i64 0, .int .i64 0, .int .i64 0, .int .i64 0, .bool false]), 6, 56) := by kernel_rfl
theorem info41 : (Tryd.prog.info? 41).map (fun i => (i.zero, i.size, i.bytes)) = some (some (.agg #[.int .i64 0, .int .i64 0, .int .i64 0, .int .i64 0]), 4, 32) := by kernel_rfl
theorem info99 : (Tryd.prog.info? 99).map (fun i => (i.zero, i.size, i.bytes)) = some (some (.agg #[.string ⟨#[]⟩, .bool false]), 2, 24) := by kernel_rfl
theorem pair_gw {U wa w2 : World} {row : Option Nat} (bw : Below U.heap.size U wa) (g2 : wa.grownBy w2 row) : Below U.heap.size U wa ∧ wa.grownBy w2 row := ⟨bw, g2⟩
theorem reads_blkn {w : World} {b : Nat} {t : TypeId} {cs : Array Value} (h : Blk w b t cs) : Reads w w.heap.size cs.size (some ⟨b, 0, none⟩) 1 cs.toList := by
  refine ⟨by simp, fun _ => ⟨_, rfl, h.lt, fun j u hj => ?_⟩⟩
  have e : (⟨b, 0, none⟩ : Addr).add j = ⟨b, j, none⟩ := by unfold Addr.add; split <;> simp_all
  rw [e, h.cell j]
  simpa using hj
theorem own_snoc {α : Type} {f : α → List Value} {w : World} {base s : Nat} {e : TypeId} {v : Value} {l : List α} {x : α} (h : w.ownsRow base e s v (l.length + 1) (l.flatMap f ++ f x)) : w.ownsRow base e s v (l ++ [x]).length ((l ++ [x]).flatMap f) := by
  rw [List.length_append, List.length_singleton, List.flatMap_append]
  simpa using h
section
variable {n k p : Nat} {R : Rw} {v : Value}
theorem Gr.sv_ (h : v.ownBlock = R.sv.ownBlock ∨ v.ownBlock = some k) (hk : n ≤ k) : Gr n p R { R with sv := v } := fun b hb => by
  rcases hb with hb | hb | hb | hb | hb | hb
  · exact .inl (.inl hb)
  · rcases h with h | h
    · exact .inl (.inr (.inl (by rw [← h]; exact hb)))
    · exact .inr (by have e : some k = some b := h.symm.trans hb; cases e; exact hk)
  · exact .inl (.inr (.inr (.inl hb)))
  · exact .inl (.inr (.inr (.inr (.inl hb))))
  · exact .inl (.inr (.inr (.inr (.inr (.inl hb)))))
  · exact .inl (.inr (.inr (.inr (.inr (.inr hb)))))
theorem Gr.vv_ (h : v.ownBlock = R.vv.ownBlock ∨ v.ownBlock = some k) (hk : n ≤ k) : Gr n p R { R with vv := v } := fun b hb => by
  rcases hb with hb | hb | hb | hb | hb | hb
  · exact .inl (.inl hb)
  · exact .inl (.inr (.inl hb))
  · rcases h with h | h
    · exact .inl (.inr (.inr (.inl (by rw [← h]; exact hb))))
    · exact .inr (by have e : some k = some b := h.symm.trans hb; cases e; exact hk)
  · exact .inl (.inr (.inr (.inr (.inl hb))))
  · exact .inl (.inr (.inr (.inr (.inr (.inl hb)))))
  · exact .inl (.inr (.inr (.inr (.inr (.inr hb)))))
theorem Gr.uv_ (h : v.ownBlock = R.uv.ownBlock ∨ v.ownBlock = some k) (hk : n ≤ k) : Gr n p R { R with uv := v } := fun b hb => by
  rcases hb with hb | hb | hb | hb | hb | hb
  · exact .inl (.inl hb)
  · exact .inl (.inr (.inl hb))
  · exact .inl (.inr (.inr (.inl hb)))
  · rcases h with h | h
    · exact .inl (.inr (.inr (.inr (.inl (by rw [← h]; exact hb)))))
    · exact .inr (by have e : some k = some b := h.symm.trans hb; cases e; exact hk)
  · exact .inl (.inr (.inr (.inr (.inr (.inl hb)))))
  · exact .inl (.inr (.inr (.inr (.inr (.inr hb)))))
theorem Gr.bv_ (h : v.ownBlock = R.bv.ownBlock ∨ v.ownBlock = some k) (hk : n ≤ k) : Gr n p R { R with bv := v } := fun b hb => by
  rcases hb with hb | hb | hb | hb | hb | hb
  · exact .inl (.inl hb)
  · exact .inl (.inr (.inl hb))
  · exact .inl (.inr (.inr (.inl hb)))
  · exact .inl (.inr (.inr (.inr (.inl hb))))
  · rcases h with h | h
    · exact .inl (.inr (.inr (.inr (.inr (.inl (by rw [← h]; exact hb))))))
    · exact .inr (by have e : some k = some b := h.symm.trans hb; cases e; exact hk)
  · exact .inl (.inr (.inr (.inr (.inr (.inr hb)))))
theorem Gr.lv_ (h : v.ownBlock = R.lv.ownBlock ∨ v.ownBlock = some k) (hk : n ≤ k) : Gr n p R { R with lv := v } := fun b hb => by
  rcases hb with hb | hb | hb | hb | hb | hb
  · exact .inl (.inl hb)
  · exact .inl (.inr (.inl hb))
  · exact .inl (.inr (.inr (.inl hb)))
  · exact .inl (.inr (.inr (.inr (.inl hb))))
  · exact .inl (.inr (.inr (.inr (.inr (.inl hb)))))
  · rcases h with h | h
    · exact .inl (.inr (.inr (.inr (.inr (.inr (by rw [← h]; exact hb))))))
    · exact .inr (by have e : some k = some b := h.symm.trans hb; cases e; exact hk)
end
def Env.at (E : Env) (bs : List Bk) : Env := { E with blocks := bs }
theorem env_eta {E : Env} {bs : List Bk} (h : E.blocks = bs) : E.at bs = E := by cases E; subst h; rfl
theorem BkOk.snoc {n : Nat} {b : Bk} {nm : ByteArray} (h : BkOk n b) (hl : look b nm = none) : BkOk (n + 1) (b ++ [(nm, (n : Int))]) := by
  refine ⟨?_, fun e he => ?_⟩
  · rw [List.map_append, List.nodup_append]
    refine ⟨h.1, by simp, fun x hx y hy e => ?_⟩
    obtain ⟨z, hz, rfl⟩ := List.mem_map.1 hx
    simp at hy
    subst hy
    have := look_some h.1 hz e
    rw [hl] at this; cases this
  · rcases List.mem_append.1 he with he | he
    · exact (h.mono (Nat.le_succ n)).2 e he
    · rw [List.mem_singleton.1 he]; simp only; omega
/-- what a call that declares says behind it. -/
def DP (w : World) (p B : Nat) (ms : List Nat) (m : Nat) (E : Env) (bs : List Bk) (R : Rw) (r : Except Er (Bk × Out)) (e : Ending) (w' : World) : Prop :=
  (∀ x, r = .ok x → (∃ v, e = .returned v) ∧ ∃ R', WAt w' p B (ms ++ [m]) (E.at (bs ++ [x.1])) x.2 R' ∧ Fr (fun y => Ft p R y ∨ y = m) w w' ∧ Gr w.heap.size p R R') ∧
  (∀ c, r = .error c → e = bad c ∧ Below B w w')
theorem DP.ok {w : World} {p B : Nat} {ms : List Nat} {m : Nat} {E : Env} {bs : List Bk} {R : Rw} {r : Except Er (Bk × Out)} {e : Ending} {w' : World} {x : Bk × Out} (hr : r = .ok x) (h : (∃ v, e = .returned v) ∧ ∃ R', WAt w' p B (ms ++ [m]) (E.at (bs ++ [x.1])) x.2 R' ∧ Fr (fun y => Ft p R y ∨ y = m) w w' ∧ Gr w.heap.size p R R') : DP w p B ms m E bs R r e w' :=
  ⟨fun y hy => by rw [hr] at hy; injection hy with hy; subst hy; exact h, fun c hc => by rw [hr] at hc; cases hc⟩
theorem DP.err {w : World} {p B : Nat} {ms : List Nat} {m : Nat} {E : Env} {bs : List Bk} {R : Rw} {r : Except Er (Bk × Out)} {e : Ending} {w' : World} {c : Er} (hr : r = .error c) (h : e = bad c ∧ Below B w w') : DP w p B ms m E bs R r e w' :=
  ⟨fun y hy => (by rw [hr] at hy; cases hy), fun c' hc => by rw [hr] at hc; injection hc with hc; subst hc; exact h⟩
set_option maxRecDepth 100000 in
set_option maxHeartbeats 8000000 in
theorem declare_calls {w : World} {p B m : Nat} {ms : List Nat} {E : Env} {bs : List Bk} {b : Bk} {o : Out} {R : Rw} (hE : E.blocks = bs ++ [b]) (h : WAt w p B (ms ++ [m]) E o R) (hlen : bs.length ≤ 2000000) (hvl : o.vars.length ≤ 2000000) (nm : ByteArray) (hs : nm.size ≤ maxLen) (a kind : Int) :
    Calls Tryd.prog 27 #[.pointer (some ⟨p, 0, none⟩), .string nm, .int .i64 a, .int .i64 kind] w (DP w p B ms m E bs R (declareP E.fn nm a kind b o)) := by
  have hml : ms.length = bs.length := by have := h.inn.mlen; rw [hE] at this; simpa using this
  obtain ⟨g, c, hbv, hg0, hg1, hc1, hc2⟩ := own_some h.inn.bl (by rw [hE]; simp)
  have hbn : E.blocks.length = bs.length + 1 := by rw [hE]; simp
  obtain ⟨L, hL⟩ : ∃ L, bs.length + 1 = L := ⟨_, rfl⟩
  rw [hbn, hL] at hbv hc1
  obtain ⟨hm1, hm2⟩ := h.inn.maps ms.length m b (by simp) (by rw [hE]; simp [hml])
  have hbok := h.ent b (by rw [hE]; simp)
  have cb : w.cell? ⟨g, bs.length, none⟩ = some (.map (some m)) := by
    have h1 := h.inn.bl
    rw [hbv, hbn, hL] at h1
    exact (own_cell h1 (by rw [← hml]; simp [mapV])).1
  obtain ⟨gs, cs, hsv, hs0, hs1, hs2, hs3⟩ := own_some h.inn.sc (Nat.lt_of_le_of_lt (Nat.zero_le _) h.inn.fnlt)
  have hat : o.scopes[E.fn]? = some (o.scp E.fn) := by unfold Out.scp; rw [List.getD_eq_getElem?_getD, List.getElem?_eq_getElem h.inn.fnlt]; rfl
  have hsc := h.inn.sc
  rw [hsv] at hsc
  obtain ⟨cv, fv⟩ := own_cell hsc (k := E.fn * 4 + 3) (u := .int .i64 (o.scp E.fn).vars) (by rw [flat_get (f := Sc.cells) (s := 4) (fun _ => rfl) o.scopes E.fn 3 _ hat (by omega)]; rfl)
  have hscv := h.inn.scv _ (List.mem_of_getElem? hat)
  obtain ⟨Av, cv', hvv⟩ := own_is_slice h.inn.vr
  have hblk := h.blk
  rw [hbv, hsv, hvv] at hblk
  have r0 := hblk.cell 0
  have r1 := hblk.cell 1
  have r3 := hblk.cell 3
  have r4 := hblk.cell 4
  simp only [List.getElem?_toArray, List.getElem?_cons_succ, List.getElem?_cons_zero] at r0 r1 r3 r4
  have hw1 : IntKind.i64.wrap ((L : Int) - 1) = (bs.length : Int) := by rw [IntKind.wrap_i64]; omega
  have hk1 : (0 : Int) ≤ (bs.length : Int) ∧ (bs.length : Int) < (L : Int) := by omega
  have hk2 : (0 : Int) ≤ (E.fn : Int) ∧ (E.fn : Int) < (o.scopes.length : Int) := by have := h.inn.fnlt; omega
  have hl0 := look_blk hm1 hbok.1 nm hs
  have hl : ∀ n, (Instr.lookup 78 (.map (some m)) (.string nm) true).run Tryd.prog (w.drewN n) = .ok (.tuple #[.int .i64 ((look b nm).getD 0), .bool (look b nm).isSome]) (w.drewN n) := fun n => look_blk (W := w.drewN n) (hm1.same rfl) hbok.1 nm hs
  have HW := Lib.hid h
  have HE := Lib.hid hE
  have HM := Lib.hid hm1
  have HB := Lib.hid hbok
  have HVV := Lib.hid hvv
  have HSV := Lib.hid hsv
  have HBV := Lib.hid hbv
  have FC := Lib.hid fail_calls
  have HSC := Lib.hid hscv
  have HVL := Lib.hid hvl
  have HBL := Lib.hid hblk
  have HS := Lib.hid hs
  have HAT := Lib.hid hat
  have HFL := Lib.hid h.inn.fnlt
  clear h hE hm1 hbok hvv hsv hbv hscv hsc hat hl0 hs hblk hbn hml hvl
  have HL := Lib.hid hL
  clear hL
  cases hlk : (look b nm).isSome
  · have hlk' : ¬ (look b nm).isSome = true := by rw [hlk]; simp
    rw [hlk] at hl
    by_cases hmany : 200 ≤ (o.scp E.fn).vars
    · have HR := Lib.hid (show declareP E.fn nm a kind b o = .error (a, 72) from by unfold declareP; rw [if_neg hlk', if_pos hmany])
      generalize (look b nm).getD 0 = x at *
      clear hlk hlk' hlen
      go_enter Tryd.func27, Tryd.ntmps27
      go_wp2
      go_quiet (fail)
      go_wp2
      go_quiet (fail)
      go_wp2_with (go_at_call 39; (with_reducible refine (FC.out _ _ _).mono ?_); rintro e w1 ⟨rfl, rfl⟩; unfold bad)
      exact ⟨rfl, DP.err HR.out ⟨rfl, ⟨rfl, rfl, rfl, Nat.le_refl _, fun _ _ => rfl⟩⟩⟩
    · have hmany' : ¬ (200 : Int) ≤ (o.scp E.fn).vars := hmany
      have hwv : IntKind.i64.wrap ((o.scp E.fn).vars + 1) = (o.scp E.fn).vars + 1 := by have := HSC.out; rw [IntKind.wrap_i64]; omega
      have HR := Lib.hid (show declareP E.fn nm a kind b o = .ok (b ++ [(nm, (o.vars.length : Int))], incV E.fn { o with vars := o.vars ++ [⟨nm, a, kind, E.fn, (o.scp E.fn).vars, false⟩] }) from by unfold declareP; rw [if_neg hlk', if_neg hmany])
      have HNO := Lib.hid (show look b nm = none from by
        rcases h : look b nm with _ | v
        · rfl
        · rw [h] at hlk'; exact absurd rfl hlk')
      have HMany := Lib.hid hmany
      generalize (look b nm).getD 0 = x at *
      clear hlk hlk' hlen
      go_enter Tryd.func27, Tryd.ntmps27
      go_wp2
      go_quiet (fail)
      go_wp2
      go_quiet (fail)
      generalize hV : (w.drewN _).drewN _ = V
      have hWV : Below w.heap.size w V := by rw [← hV]; exact ⟨rfl, rfl, rfl, Nat.le_refl _, fun _ _ => rfl⟩
      obtain ⟨l9, hl9⟩ := keyOf_str Tryd.underlying9 nm HS.out
      have hMV : MapIs V 9 m (bents b) := HM.out.same (hWV.block m HM.out.lt)
      obtain ⟨w3, hrun, hm3, hg3⟩ := hMV.push key9 Tryd.underlying78 (val := .int .i64 (o.vars.length : Int)) hl9 (fun y hy e => by
        obtain ⟨z, hz, rfl⟩ := List.mem_map.1 hy
        simp only [Value.string.injEq] at e
        have := look_some HB.out.1 hz e
        rw [HNO.out] at this; cases this)
      have hAV := HW.out.fr hWV
      have r0 := HBL.out.below hWV HBL.out.lt |>.cell 0
      have r1 := HBL.out.below hWV HBL.out.lt |>.cell 1
      simp only [List.getElem?_toArray, List.getElem?_cons_succ, List.getElem?_cons_zero] at r0 r1
      have cV := (hWV.cell (p := ⟨gs, E.fn * 4 + 3, none⟩) hs1).trans cv
      have hwlt : w.heap.size ≤ V.heap.size := hWV.size
      have hpm : p ≠ m := fun e => by subst e; exact HM.out.no_cells HBL.out
      have hgm : gs ≠ m := own_ne_map HW.out.inn.sc HM.out (by rw [HSV.out]; rfl)
      have hbok' : BkOk o.vars.length b := HB.out
      -- behind the map's write
      have hb3 : MapIs w3 9 m (bents (b ++ [(nm, (o.vars.length : Int))])) := by rw [show bents (b ++ [(nm, (o.vars.length : Int))]) = bents b ++ [(.string nm, .int .i64 (o.vars.length : Int))] by simp [bents]]; exact hm3
      have hblk3 : Blk w3 p 64 _ := (HBL.out.below hWV HBL.out.lt).grown hg3 (fun e => hpm (Option.some.inj e))
      have hrow3 : w3.ownsRow B 44 6 (.slice Av o.vars.length cv') o.vars.length (o.vars.flatMap Vr.cells) := by
        have h1 := hAV.inn.vr
        rw [HVV.out] at h1
        exact own_same h1 fun y e => hg3.block y (own_lt h1 e).2 (fun e2 => own_ne_map h1 hMV e (Option.some.inj e2))
      have hI3 : WIn w3 B (ms ++ [m]) (E.at (bs ++ [b ++ [(nm, (o.vars.length : Int))]])) o R :=
        WIn.put (b := b) (bs := bs) (E := E) (by have h1 := hAV.inn; rw [← env_eta HE.out] at h1; exact h1) hg3 hb3
      have c3 : w3.cell? ⟨gs, E.fn * 4 + 3, none⟩ = some (.int .i64 (o.scp E.fn).vars) := hg3.cell cV (by simp; exact hgm)
      have HI3 := Lib.hid hI3
      have HB3 := Lib.hid hblk3
      have HG3 := Lib.hid hg3
      have HWV := Lib.hid hWV
      have HBU := Lib.hid hI3.sz
      have HNUM := HVL
      obtain ⟨i44, hi, hz0, hz1, hz2⟩ := info_parts info44
      have hgl : gs < w3.heap.size := Nat.lt_of_lt_of_le hs1 (Nat.le_trans hwlt hg3.size)
      have hpl : p < w3.heap.size := hblk3.lt
      have HOWN := Lib.hid (fun w' (bw : Below w3.heap.size w3 w') => own_below bw hrow3)
      have SX := Lib.hid (fun w' (bw : Below w3.heap.size w3 w') => show (fun w' => w'.cell? ⟨p, 1, none⟩ = some (.slice Av o.vars.length cv') ∧ w'.cell? ⟨p, 4, none⟩ = some (.int .i64 (E.fn : Int)) ∧ w'.cell? ⟨gs, E.fn * 4 + 3, none⟩ = some (.int .i64 (o.scp E.fn).vars)) w' from ⟨(hblk3.below bw hpl).cell 1, (hblk3.below bw hpl).cell 4, (bw.cell (p := ⟨gs, E.fn * 4 + 3, none⟩) hgl).trans c3⟩)
      have hgv : ∀ y, Value.ownBlock (.slice Av o.vars.length cv') = some y → y ≠ gs := fun y e => own_ne_own (HOWN.out _ (Below.refl _ _)) hI3.sc (by decide) e (by rw [HSV.out]; rfl)
      have hpg : gs ≠ p := own_ne_blk hI3.sc hblk3 (by decide) (by rw [HSV.out]; rfl)
      have hsc3 := hI3.sc
      rw [HSV.out] at hsc3
      have SG := Lib.hid (fun (wa w2 : World) (bw : Below w3.heap.size w3 wa) (g2 : wa.grownBy w2 (Value.ownBlock (.slice Av o.vars.length cv'))) => show (fun w' => w'.cell? ⟨p, 1, none⟩ = some (.slice Av o.vars.length cv') ∧ w'.cell? ⟨p, 4, none⟩ = some (.int .i64 (E.fn : Int)) ∧ w'.cell? ⟨gs, E.fn * 4 + 3, none⟩ = some (.int .i64 (o.scp E.fn).vars)) w2 ∧ Blk w2 p 64 #[.slice (some ⟨gs, 0, none⟩) o.scopes.length cs, .slice Av o.vars.length cv', R.uv, .slice (some ⟨g, 0, none⟩) L c, .int .i64 E.fn, R.lv, .int .i64 E.loops] from by
        have hb2 := (hblk3.below bw hpl).grown g2 (fun e => own_blk_ne (HOWN.out _ bw) (hblk3.below bw hpl) (by decide) e.symm)
        exact ⟨⟨hb2.cell 1, hb2.cell 4, g2.cell ((bw.cell (p := ⟨gs, E.fn * 4 + 3, none⟩) hgl).trans c3) (fun e => hgv gs e.symm rfl)⟩, hb2⟩)
      have FRZ := Lib.hid (fun (wa w2 : World) (bw : Below w3.heap.size w3 wa) (g2 : wa.grownBy w2 (Value.ownBlock (.slice Av o.vars.length cv'))) => show w2.frozen? ⟨gs, E.fn * 4 + 3, none⟩ = false from by
        have h1 := (hI3.fr bw).sc
        rw [HSV.out] at h1
        have h2 := own_same h1 (w' := w2) fun y e => g2.block y (own_lt h1 e).2 (fun e2 => hgv y e2.symm (by injection e with e; exact e.symm))
        exact (own_cell h2 (k := E.fn * 4 + 3) (u := .int .i64 (o.scp E.fn).vars) (by rw [flat_get (f := Sc.cells) (s := 4) (fun _ => rfl) o.scopes E.fn 3 _ HAT.out (by omega)]; rfl)).2)
      clear hI3 hblk3 hg3 hrow3 hb3 hm3 hAV hsc3 hMV hbok' hl hWV hgv
      generalize hU : w3 = U at *
      go_wp2
      have hTr : True := trivial
      refine wp_region_tail (S := (fun w' => w'.cell? ⟨p, 1, none⟩ = some (.slice Av o.vars.length cv') ∧ w'.cell? ⟨p, 4, none⟩ = some (.int .i64 (E.fn : Int)) ∧ w'.cell? ⟨gs, E.fn * 4 + 3, none⟩ = some (.int .i64 (o.scp E.fn).vars))) 20 4 rfl (by kernel_rfl) ?_ (fun hHeld => ?_)
      · exact SX.out _ (Below.refl _ _).drew
      refine tt 0 ?_
      try simp only [Act.put, z1, z2, z3]
      refine tt 1 ?_
      try simp only [Act.put, z1, z2, z3]
      refine tt 2 ?_
      try simp only [Act.put, z1, z2, z3]
      refine tt 3 ?_
      try simp only [Act.put, z1, z2, z3]
      refine tt 4 ?_
      try simp only [Act.put, z1, z2, z3]
      refine tt 5 ?_
      try simp only [Act.put, z1, z2, z3]
      refine tt 6 ?_
      try simp only [Act.put, z1, z2, z3]
      refine tt 7 ?_
      try simp only [Act.put, z1, z2, z3]
      refine tt 8 ?_
      try simp only [Act.put, z1, z2, z3]
      refine tt 9 ?_
      try simp only [Act.put, z1, z2, z3]
      refine tt 10 ?_
      try simp only [Act.put, z1, z2, z3]
      refine tt 11 ?_
      try simp only [Act.put, z1, z2, z3]
      refine tt 12 ?_
      try simp only [Act.put, z1, z2, z3]
      refine tt 13 ?_
      try simp only [Act.put, z1, z2, z3]
      refine tt 14 ?_
      try simp only [Act.put, z1, z2, z3]
      refine tt 15 ?_
      try simp only [Act.put, z1, z2, z3]
      refine tt 16 ?_
      try simp only [Act.put, z1, z2, z3]
      refine tt 17 ?_
      try simp only [Act.put, z1, z2, z3]
      refine wpAnyT_ready (rs := [18]) (by kernel_rfl) (by simp) ?_
      refine (AllReadyT.cons (by decide) (i := 18) (o := ?o19) ?h19 (fun K hK => ?k19) AllReadyT.nil)
      case h19 => (simp only [List.getElem?_toArray, List.getElem?_cons_succ, List.getElem?_cons_zero]; try rfl)
      case k19 =>
        go_simp
        try go_wp2_with fail
        refine hK.out _ _ ?_ (fun hHeld => ?_)
        · exact SX.out _ (by first | exact ((Below.refl U.heap.size U).drew).alloc (Nat.le_refl _) _ | exact ((Below.refl U.heap.size U).alloc (Nat.le_refl _) _).drew)
        clear hK K
        try simp only [Act.put, z1, z2, z3]
        refine wpAnyT_ready (rs := [19]) (by kernel_rfl) (by simp) ?_
        refine (AllReadyT.cons (by decide) (i := 19) (o := ?o20) ?h20 (fun K hK => ?k20) AllReadyT.nil)
        case h20 => (simp only [List.getElem?_toArray, List.getElem?_cons_succ, List.getElem?_cons_zero]; try rfl)
        case k20 =>
          (refine step_append_any _ rfl (.tmp 65) (.tmp 78) 33 rfl B 44 i44 _ 6 56 Tryd.underlying33 hi hz0 hz1 hz2 rfl (by decide) (.slice Av o.vars.length cv') o.vars.length (o.vars.flatMap Vr.cells) rfl (HOWN.out _ (by first | exact ((Below.refl U.heap.size U).drew).alloc (Nat.le_refl _) _ | exact ((Below.refl U.heap.size U).alloc (Nat.le_refl _) _).drew)) _ _ 1 1 [.string nm, .int .i64 a, .int .i64 kind, .int .i64 (E.fn : Int), .int .i64 (o.scp E.fn).vars, .bool false] rfl (by first | exact reads_blkn (Blk.new _ _ _) | exact reads_blkn ((Blk.new _ _ _).drew)) (by simp [Value.oneCell']) (by unfold maxLen; have := HNUM.out; omega) (by have := HNUM.out; omega) (Nat.le_trans HBU.out (Below.size (by first | exact ((Below.refl U.heap.size U).drew).alloc (Nat.le_refl _) _ | exact ((Below.refl U.heap.size U).alloc (Nat.le_refl _) _).drew))) ?_; intro v2 w2 o2 g2 at2; obtain ⟨A2, c2, rfl⟩ := own_is_slice o2; have hsg := SG.out _ _ (by first | exact ((Below.refl U.heap.size U).drew).alloc (Nat.le_refl _) _ | exact ((Below.refl U.heap.size U).alloc (Nat.le_refl _) _).drew) g2; have GW := Lib.hid (pair_gw (U := U) (by first | exact ((Below.refl U.heap.size U).drew).alloc (Nat.le_refl _) _ | exact ((Below.refl U.heap.size U).alloc (Nat.le_refl _) _).drew) g2); obtain ⟨hs1, hs2⟩ := hsg; have cpf := hs2.frozen 1; have cpc := hs2.cell 1; simp only [List.getElem?_toArray, List.getElem?_cons_succ, List.getElem?_cons_zero] at cpc)
          refine hK.out _ _ ?_ (fun hHeld => ?_)
          · exact hs1
          clear hK K
          try simp only [Act.put, z1, z2, z3]
          refine wpAnyT_done (by kernel_rfl) ?_
          refine tk 20 ?_
          try simp only [Act.put, z1, z2, z3]
          refine tk 21 ?_
          try simp only [Act.put, z1, z2, z3]
          refine tk 22 ?_
          try simp only [Act.put, z1, z2, z3]
          refine wpAnyH_ready (rs := [23]) (by kernel_rfl) (by simp) ?_
          refine (AllReadyH.cons (i := 23) (o := ?o24) ?h24 (fun K hK => ?k24) AllReadyH.nil)
          case h24 => (simp only [List.getElem?_toArray, List.getElem?_cons_succ, List.getElem?_cons_zero]; try rfl)
          case k24 =>
            go_simp
            try go_wp2_with fail
            refine hK.out _ _ ?_ (fun hHeld => ?_)
            · trivial
            clear hK K
            try simp only [Act.put, z1, z2, z3]
            refine wpAnyH_done (by kernel_rfl) ?_ _
            have fz9 := FRZ.out _ _ GW.out.1 GW.out.2
            have c9 := hs1.2.2
            go_wp2
            go_end0
            have f1 : Fr (fun y => Ft p R y ∨ y = m) w V := Fr.of_below HWV.out
            have f2 := f1.grown HG3.out (fun y e => .inl (.inr (Option.some.inj e).symm))
            have f3 := f2.tr (Fr.of_below GW.out.1)
            have f4 := f3.grown GW.out.2 (fun y e => .inl (.inl (.inr (.inr (.inl (by rw [HVV.out]; exact e))))))
            have f5 := (f4.set (p := p) (i := 1) (.inl (.inl (.inl rfl))) (.slice A2 (o.vars.length + 1) c2)).set (p := gs) (i := E.fn * 4 + 3) (.inl (.inl (.inr (.inl (by rw [HSV.out]; rfl))))) (.int .i64 ((o.scp E.fn).vars + 1))
            have i2 := (((HI3.out.fr GW.out.1).grow_vr (x := ⟨nm, a, kind, E.fn, (o.scp E.fn).vars, false⟩) (own_snoc o2) (by rw [HVV.out]; exact GW.out.2)).recd hs2 1 (.slice A2 (o.vars.length + 1) c2)).inc (g := gs) (n := o.scopes.length) (c := cs) HSV.out HFL.out (by have := HMany.out; show (o.scp E.fn).vars ≤ 200; omega)
            refine DP.ok HR.out ⟨⟨_, rfl⟩, { R with vv := .slice A2 (o.vars.length + 1) c2 }, ⟨HW.out.hp, ?_, i2, fun b0 hb0 => ?_⟩, f5, Gr.vv_ (by rw [HVV.out]; exact at2) f3.size⟩
            · rw [HSV.out, HBV.out]; exact (hs2.set_ 1 _).far (fun e => hpg e.symm) _
            · rw [show (incV E.fn { o with vars := o.vars ++ [⟨nm, a, kind, E.fn, (o.scp E.fn).vars, false⟩] }).vars.length = o.vars.length + 1 by simp [incV]]
              rcases List.mem_append.1 hb0 with hb0 | hb0
              · exact (HW.out.ent b0 (by rw [HE.out]; exact List.mem_append_left _ hb0)).mono (Nat.le_succ _)
              · rw [List.mem_singleton.1 hb0]; exact HB.out.snoc HNO.out
  · rw [hlk] at hl
    have HR := Lib.hid (show declareP E.fn nm a kind b o = .error (a, 71) from by unfold declareP; rw [if_pos hlk])
    generalize (look b nm).getD 0 = x at *
    clear hlk hlen
    go_enter Tryd.func27, Tryd.ntmps27
    go_wp2
    go_quiet (fail)
    go_wp2
    go_quiet (fail)
    go_wp2_with (go_at_call 39; (with_reducible refine (FC.out _ _ _).mono ?_); rintro e w1 ⟨rfl, rfl⟩; unfold bad)
    exact ⟨rfl, DP.err HR.out ⟨rfl, ⟨rfl, rfl, rfl, Nat.le_refl _, fun _ _ => rfl⟩⟩⟩
end Go.Proofs.YtlenhcmgcgccmaaDoor
