/- Scope: statements (a block). -/
import Derived.Test.YtlenhcmgcgccmaaDoorUh
namespace Go.Proofs.YtlenhcmgcgccmaaDoor
open Go.RowKit Go
set_option linter.unusedVariables false
set_option linter.unusedSimpArgs false
theorem declareP_len {fn : Nat} {nm : ByteArray} {a k : Int} {b : Bk} {o : Out} {y : Bk × Out} (h : declareP fn nm a k b o = .ok y) : y.2.len ≤ o.len + 1 := by
  unfold declareP at h
  split at h
  · cases h
  · split at h
    · cases h
    · injection h with h
      subst h
      unfold Out.len incV
      simp; omega
theorem seqD_ok {f g : DM} {b : Bk} {o : Out} {x : Bk × Out} (h : f b o = .ok x) : seqD f g b o = g x.1 x.2 := by unfold seqD; rw [h]
theorem seqD_err {f g : DM} {b : Bk} {o : Out} {c : Er} (h : f b o = .error c) : seqD f g b o = .error c := by unfold seqD; rw [h]
theorem declsP_len {fn : Nat} : ∀ (l : List Tr) (b : Bk) (o : Out) (x : Bk × Out), declsP fn l b o = .ok x → x.2.len ≤ o.len + l.length
  | [], b, o, x, h => by injection h with h; subst h; simp
  | t :: l, b, o, x, h => by
    rw [declsP] at h
    unfold seqD at h
    cases h1 : (if t.kind = 31 ∨ t.kind = 32 ∨ t.kind = 33 then declareP fn t.name t.at_ (kindD t.kind) else noD) b o with
    | error c => rw [h1] at h; cases h
    | ok y =>
      rw [h1] at h
      have h2 := declsP_len l y.1 y.2 x h
      have h3 : y.2.len ≤ o.len + 1 := by
        split at h1
        · exact declareP_len h1
        · injection h1 with h1; subst h1; simp
      simp only [List.length_cons]; omega
set_option maxRecDepth 100000 in
set_option maxHeartbeats 8000000 in
theorem body_nil {F : WF} {n : Nat} (G : GoodW F n) (L : LenW F) (w : World) (p B : Nat) (ms : List Nat) (E : Env) (o : Out) (R : Rw) (l : List Tr) (A : Option Addr) (cap : Nat) (ah : DM) (na : Nat) (h : WAt w p B ms E o R) (hk : KidsAt w B (.slice A l.length cap) l) (hd : ∀ k ∈ l, k.fitsD n = true) (hok : ∀ k ∈ l, OkS k) (hwf : ∀ k ∈ l, k.wf1) (hbd : bnd E o + na + 2 + 9 * Tr.sizes l ≤ 2000000) (hna : ∀ x, ah [] o = .ok x → x.2.len ≤ o.len + na)
    (hah : ah = noD) :
    Calls Tryd.prog 22 #[.pointer (some ⟨p, 0, none⟩), .slice A l.length cap, .nilFunc] w (WP w p B ms E R (bodyW F E ah l o)) := by
  obtain ⟨i78, hi, hz0, hz1, hz2⟩ := info_parts info78
  have hcm : cap ≤ maxLen ∧ l.length ≤ cap := by
    obtain ⟨A', c', e, h1, h2, _⟩ := hk.slice
    injection e with _ _ e; subst e; exact ⟨h2, h1⟩
  have HA := Lib.hid (show 0 < l.length → ∃ b off, A = some ⟨b, off, none⟩ ∧ b < B from by
    obtain ⟨A', c', e, _, _, h⟩ := hk.slice
    injection e with e; subst e; exact h)
  have hcap : (l.length : Int) ≤ 9223372036854775807 := by have := hcm.1; have := hcm.2; simp [maxLen] at *; omega
  obtain ⟨Ab, cb, hbv⟩ := own_is_slice h.inn.bl
  have hblk := h.blk
  rw [hbv] at hblk
  have hrow := h.inn.bl
  rw [hbv] at hrow
  have c3 := hblk.cell 3
  simp only [List.getElem?_toArray, List.getElem?_cons_succ, List.getElem?_cons_zero] at c3
  have hpl := hblk.lt
  have n1 : w.heap.size ≠ p := by omega
  have n2 : w.heap.size + 1 ≠ p := by omega
  have hlb : E.blocks.length ≤ 2000000 := by unfold bnd at hbd; omega
  have HBK := Lib.hid hblk
  have HBV := Lib.hid hbv
  have HW := Lib.hid h
  have HG := Lib.hid G
  have HLen := Lib.hid L
  have HK := Lib.hid hk
  have HD := Lib.hid hd
  have HOK := Lib.hid hok
  have HWF := Lib.hid hwf
  have HB0 := Lib.hid hbd
  have HNA := Lib.hid hna
  have HLL := Lib.hid (rfl : l.length = l.length)
  have HLB := Lib.hid hlb
  have CLH := Lib.hid hah
  clear hah
  have HROW := Lib.hid (own_below (below_alloc (o := .cells #[.map (some w.heap.size)] 78) (below_alloc (o := .map #[] 0) (Below.refl w.heap.size w))) hrow)
  have BL := Lib.hid (show Blk ((w.alloc (.map #[] 0)).alloc (.cells #[.map (some w.heap.size)] 78)) (w.heap.size + 1) 78 #[.map (some w.heap.size)] from by
    have := Blk.new (w.alloc (.map #[] 0)) 78 #[.map (some w.heap.size)]; rwa [size_alloc] at this)
  have HB2 := Lib.hid (fun (w2 : World) (g2 : ((w.alloc (.map #[] 0)).alloc (.cells #[.map (some w.heap.size)] 78)).grownBy w2 (Value.ownBlock (.slice Ab E.blocks.length cb))) => show Blk w2 p 64 #[R.sv, R.vv, R.uv, .slice Ab E.blocks.length cb, .int .i64 E.fn, R.lv, .int .i64 E.loops] from
    (hblk.below (below_alloc (below_alloc (Below.refl _ _))) hblk.lt).grown g2 (fun e => own_blk_ne HROW.out (hblk.below (below_alloc (below_alloc (Below.refl _ _))) hblk.lt) (by decide) e.symm))
  clear G L h hk hd hok hwf hbd hna hblk hbv hrow hcm
  go_enter Tryd.func22, Tryd.ntmps22
  have hmm := @run_makeMap Tryd.prog
  have hnf : ∀ w : World, (binOp BinOp.neq 1 (.nilFunc) .nilFunc).run Tryd.prog w = .ok (.bool false) w := fun _ => rfl
  have HBAS := Lib.hid (show B ≤ ((w.alloc (.map #[] 0)).alloc (.cells #[.map (some w.heap.size)] 78)).heap.size from by simp only [size_alloc]; have := HW.out.inn.sz; omega)
  have H63 := Lib.hid (show E.blocks.length + 1 ≤ maxLen ∧ (E.blocks.length + 1) * 8 ≤ 140737488355328 from ⟨by unfold maxLen; omega, by omega⟩)
  go_wp2_with (at_builtin; refine wpList_append_any _ rfl (.tmp 14) (.tmp 16) 61 rfl B 78 i78 _ 1 8 Tryd.underlying61 hi hz0 hz1 hz2 rfl (by decide) (.slice Ab E.blocks.length cb) E.blocks.length (ms.map mapV) rfl HROW.out _ _ 1 1 [.map (some w.heap.size)] rfl (reads_one BL.out) (by simp [Value.oneCell']) H63.out.1 H63.out.2 HBAS.out ?_; intro v2 w2 o2 g2 at2; obtain ⟨g, c, rfl, hg1, hg2, hcap1, hcap2⟩ := own_some o2 (Nat.succ_pos _); have hblk2 := HB2.out w2 g2; have p3 := hblk2.cell 3; have q3 := hblk2.frozen 3; have O2 := Lib.hid o2; have G2 := Lib.hid g2; have AT2 := Lib.hid at2; have HBK2 := Lib.hid hblk2; simp only [List.getElem?_toArray, List.getElem?_cons_succ, List.getElem?_cons_zero] at p3; clear o2 g2 at2 hblk2)
  next =>
    have hbA : Below w.heap.size w ((w.alloc (.map #[] 0)).alloc (.cells #[.map (some w.heap.size)] 78)) := below_alloc (below_alloc (Below.refl _ _))
    have o2 := O2.out
    have g2 := G2.out
    have at2 := AT2.out
    have hblk2 := HBK2.out
    have hmA : MapIs ((w.alloc (.map #[] 0)).alloc (.cells #[.map (some w.heap.size)] 78)) 9 w.heap.size [] := (MapIs.made w 9).same (Below.heap_alloc _ _ _ (by simp only [size_alloc]; omega))
    have hm2 : MapIs w2 9 w.heap.size [] := hmA.same (g2.block _ hmA.lt (fun e => own_ne_map HROW.out hmA e.symm rfl))
    have hm0 : w.heap.size ∉ ms := fun hmem => by
      obtain ⟨b, _, k, _⟩ := HW.out.inn.map_at hmem
      have := k.lt; omega
    have i2 := ((HW.out.inn.fr hbA).grow_bl (x := []) (m := w.heap.size) (v := .slice (some ⟨g, 0, none⟩) (E.blocks.length + 1) c) (by rw [List.length_append, List.length_singleton, List.map_append]; exact o2) (by rw [HBV.out]; exact g2) hm2 HW.out.inn.sz hm0).recd hblk2 3 (.slice (some ⟨g, 0, none⟩) (E.blocks.length + 1) c)
    have HAV := Lib.hid (show WAt (w2.setCell ⟨p, 3, none⟩ (.slice (some ⟨g, 0, none⟩) (E.blocks.length + 1) c)) p B (ms ++ [w.heap.size]) (E.push []) o { R with bv := .slice (some ⟨g, 0, none⟩) (E.blocks.length + 1) c } from
      ⟨HW.out.hp, hblk2.set_ 3 _, i2, fun b hb => by
        rcases List.mem_append.1 hb with hb | hb
        · exact HW.out.ent b hb
        · rw [List.mem_singleton.1 hb]; exact BkOk.nil _⟩)
    have fA : Fr (Ft p R) w _ := Fr.of_below hbA
    have HFV := Lib.hid ((fA.grown g2 (fun y e => .inl (.inr (.inr (.inr (.inr (.inl (by rw [HBV.out]; exact e)))))))).set (p := p) (i := 3) (.inl (.inl rfl)) (.slice (some ⟨g, 0, none⟩) (E.blocks.length + 1) c))
    have HGV := Lib.hid (show Gr w.heap.size p R { R with bv := .slice (some ⟨g, 0, none⟩) (E.blocks.length + 1) c } from Gr.bv_ (by rw [HBV.out]; exact at2) (Fr.size fA))
    clear o2 g2 at2 hbA hblk2 hmA hm2 hm0 i2 fA BL hmm c3 hi hz0 hz1 hz2 HROW HBK hg1 hg2 hcap1 hcap2
    try go_wp2
    generalize w2.setCell ⟨p, 3, none⟩ (.slice (some ⟨g, 0, none⟩) (E.blocks.length + 1) c) = V1 at *
    have H0 := HAV
    have F0 := HFV
    have G0 := HGV
    clear HAV HFV HGV
    generalize ({ R with bv := .slice (some ⟨g, 0, none⟩) (E.blocks.length + 1) c } : Rw) = R1 at *
    obtain ⟨b1, hb1⟩ : ∃ b1 : Bk, b1 = [] := ⟨_, rfl⟩
    obtain ⟨o1, ho1⟩ : ∃ o1 : Out, o1 = o := ⟨_, rfl⟩
    have HAH := Lib.hid (show ah [] o = .ok (b1, o1) from by rw [CLH.out, hb1, ho1]; rfl)
    rw [← hb1, ← ho1] at H0
    clear hb1 ho1
    have HN1 := Lib.hid (show o1.len ≤ o.len + na from HNA.out _ HAH.out)
    go_loopg [26] l.length (fun fu ix wr => ∃ (j : Nat) (b' : Bk) (o' : Out) (R' : Rw), ix = .int .i64 j ∧ j + fu = l.length ∧ WAt wr p B (ms ++ [w.heap.size]) (E.push b') o' R' ∧ Fr (Ft p R) w wr ∧ Gr w.heap.size p R R' ∧ declsP E.fn l b1 o1 = declsP E.fn (l.drop j) b' o' ∧ o'.len ≤ o1.len + j)
    case atStart => exact ⟨0, b1, o1, R1, rfl, by omega, H0.out, F0.out, G0.out, rfl, Nat.le_refl _⟩
    case round =>
      obtain ⟨j, b', o', R', rfl, hf, h1, h2, h3, h4, h5⟩ := hrel
      have H1 := Lib.hid h1
      have H2 := Lib.hid h2
      have H3 := Lib.hid h3
      have H4 := Lib.hid h4
      have H5 := Lib.hid h5
      clear h1 h2 h3 h4 h5
      rcases Nat.lt_or_ge j l.length with hj | hj
      · obtain ⟨k, hkj⟩ : ∃ k, l[j]? = some k := ⟨_, List.getElem?_eq_getElem hj⟩
        obtain ⟨b, off, hAeq, hbB⟩ := HA.out (by omega)
        cases hAeq
        obtain ⟨_, hwf', kv', hN, hKk⟩ := (HK.out.under (HW.out.under H2.out)).kid hkj
        obtain ⟨d0, d1, d2, d3, d4, d5⟩ := hN.get
        obtain ⟨A', cap', rfl, _, _, _⟩ := hKk.slice
        have hj' : (j : Int) < (l.length : Int) := by omega
        obtain ⟨f', hf'⟩ : ∃ f', gk = f' + 1 := ⟨gk - 1, by omega⟩
        have HF := Lib.hid (And.intro hf hf')
        have hU : Below wr.heap.size wr (wr.alloc (.cells #[.int .i64 k.kind, .int .i64 k.at_, .string k.name, .int .u64 k.num, .string k.op, .slice A' k.kids.length cap'] 31)) := below_alloc (Below.refl _ _)
        have HSt := Lib.hid (show declsP E.fn l b1 o1 = seqD (if k.kind = 31 ∨ k.kind = 32 ∨ k.kind = 33 then declareP E.fn k.name k.at_ (kindD k.kind) else noD) (declsP E.fn (l.drop (j + 1))) b' o' from by rw [H4.out, drop_at' hkj]; rfl)
        have hvl : o'.vars.length ≤ 2000000 := by
          have h1 := H5.out; have h2 := HN1.out; have h3 := HB0.out; have h4 := Tr.length_le_sizes l; unfold bnd at h3; unfold Out.len at *; omega
        have DC := fun kd => declare_calls (E := E.push b') (bs := E.blocks) (b := b') rfl (H1.out.fr hU) HLB.out hvl k.name hwf'.2 k.at_ kd
        clear hf hf' hkj hKk hN hwf' hvl
        by_cases hk31 : k.kind = 31
        · have q31 : (k.kind == 31) = true := by simp [hk31]
          have DC := DC 1
          cases hr : declareP E.fn k.name k.at_ 1 b' o' with
          | error cc =>
            have CC := Lib.hid (DC.mono (R' := fun e w' => e = bad cc ∧ Below B w w') fun e w' hh => ⟨(hh.2 cc hr).1, ((HW.out.under H2.out).trans (hU.mono H1.out.inn.sz)).trans (hh.2 cc hr).2⟩)
            have HE := Lib.hid (show bodyW F E ah l o = .error cc from by unfold bodyW; rw [seqD_ok HAH.out]; rw [HSt.out, if_pos (show k.kind = 31 ∨ k.kind = 32 ∨ k.kind = 33 from by simp [hk31]), hk31, show kindD 31 = 1 from rfl, seqD_err hr])
            clear hr hU DC hk31
            obtain ⟨c1, c2⟩ := cc
            unfold bad at CC
            go_wp2_with (first | (go_at_call 27; (with_reducible refine CC.out.mono ?_); rintro e v1 ⟨rfl, g1⟩; have G1 := Lib.hid g1; clear g1))
            exact ⟨rfl, WP.err HE.out ⟨rfl, G1.out⟩⟩
          | ok x2 =>
            obtain ⟨b2, o2⟩ := x2
            have CC := Lib.hid (DC.mono (R' := fun e w' => (∃ v, e = .returned v) ∧ ∃ R'', WAt w' p B (ms ++ [w.heap.size]) (E.push b2) o2 R'' ∧ Fr (Ft p R) w w' ∧ Gr w.heap.size p R R'') fun e w' hh => by
              obtain ⟨h1, R'', h2, h3, h4⟩ := hh.1 _ hr
              exact ⟨h1, R'', h2, (H2.out.tr (Fr.of_below hU)).trans h3 (fun b hb => by
                rcases hb with hb | hb
                · exact H3.out b hb
                · exact .inr (by omega)), H3.out.trans h4 (Nat.le_trans H2.out.size hU.size)⟩)
            have HE := Lib.hid (show declsP E.fn l b1 o1 = declsP E.fn (l.drop (j + 1)) b2 o2 from by rw [HSt.out, if_pos (show k.kind = 31 ∨ k.kind = 32 ∨ k.kind = 33 from by simp [hk31]), hk31, show kindD 31 = 1 from rfl, seqD_ok hr])
            have HL := Lib.hid (declareP_len hr)
            clear hr hU DC hk31
            go_wp2_with (first | (go_at_call 27; (with_reducible refine CC.out.mono ?_); rintro e v1 ⟨⟨v, rfl⟩, R'', g1, g2, g3⟩; have G1 := Lib.hid g1; have G2 := Lib.hid g2; have G3 := Lib.hid g3; clear g1 g2 g3))
            go_roundg f'
            case measure => have := HF.out; omega
            case rel => exact ⟨j + 1, b2, o2, R'', by simp, by have := HF.out; omega, G1.out, G2.out, G3.out, HE.out, by have h1 := H5.out; have h2 : o2.len ≤ o'.len + 1 := HL.out; omega⟩
        by_cases hk32 : k.kind = 32
        · have q32 : (k.kind == 32) = true := by simp [hk32]
          have q31 : (k.kind == 31) = false := by simp [hk32]
          have DC := DC 2
          cases hr : declareP E.fn k.name k.at_ 2 b' o' with
          | error cc =>
            have CC := Lib.hid (DC.mono (R' := fun e w' => e = bad cc ∧ Below B w w') fun e w' hh => ⟨(hh.2 cc hr).1, ((HW.out.under H2.out).trans (hU.mono H1.out.inn.sz)).trans (hh.2 cc hr).2⟩)
            have HE := Lib.hid (show bodyW F E ah l o = .error cc from by unfold bodyW; rw [seqD_ok HAH.out]; rw [HSt.out, if_pos (show k.kind = 31 ∨ k.kind = 32 ∨ k.kind = 33 from by simp [hk32]), hk32, show kindD 32 = 2 from rfl, seqD_err hr])
            clear hr hU DC hk32
            obtain ⟨c1, c2⟩ := cc
            unfold bad at CC
            go_wp2_with (first | (go_at_call 27; (with_reducible refine CC.out.mono ?_); rintro e v1 ⟨rfl, g1⟩; have G1 := Lib.hid g1; clear g1))
            exact ⟨rfl, WP.err HE.out ⟨rfl, G1.out⟩⟩
          | ok x2 =>
            obtain ⟨b2, o2⟩ := x2
            have CC := Lib.hid (DC.mono (R' := fun e w' => (∃ v, e = .returned v) ∧ ∃ R'', WAt w' p B (ms ++ [w.heap.size]) (E.push b2) o2 R'' ∧ Fr (Ft p R) w w' ∧ Gr w.heap.size p R R'') fun e w' hh => by
              obtain ⟨h1, R'', h2, h3, h4⟩ := hh.1 _ hr
              exact ⟨h1, R'', h2, (H2.out.tr (Fr.of_below hU)).trans h3 (fun b hb => by
                rcases hb with hb | hb
                · exact H3.out b hb
                · exact .inr (by omega)), H3.out.trans h4 (Nat.le_trans H2.out.size hU.size)⟩)
            have HE := Lib.hid (show declsP E.fn l b1 o1 = declsP E.fn (l.drop (j + 1)) b2 o2 from by rw [HSt.out, if_pos (show k.kind = 31 ∨ k.kind = 32 ∨ k.kind = 33 from by simp [hk32]), hk32, show kindD 32 = 2 from rfl, seqD_ok hr])
            have HL := Lib.hid (declareP_len hr)
            clear hr hU DC hk32
            go_wp2_with (first | (go_at_call 27; (with_reducible refine CC.out.mono ?_); rintro e v1 ⟨⟨v, rfl⟩, R'', g1, g2, g3⟩; have G1 := Lib.hid g1; have G2 := Lib.hid g2; have G3 := Lib.hid g3; clear g1 g2 g3))
            go_roundg f'
            case measure => have := HF.out; omega
            case rel => exact ⟨j + 1, b2, o2, R'', by simp, by have := HF.out; omega, G1.out, G2.out, G3.out, HE.out, by have h1 := H5.out; have h2 : o2.len ≤ o'.len + 1 := HL.out; omega⟩
        by_cases hk33 : k.kind = 33
        · have q33 : (k.kind == 33) = true := by simp [hk33]
          have q31 : (k.kind == 31) = false := by simp [hk33]
          have q32 : (k.kind == 32) = false := by simp [hk33]
          have DC := DC 4
          cases hr : declareP E.fn k.name k.at_ 4 b' o' with
          | error cc =>
            have CC := Lib.hid (DC.mono (R' := fun e w' => e = bad cc ∧ Below B w w') fun e w' hh => ⟨(hh.2 cc hr).1, ((HW.out.under H2.out).trans (hU.mono H1.out.inn.sz)).trans (hh.2 cc hr).2⟩)
            have HE := Lib.hid (show bodyW F E ah l o = .error cc from by unfold bodyW; rw [seqD_ok HAH.out]; rw [HSt.out, if_pos (show k.kind = 31 ∨ k.kind = 32 ∨ k.kind = 33 from by simp [hk33]), hk33, show kindD 33 = 4 from rfl, seqD_err hr])
            clear hr hU DC hk33
            obtain ⟨c1, c2⟩ := cc
            unfold bad at CC
            go_wp2_with (first | (go_at_call 27; (with_reducible refine CC.out.mono ?_); rintro e v1 ⟨rfl, g1⟩; have G1 := Lib.hid g1; clear g1))
            exact ⟨rfl, WP.err HE.out ⟨rfl, G1.out⟩⟩
          | ok x2 =>
            obtain ⟨b2, o2⟩ := x2
            have CC := Lib.hid (DC.mono (R' := fun e w' => (∃ v, e = .returned v) ∧ ∃ R'', WAt w' p B (ms ++ [w.heap.size]) (E.push b2) o2 R'' ∧ Fr (Ft p R) w w' ∧ Gr w.heap.size p R R'') fun e w' hh => by
              obtain ⟨h1, R'', h2, h3, h4⟩ := hh.1 _ hr
              exact ⟨h1, R'', h2, (H2.out.tr (Fr.of_below hU)).trans h3 (fun b hb => by
                rcases hb with hb | hb
                · exact H3.out b hb
                · exact .inr (by omega)), H3.out.trans h4 (Nat.le_trans H2.out.size hU.size)⟩)
            have HE := Lib.hid (show declsP E.fn l b1 o1 = declsP E.fn (l.drop (j + 1)) b2 o2 from by rw [HSt.out, if_pos (show k.kind = 31 ∨ k.kind = 32 ∨ k.kind = 33 from by simp [hk33]), hk33, show kindD 33 = 4 from rfl, seqD_ok hr])
            have HL := Lib.hid (declareP_len hr)
            clear hr hU DC hk33
            go_wp2_with (first | (go_at_call 27; (with_reducible refine CC.out.mono ?_); rintro e v1 ⟨⟨v, rfl⟩, R'', g1, g2, g3⟩; have G1 := Lib.hid g1; have G2 := Lib.hid g2; have G3 := Lib.hid g3; clear g1 g2 g3))
            go_roundg f'
            case measure => have := HF.out; omega
            case rel => exact ⟨j + 1, b2, o2, R'', by simp, by have := HF.out; omega, G1.out, G2.out, G3.out, HE.out, by have h1 := H5.out; have h2 : o2.len ≤ o'.len + 1 := HL.out; omega⟩
        have q31 : (k.kind == 31) = false := by simp [hk31]
        have q32 : (k.kind == 32) = false := by simp [hk32]
        have q33 : (k.kind == 33) = false := by simp [hk33]
        have HE := Lib.hid (show declsP E.fn l b1 o1 = declsP E.fn (l.drop (j + 1)) b' o' from by rw [HSt.out, if_neg (show ¬ (k.kind = 31 ∨ k.kind = 32 ∨ k.kind = 33) from by simp [hk31, hk32, hk33])]; rfl)
        have H1' := Lib.hid (H1.out.fr hU)
        have H2' := Lib.hid (H2.out.tr (Fr.of_below hU))
        clear DC hU hk31 hk32 hk33
        go_wp2
        go_roundg f'
        case measure => have := HF.out; omega
        case rel => exact ⟨j + 1, b', o', R', by simp, by have := HF.out; omega, H1'.out, H2'.out, H3.out, HE.out, by have := H5.out; omega⟩
      · have hjl : j = l.length := by omega
        have hj' : ¬ (j : Int) < (l.length : Int) := by omega
        have HJ := Lib.hid (show l.drop j = [] from List.drop_eq_nil_of_le (by omega))
        have HDecl := Lib.hid (show declsP E.fn l b1 o1 = .ok (b', o') from by rw [H4.out, HJ.out]; rfl)
        have HBody := Lib.hid (show bodyW F E ah l o = eachM (F.st (E.push b')) l o' from by unfold bodyW; rw [seqD_ok HAH.out, HDecl.out])
        have HBD := Lib.hid (show bnd (E.push b') o' + 9 * Tr.sizes l + 1 ≤ 2000000 + l.length from by
          have h1 := H5.out; have h2 := HN1.out; have h3 := HB0.out
          unfold bnd at h3 ⊢
          simp only [Env.push, List.length_append, List.length_singleton]
          rw [hjl] at h1
          omega)
        have HNE := Lib.hid (show 0 < (E.push b').blocks.length from by simp [Env.push])
        obtain ⟨W0, rfl⟩ : ∃ W0 : World, W0 = wr := ⟨_, rfl⟩
        have H0 := H1
        have F0 := H2
        have G0 := H3
        clear H1 H2 H3 H4 H5 hf hjl HJ HDecl
        generalize hbq : b' = bq at *
        generalize hoq : o' = oq at *
        generalize hRq : R' = Rq at *
        clear hbq hoq hRq
        go_wp2
        go_loopg [59] l.length (fun fu ix wr => ∃ (j : Nat) (o' : Out) (R' : Rw), ix = .int .i64 j ∧ j + fu = l.length ∧ WAt wr p B (ms ++ [w.heap.size]) (E.push bq) o' R' ∧ Fr (Ft p R) w wr ∧ Gr w.heap.size p R R' ∧ eachM (F.st (E.push bq)) l oq = eachM (F.st (E.push bq)) (l.drop j) o' ∧ o'.len + j ≤ oq.len + 4 * Tr.sizes (l.take j))
        case atStart => exact ⟨0, oq, Rq, rfl, by omega, H0.out, F0.out, G0.out, rfl, by simp [Tr.sizes_nil]⟩
        case round =>
          obtain ⟨j, o', R', rfl, hf, h1, h2, h3, h4, h5⟩ := hrel
          have H1 := Lib.hid h1
          have H2 := Lib.hid h2
          have H3 := Lib.hid h3
          have H4 := Lib.hid h4
          have H5 := Lib.hid h5
          clear h1 h2 h3 h4 h5
          rcases Nat.lt_or_ge j l.length with hj | hj
          · obtain ⟨k, hkj⟩ : ∃ k, l[j]? = some k := ⟨_, List.getElem?_eq_getElem (by have := HLL.out; omega)⟩
            obtain ⟨b, off, hAeq, hbB⟩ := HA.out (by omega)
            cases hAeq
            obtain ⟨_, hwf', kv', hN, hKk⟩ := (HK.out.under (HW.out.under H2.out)).kid hkj
            obtain ⟨d0, d1, d2, d3, d4, d5⟩ := hN.get
            obtain ⟨A', cap', rfl, _, _, _⟩ := hKk.slice
            have hj' : (j : Int) < (l.length : Int) := by omega
            obtain ⟨f', hf'⟩ : ∃ f', gk = f' + 1 := ⟨gk - 1, by omega⟩
            have HF := Lib.hid (And.intro hf hf')
            have hU : Below wr.heap.size wr (wr.alloc (.cells #[.int .i64 k.kind, .int .i64 k.at_, .string k.name, .int .u64 k.num, .string k.op, .slice A' k.kids.length cap'] 31)) := below_alloc (Below.refl _ _)
            have HSt := Lib.hid (show eachM (F.st (E.push bq)) l oq = seqM (F.st (E.push bq) k) (eachM (F.st (E.push bq)) (l.drop (j + 1))) o' from by rw [H4.out, drop_at' hkj]; rfl)
            have hsz := sizes_at hkj
            have HT := Lib.hid (take_succ_at hkj)
            have CC := (HG.out.st _ p B (ms ++ [w.heap.size]) (E.push bq) o' R' k _ (H1.out.fr hU) HNE.out (by have := H5.out; have := HBD.out; have hrs := sizes_rest hkj; unfold bnd at *; omega) (hKk.under (hU.mono H1.out.inn.sz)) hwf' (HD.out k (List.mem_of_getElem? hkj)) (HOK.out k (List.mem_of_getElem? hkj)))
            clear hf hf' hkj hKk hN hwf'
            cases hr : F.st (E.push bq) k o' with
            | error c =>
              have CC := Lib.hid (CC.mono (R' := fun e w' => e = bad c ∧ Below B w w') fun e w' hh => ⟨(hh.2 c hr).1, ((HW.out.under H2.out).trans (hU.mono H1.out.inn.sz)).trans (hh.2 c hr).2⟩)
              have HE := Lib.hid (HSt.out.trans (seqM_err hr))
              clear hr hU
              obtain ⟨c1, c2⟩ := c
              unfold bad at CC
              go_wp2_with (first | (go_at_call 28; (with_reducible refine CC.out.mono ?_); rintro e v1 ⟨rfl, g1⟩; have G1 := Lib.hid g1; clear g1))
              exact ⟨rfl, WP.err (HBody.out.trans HE.out) ⟨rfl, G1.out⟩⟩
            | ok o1 =>
              have CC := Lib.hid (CC.mono (R' := fun e w' => (∃ v, e = .returned v) ∧ ∃ R'', WAt w' p B (ms ++ [w.heap.size]) (E.push bq) o1 R'' ∧ Fr (Ft p R) w w' ∧ Gr w.heap.size p R R'') fun e w' hh => by
                obtain ⟨h1, R'', h2, h3, h4⟩ := hh.1 o1 hr
                exact ⟨h1, R'', h2, (H2.out.tr (Fr.of_below hU)).trans h3 H3.out, H3.out.trans h4 (Nat.le_trans H2.out.size hU.size)⟩)
              have hgl := HLen.out.st (E.push bq) k o' o1 hr
              have HGL := Lib.hid hgl
              have HE := Lib.hid (HSt.out.trans (seqM_ok hr))
              clear hr hU hgl
              go_wp2_with (first | (go_at_call 28; (with_reducible refine CC.out.mono ?_); rintro e v1 ⟨⟨v, rfl⟩, R'', g1, g2, g3⟩; have G1 := Lib.hid g1; have G2 := Lib.hid g2; have G3 := Lib.hid g3; clear g1 g2 g3))
              go_roundg f'
              case measure => have := HF.out; omega
              case rel => exact ⟨j + 1, o1, R'', by simp, by have := HF.out; omega, G1.out, G2.out, G3.out, HE.out, by rw [HT.out, Tr.sizes_append, Tr.sizes_cons, Tr.sizes_nil]; have := H5.out; have := HGL.out; omega⟩
          · have hjl : j = l.length := by omega
            have hj' : ¬ (j : Int) < (l.length : Int) := by omega
            have HJ := Lib.hid (show l.drop j = [] from List.drop_eq_nil_of_le (by have := HLL.out; omega))
            have HEnd := Lib.hid (show eachM (F.st (E.push bq)) l oq = .ok o' from by rw [H4.out, HJ.out]; rfl)
            clear hf hjl
            obtain ⟨gg, cc, hbv, _, _, hcc1, hcc2⟩ := own_some H1.out.inn.bl (by simp [Env.push])
            obtain ⟨LL, hLL⟩ : ∃ LL, E.blocks.length + 1 = LL := ⟨_, rfl⟩
            rw [show (E.push bq).blocks.length = LL by simp [Env.push, hLL]] at hbv hcc1
            have HBR2 := Lib.hid hbv
            have HCUT := Lib.hid (show WIn wr B ms E o' { R' with bv := .slice (some ⟨gg, 0, none⟩) E.blocks.length cc } from by
              have h1 := H1.out.inn.cut_bl (bs := E.blocks) (b := bq) rfl hbv
              exact h1)
            have hbr := H1.out.blk
            rw [hbv] at hbr
            have HBR := Lib.hid hbr
            have r3 := hbr.cell 3
            simp only [List.getElem?_toArray, List.getElem?_cons_succ, List.getElem?_cons_zero] at r3
            have rf3 := hbr.frozen 3
            have hw1 : IntKind.i64.wrap ((LL : Int) - 1) = (E.blocks.length : Int) := by rw [IntKind.wrap_i64]; have := HLB.out; omega
            have hk1 : (0 : Int) ≤ (E.blocks.length : Int) ∧ (E.blocks.length : Int) ≤ (LL : Int) ∧ (LL : Int) ≤ (cc : Int) ∧ (E.blocks.length : Int) ≤ (cc : Int) := by omega
            clear hbv hbr hLL hcc1 hcc2
            go_wp2
            have hTr : True := trivial
            refine wp_region_tail (S := (fun w' => w'.cell? ⟨p, 3, none⟩ = some (.slice (some ⟨gg, 0, none⟩) LL cc))) 12 3 rfl (by kernel_rfl) ?_ (fun hHeld => ?_)
            · exact r3
            refine tt 0 ?_
            try simp only [Act.put, z1, z2, z3]
            refine tt 1 ?_
            try simp only [Act.put, z1, z2, z3]
            refine tt 2 ?_
            try simp only [Act.put, z1, z2, z3]
            refine tt 3 ?_
            try simp only [Act.put, z1, z2, z3]
            refine tt 4 ?_
            try simp only [Act.put, z1, z2, z3]
            refine tt 5 ?_
            try simp only [Act.put, z1, z2, z3]
            refine tt 6 ?_
            try simp only [Act.put, z1, z2, z3]
            refine tt 7 ?_
            try simp only [Act.put, z1, z2, z3]
            refine tt 8 ?_
            try simp only [Act.put, z1, z2, z3]
            refine tt 9 ?_
            try simp only [Act.put, z1, z2, z3]
            refine tt 10 ?_
            try simp only [Act.put, z1, z2, z3]
            refine tt 11 ?_
            try simp only [Act.put, z1, z2, z3]
            refine wpAnyT_done (by kernel_rfl) ?_
            refine tk 12 ?_
            try simp only [Act.put, z1, z2, z3]
            refine tk 13 ?_
            try simp only [Act.put, z1, z2, z3]
            refine wpAnyH_ready (rs := [14]) (by kernel_rfl) (by simp) ?_
            refine (AllReadyH.cons (i := 14) (o := ?o15) ?h15 (fun K hK => ?k15) AllReadyH.nil)
            case h15 => (simp only [List.getElem?_toArray, List.getElem?_cons_succ, List.getElem?_cons_zero]; try rfl)
            case k15 =>
              go_simp
              try go_wp2_with fail
              refine hK.out _ _ ?_ (fun hHeld => ?_)
              · trivial
              clear hK K
              try simp only [Act.put, z1, z2, z3]
              refine wpAnyH_done (by kernel_rfl) ?_ _
              go_wp2
              go_end0
              exact WP.ok (HBody.out.trans HEnd.out) ⟨⟨_, rfl⟩, { R' with bv := .slice (some ⟨gg, 0, none⟩) E.blocks.length cc }, ⟨HW.out.hp, (HBR.out.set_ 3 (.slice (some ⟨gg, 0, none⟩) E.blocks.length cc)).drew, (HCUT.out.recd HBR.out 3 (.slice (some ⟨gg, 0, none⟩) E.blocks.length cc)).fr (Below.refl _ _).drew, fun b hb => H1.out.ent b (List.mem_append_left _ hb)⟩, (H2.out.set (p := p) (i := 3) (.inl (.inl rfl)) (.slice (some ⟨gg, 0, none⟩) E.blocks.length cc)).drew, H3.out.trans (Gr.bv_ (k := w.heap.size) (by rw [HBR2.out]; exact .inl rfl) (Nat.le_refl _)) (Nat.le_refl _)⟩
end Go.Proofs.YtlenhcmgcgccmaaDoor
