/- Scope: labelled. -/
import Derived.Test.YtlenhcmgcgccmaaDoorUs
namespace Go.Proofs.YtlenhcmgcgccmaaDoor
open Go.RowKit Go
set_option linter.unusedVariables false
set_option linter.unusedSimpArgs false
theorem lidx_any {nm : ByteArray} : ∀ (l : List (ByteArray × Bool)) (k : Nat), decide (0 ≤ lidx l nm k) = l.any (fun x => decide (x.1 = nm))
  | [], k => rfl
  | x :: l, k => by
    rw [List.any_cons]
    by_cases h : x.1 = nm
    · rw [lidx, if_pos h]; simp [h]
    · rw [lidx, if_neg h, lidx_any l (k + 1)]; simp [h]
theorem innerP_stop {x : Tr} (h : ¬ x.kind = 41) : ∀ r, innerP r x = x
  | 0 => rfl
  | r + 1 => by rw [innerP, if_neg h]
theorem innerP_step {x y : Tr} (h : x.kind = 41) (hk : x.kids = [y]) (r : Nat) : innerP (r + 1) x = innerP r y := by rw [innerP, if_pos h, hk]
theorem OkS.label_kid {x : Tr} (h : OkS x) (hk : x.kind = 41) : ∃ y, x.kids = [y] ∧ OkS y := by
  cases h with
  | miss _ h => simp [missing, hk] at h
  | block _ h => rw [hk] at h; cases h
  | fn _ h => rw [hk] at h; cases h
  | one _ h => rw [hk] at h; rcases h with h | h | h | h | h <;> cases h
  | label _ _ a h ha => exact ⟨a, h, ha⟩
  | two _ h => rw [hk] at h; rcases h with h | h <;> cases h
  | if_ _ h => rw [hk] at h; cases h
  | for_ _ h => rw [hk] at h; cases h
  | try_ _ h => rw [hk] at h; cases h
  | none_ _ h => rw [hk] at h; rcases h with h | h | h <;> cases h
theorem lb_cut {w V : World} {p B : Nat} {ms : List Nat} {ls : List (ByteArray × Bool)} {x : ByteArray × Bool} {E : Env} {o3 : Out} {R R3 : Rw} {A : Option Addr} {n c : Nat} (hE : E.labels = ls ++ [x]) (g : WAt V p B ms E o3 R3) (hR : R3.lv = .slice A n c) (f : Fr (Ft p R) w V) (gr : Gr w.heap.size p R R3) :
    Sq w p B ms { E with labels := ls } R (V.setCell ⟨p, 5, none⟩ (.slice A ls.length c)).drew o3 :=
  ⟨{ R3 with lv := .slice A ls.length c }, ⟨g.hp, (g.blk.set_ 5 (.slice A ls.length c)).drew, ((g.inn.cut_lb hE hR).recd g.blk 5 _).fr (Below.refl _ _).drew, g.ent⟩, (f.set (p := p) (i := 5) (.inl (.inl rfl)) _).drew, gr.trans (Gr.lv_ (k := w.heap.size) (by rw [hR]; left; cases A <;> rfl) (Nat.le_refl _)) (Nat.le_refl _)⟩
set_option maxRecDepth 100000 in
set_option maxHeartbeats 8000000 in
theorem labelled_calls {F : WF} {n : Nat} (G : GoodW F n) (hn300 : n ≤ 300) (w : World) (p B : Nat) (ms : List Nat) (E : Env) (o : Out) (R : Rw) (t k : Tr) (kv : Value) (h : WAt w p B ms E o R) (hne : 0 < E.blocks.length) (hbd : bnd E o + 9 * t.size ≤ 2000000) (hk : KidsAt w B kv t.kids) (hwf : t.wf1) (hd : t.fitsD (n + 1) = true) (hkids : t.kids = [k]) (hok : OkS k) :
    WCall 44 w p B ms E R t kv (labelledW F E t k o) := by
  unfold WCall
  have hlen : t.kids.length = 1 := by rw [hkids]; rfl
  have hi0 : t.kids[0]? = some k := by rw [hkids]; rfl
  obtain ⟨A, cap, rfl, hcl, hcm, hA⟩ := hk.slice
  obtain ⟨b, off, rfl, hbB⟩ := hA (by omega)
  rw [hlen] at hk hcl ⊢
  have hdk := Tr.fitsD_kid hd (List.mem_of_getElem? hi0)
  obtain ⟨_, hwk, kvk, hnk, hkk⟩ := hk.kid hi0
  obtain ⟨Ak, ck, rfl, _, _, _⟩ := hkk.slice
  obtain ⟨d0, d1, d2, d3, d4, d5⟩ := kcells hnk off (by omega)
  obtain ⟨U, hU⟩ : ∃ U, w.alloc (.cells #[.int .i64 t.kind, .int .i64 t.at_, .string t.name, .int .u64 t.num, .string t.op, .slice (some ⟨b, off, none⟩) 1 cap] 31) = U := ⟨_, rfl⟩
  have W1 : Below w.heap.size w U := by rw [← hU]; exact below_alloc (Below.refl _ _)
  have h1 := h.fr W1
  have hb8 : Blk U w.heap.size 31 #[.int .i64 t.kind, .int .i64 t.at_, .string t.name, .int .u64 t.num, .string t.op, .slice (some ⟨b, off, none⟩) 1 cap] := by rw [← hU]; exact Blk.new _ _ _
  obtain ⟨Al, cl, hlv⟩ := own_is_slice h.inn.lb
  have hr := h.blk
  rw [hlv] at hr
  have r5 := hr.cell 5
  simp only [List.getElem?_toArray, List.getElem?_cons_succ, List.getElem?_cons_zero] at r5
  have hpw := hr.lt
  have np : w.heap.size ≠ p := by omega
  have hpl : p < U.heap.size := h1.blk.lt
  have r5' : U.cell? ⟨p, 5, none⟩ = some (.slice Al E.labels.length cl) := (W1.cell (p := ⟨p, 5, none⟩) hpw).trans r5
  have hbw : b < w.heap.size := Nat.lt_of_lt_of_le hbB h.inn.sz
  have hlb := h1.inn.lb
  rw [hlv] at hlb
  have hln : E.labels.length ≤ 2000000 := by unfold bnd at hbd; omega
  have e2 := hb8.cell 2
  simp only [List.getElem?_toArray, List.getElem?_cons_succ, List.getElem?_cons_zero] at e2
  have IC := lcont66 U B w.heap.size _ E.labels t.name hlb hln hb8.lt e2
  rw [lidx_any] at IC
  have UL := W1.size
  have KX := Lib.hid (fun (v : World) (f : Below U.heap.size U v) => show v.cell? ⟨w.heap.size, 1, none⟩ = some (.int .i64 t.at_) ∧ v.cell? ⟨w.heap.size, 5, none⟩ = some (.slice (some ⟨b, off, none⟩) 1 cap) ∧ w.heap.size < v.heap.size ∧
      v.cell? ⟨b, off, none⟩ = some (.int .i64 k.kind) ∧ v.cell? ⟨b, off + 1, none⟩ = some (.int .i64 k.at_) ∧ v.cell? ⟨b, off + 2, none⟩ = some (.string k.name) ∧ v.cell? ⟨b, off + 3, none⟩ = some (.int .u64 k.num) ∧ v.cell? ⟨b, off + 4, none⟩ = some (.string k.op) ∧ v.cell? ⟨b, off + 5, none⟩ = some (.slice Ak k.kids.length ck) ∧ b < v.heap.size ∧ v.cell? ⟨p, 5, none⟩ = some (.slice Al E.labels.length cl) ∧ p < v.heap.size from by
    have c8 := hb8.below f hb8.lt
    have bb := fun (j : Nat) (u : Value) (hj : w.cell? ⟨b, j, none⟩ = some u) => show v.cell? ⟨b, j, none⟩ = some u from (f.cell (p := ⟨b, j, none⟩) (Nat.lt_of_lt_of_le hbw UL)).trans ((W1.cell (p := ⟨b, j, none⟩) hbw).trans hj)
    exact ⟨c8.cell 1, c8.cell 5, c8.lt, bb _ _ d0, bb _ _ d1, bb _ _ d2, bb _ _ d3, bb _ _ d4, bb _ _ d5, Nat.lt_of_lt_of_le (Nat.lt_of_lt_of_le hbw UL) f.size, (f.cell (p := ⟨p, 5, none⟩) hpl).trans r5', Nat.lt_of_lt_of_le hpl f.size⟩)
  have FC := Lib.hid fail_calls
  have HW := Lib.hid h
  have HB := Lib.hid (show Below B w U from W1.mono h.inn.sz)
  have HWU := Lib.hid W1
  have HB8 := Lib.hid hb8
  have HK := Lib.hid hk
  have HKK := Lib.hid hkk
  have HWK := Lib.hid hwk
  have HDK := Lib.hid hdk
  have HOK := Lib.hid hok
  have HNE := Lib.hid hne
  have HBD := Lib.hid hbd
  have HG := Lib.hid G
  have HN3 := Lib.hid hn300
  have HWF := Lib.hid hwf
  have HTS := Lib.hid (show t.size = 1 + k.size from by rw [Tr.size_eq, hkids, Tr.sizes_cons, Tr.sizes_nil]; rfl)
  clear h hne hbd hk hwf hd hkids hok hlen hi0 hA hcm hnk hkk hdk hwk W1 h1 hb8 hlv hr hpl r5' hlb G hn300 d0 d1 d2 d3 d4 d5 e2 UL
  unfold labelledW
  cases ha : E.labels.any (fun l => decide (l.1 = t.name)) with
  | true =>
    rw [ha] at IC
    have IC := Lib.hid IC
    clear ha
    rw [if_pos rfl]
    subst hU
    go_enter Tryd.func44, Tryd.ntmps44
    go_wp2_with (first | (go_at_call 65; (with_reducible refine IC.out.mono ?_); rintro e v1 ⟨rfl, g1⟩; obtain ⟨y1, y5, l0, d0, d1, d2, d3, d4, d5, lb, yp, lp⟩ := KX.out _ g1; have G1 := Lib.hid g1; clear g1) | (go_at_call 39; (with_reducible refine (FC.out _ _ _).mono ?_); rintro e w2 ⟨rfl, rfl⟩; unfold bad))
    exact ⟨rfl, WP.err rfl ⟨rfl, HB.out.trans (G1.out.mono (Nat.le_trans HW.out.inn.sz HWU.out.size))⟩⟩
  | false =>
    rw [ha] at IC
    have IC := Lib.hid IC
    clear ha
    rw [if_neg (by simp)]
    subst hU
    have HX0 := Lib.hid HWK.out
    go_enter Tryd.func44, Tryd.ntmps44
    go_wp2_with (first | (go_at_call 65; (with_reducible refine IC.out.mono ?_); rintro e v1 ⟨rfl, g1⟩; obtain ⟨y1, y5, l0, d0, d1, d2, d3, d4, d5, lb, yp, lp⟩ := KX.out _ g1; have G1 := Lib.hid g1; clear g1) | (go_at_call 39; (with_reducible refine (FC.out _ _ _).mono ?_); rintro e w2 ⟨rfl, rfl⟩; unfold bad))
    have HKK2 := Lib.hid ((HKK.out.under (HB.out.trans (G1.out.mono (Nat.le_trans HW.out.inn.sz HWU.out.size)))))
    go_loopg [] n (fun fu wr => ∃ (x : Tr) (Ax : Option Addr) (cx r : Nat), Blk wr v1.heap.size 31 #[.int .i64 x.kind, .int .i64 x.at_, .string x.name, .int .u64 x.num, .string x.op, .slice Ax x.kids.length cx] ∧ Below v1.heap.size v1 wr ∧ innerP 300 k = innerP r x ∧ fu ≤ r ∧ x.fitsD fu = true ∧ OkS x ∧ KidsAt wr B (.slice Ax x.kids.length cx) x.kids)
    case atStart => exact ⟨k, Ak, ck, 300, Blk.new _ _ _, below_alloc (Below.refl _ _), rfl, HN3.out, HDK.out, HOK.out, HKK2.out.under (below_alloc (Below.refl _ _) |>.mono (Nat.le_trans (Nat.le_trans HW.out.inn.sz HWU.out.size) G1.out.size))⟩
    case round =>
      obtain ⟨x, Ax, cx, r, hb4, hbv, hin, hfr, hfx, hox, hkx⟩ := hrel
      have c40 := hb4.cell 0
      have c41 := hb4.cell 1
      have c42 := hb4.cell 2
      have c43 := hb4.cell 3
      have c44 := hb4.cell 4
      have c45 := hb4.cell 5
      simp only [List.getElem?_toArray, List.getElem?_cons_succ, List.getElem?_cons_zero] at c40 c41 c42 c43 c44 c45
      have k40 := hb4.frozen 0
      have k41 := hb4.frozen 1
      have k42 := hb4.frozen 2
      have k43 := hb4.frozen 3
      have k44 := hb4.frozen 4
      have k45 := hb4.frozen 5
      have l4 := hb4.lt
      have HB4 := Lib.hid hb4
      have HBV := Lib.hid hbv
      have HIN := Lib.hid hin
      have HFR := Lib.hid hfr
      have HFX := Lib.hid hfx
      have HOX := Lib.hid hox
      have HKX := Lib.hid hkx
      clear hb4 hbv hin hfr hfx hox hkx
      by_cases hx41 : x.kind = 41
      · obtain ⟨y, hxy, hoy⟩ := HOX.out.label_kid hx41
        have hxl : x.kids.length = 1 := by rw [hxy]; rfl
        obtain ⟨f', hf'⟩ : ∃ f', gk = f' + 1 := ⟨gk - 1, by
          rcases gk with _ | g
          · have := HFX.out; cases this
          · rfl⟩
        have hkx := HKX.out
        obtain ⟨Ax', cx', ex, hx1, hx2, hxA⟩ := hkx.slice
        injection ex with ex1 _ ex2
        subst ex1
        subst ex2
        obtain ⟨bx, ox, hAx, hbxB⟩ := hxA (by omega)
        subst hAx
        rw [hxl] at hkx c45
        obtain ⟨_, hwy, kvy, hny, hky⟩ := hkx.kid (i := 0) (by rw [hxy]; rfl)
        obtain ⟨Ay, cy, rfl, _, _, _⟩ := hky.slice
        obtain ⟨z0, z1, z2, z3, z4, z5⟩ := kcells hny ox (by omega)
        have q41 : (x.kind == 41) = true := by simp [hx41]
        have hbxw : bx < wr.heap.size := Nat.lt_of_lt_of_le hbxB (Nat.le_trans (Nat.le_trans (Nat.le_trans HW.out.inn.sz HWU.out.size) G1.out.size) HBV.out.size)
        have hc1 : (1 : Int) ≤ (cx : Int) := by omega
        have HXY := Lib.hid hxy
        have HOY := Lib.hid hoy
        have HKY := Lib.hid hky
        have HX41 := Lib.hid hx41
        have HF := Lib.hid hf'
        have HRB := HB4.out
        clear hxy hoy hky hkx hny hx41 hf' hx1 hx2 hxA hxl hwy
        go_wp2
        go_roundg f'
        case measure => have := HF.out; omega
        case rel =>
          have b' := (((((HRB.set_ 0 (.int .i64 y.kind)).set_ 1 (.int .i64 y.at_)).set_ 2 (.string y.name)).set_ 3 (.int .u64 y.num)).set_ 4 (.string y.op)).set_ 5 (.slice Ay y.kids.length cy)
          have hbw' := (((((HBV.out.setCell (p := ⟨v1.heap.size, 0, none⟩) (Nat.le_refl _) (.int .i64 y.kind)).setCell (p := ⟨v1.heap.size, 1, none⟩) (Nat.le_refl _) (.int .i64 y.at_)).setCell (p := ⟨v1.heap.size, 2, none⟩) (Nat.le_refl _) (.string y.name)).setCell (p := ⟨v1.heap.size, 3, none⟩) (Nat.le_refl _) (.int .u64 y.num)).setCell (p := ⟨v1.heap.size, 4, none⟩) (Nat.le_refl _) (.string y.op)).setCell (p := ⟨v1.heap.size, 5, none⟩) (Nat.le_refl _) (.slice Ay y.kids.length cy)
          have hBv : B ≤ v1.heap.size := Nat.le_trans (Nat.le_trans HW.out.inn.sz HWU.out.size) G1.out.size
          have hbr' := ((((((Below.refl v1.heap.size wr).setCell (p := ⟨v1.heap.size, 0, none⟩) (Nat.le_refl _) (.int .i64 y.kind)).setCell (p := ⟨v1.heap.size, 1, none⟩) (Nat.le_refl _) (.int .i64 y.at_)).setCell (p := ⟨v1.heap.size, 2, none⟩) (Nat.le_refl _) (.string y.name)).setCell (p := ⟨v1.heap.size, 3, none⟩) (Nat.le_refl _) (.int .u64 y.num)).setCell (p := ⟨v1.heap.size, 4, none⟩) (Nat.le_refl _) (.string y.op)).setCell (p := ⟨v1.heap.size, 5, none⟩) (Nat.le_refl _) (.slice Ay y.kids.length cy)
          obtain ⟨r', hr'⟩ : ∃ r', r = r' + 1 := ⟨r - 1, by have h1 := HFR.out; have h2 := HF.out; omega⟩
          have hfr := HFR.out
          have hfx := HFX.out
          rw [HF.out] at hfr hfx
          subst hr'
          exact ⟨y, Ay, cy, r', b', hbw', by rw [HIN.out, innerP_step HX41.out HXY.out], by omega, Tr.fitsD_kid hfx (by rw [HXY.out]; exact List.mem_singleton.2 rfl), HOY.out, HKY.out.under (hbr'.mono hBv)⟩
      · have q41 : (x.kind == 41) = false := by simp [hx41]
        have HL := Lib.hid (show loopP (innerP 300 k) = (decide (x.kind = 36) || (decide (x.kind = 37) || decide (x.kind = 38))) from by rw [HIN.out, innerP_stop hx41]; rfl)
        obtain ⟨y1, y5, l0, d0, d1, d2, d3, d4, d5, lb, yp, lp⟩ := KX.out _ (G1.out.trans (HBV.out.mono G1.out.size))
        obtain ⟨lo, hlo⟩ : ∃ lo, (decide (x.kind = 36) || (decide (x.kind = 37) || decide (x.kind = 38))) = lo := ⟨_, rfl⟩
        have HLO := Lib.hid (HL.out.trans hlo)
        clear hx41
        go_upto_region 6 with (fail)
        go_cut [5] from 26 to 38 (fun p5 wx => p5 = .bool lo ∧ wx = wr)
        case first =>
          by_cases k36 : x.kind = 36
          · have q36 : (x.kind == 36) = true := by simp [k36]
            go_wp2
            go_meet
            exact ⟨by rw [← hlo]; simp [k36], rfl⟩
          · have q36 : (x.kind == 36) = false := by simp [k36]
            by_cases k37 : x.kind = 37
            · have q37 : (x.kind == 37) = true := by simp [k37]
              go_wp2
              go_meet
              exact ⟨by rw [← hlo]; simp [k37], rfl⟩
            · have q37 : (x.kind == 37) = false := by simp [k37]
              by_cases k38 : x.kind = 38
              · have q38 : (x.kind == 38) = true := by simp [k38]
                go_wp2
                go_meet
                exact ⟨by rw [← hlo]; simp [k38], rfl⟩
              · have q38 : (x.kind == 38) = false := by simp [k38]
                go_wp2
                go_meet
                exact ⟨by rw [← hlo]; simp [k36, k37, k38], rfl⟩
        case rest =>
          obtain ⟨rfl, rfl⟩ := hcut
          obtain ⟨U, rfl⟩ : ∃ U : World, U = wc := ⟨_, rfl⟩
          have W3 : Below w.heap.size w U := HWU.out.trans ((G1.out.mono HWU.out.size).trans (HBV.out.mono (Nat.le_trans HWU.out.size G1.out.size)))
          have hu := HW.out.fr W3
          have b8 : Blk U w.heap.size 31 #[.int .i64 t.kind, .int .i64 t.at_, .string t.name, .int .u64 t.num, .string t.op, .slice (some ⟨b, off, none⟩) 1 cap] := (HB8.out.below G1.out HB8.out.lt).below HBV.out (Nat.lt_of_lt_of_le HB8.out.lt G1.out.size)
          obtain ⟨Aw, cw, hlv⟩ := own_is_slice hu.inn.lb
          have hbr := hu.blk
          rw [hlv] at hbr
          have hAl : (Value.slice Aw E.labels.length cw) = .slice Al E.labels.length cl := by have h1 := hbr.cell 5; simp only [List.getElem?_toArray, List.getElem?_cons_succ, List.getElem?_cons_zero] at h1; rw [yp] at h1; exact (Option.some.inj h1).symm
          rw [hAl] at hlv hbr
          have hrow := hu.inn.lb
          rw [hlv] at hrow
          have SX := Lib.hid (fun w' (bw : Below U.heap.size U w') => show (fun w' => w'.cell? ⟨p, 5, none⟩ = some (.slice Al E.labels.length cl) ∧ w'.cell? ⟨w.heap.size, 2, none⟩ = some (.string t.name)) w' from ⟨(hbr.below bw hbr.lt).cell 5, (b8.below bw b8.lt).cell 2⟩)
          have HOWN := Lib.hid (fun w' (bw : Below U.heap.size U w') => own_below bw hrow)
          have SG := Lib.hid (fun (wa w2 : World) (bw : Below U.heap.size U wa) (g2 : wa.grownBy w2 (Value.ownBlock (.slice Al E.labels.length cl))) => show (fun w' => w'.cell? ⟨p, 5, none⟩ = some (.slice Al E.labels.length cl) ∧ w'.cell? ⟨w.heap.size, 2, none⟩ = some (.string t.name)) w2 ∧ Blk w2 p 64 #[R.sv, R.vv, R.uv, R.bv, .int .i64 (E.fn : Int), .slice Al E.labels.length cl, .int .i64 (E.loops : Int)] from by
            have gr : ∀ {q : Nat} {ty : TypeId} {csx : Array Value}, Blk U q ty csx → ty ≠ 99 → Blk w2 q ty csx := fun hq hne => (hq.below bw hq.lt).grown g2 (fun e => own_blk_ne (HOWN.out _ bw) (hq.below bw hq.lt) (Ne.symm hne) e.symm)
            exact ⟨⟨(gr hbr (by decide)).cell 5, (gr b8 (by decide)).cell 2⟩, gr hbr (by decide)⟩)
          have HU := Lib.hid hu
          have HW3 := Lib.hid W3
          have B8 := Lib.hid b8
          have HLV := Lib.hid hlv
          have HBU := Lib.hid hu.inn.sz
          have HNUM := Lib.hid hln
          obtain ⟨i99, hi, hz0, hz1, hz2⟩ := info_parts info99
          clear hu b8 hbr hlv hrow W3 hAl Aw cw hlo y1 y5 l0 yp lp c40 c41 c42 c43 c44 c45 k40 k41 k42 k43 k44 k45 q41 l4
          go_wp2
          have hTr : True := trivial
          refine wp_region_tail (S := (fun w' => w'.cell? ⟨p, 5, none⟩ = some (.slice Al E.labels.length cl) ∧ w'.cell? ⟨w.heap.size, 2, none⟩ = some (.string t.name))) 11 3 rfl (by kernel_rfl) ?_ (fun hHeld => ?_)
          · exact SX.out _ (Below.refl _ _).drew
          refine tt 0 ?_
          try simp only [Act.put, z1, z2, z3]
          refine tt 1 ?_
          try simp only [Act.put, z1, z2, z3]
          refine tt 2 ?_
          try simp only [Act.put, z1, z2, z3]
          refine tt 3 ?_
          try simp only [Act.put, z1, z2, z3]
          refine tt 4 ?_
          try simp only [Act.put, z1, z2, z3]
          refine tt 5 ?_
          try simp only [Act.put, z1, z2, z3]
          refine tt 6 ?_
          try simp only [Act.put, z1, z2, z3]
          refine tt 7 ?_
          try simp only [Act.put, z1, z2, z3]
          refine tt 8 ?_
          try simp only [Act.put, z1, z2, z3]
          refine wpAnyT_ready (rs := [9]) (by kernel_rfl) (by simp) ?_
          refine (AllReadyT.cons (by decide) (i := 9) (o := ?o25) ?h25 (fun K hK => ?k25) AllReadyT.nil)
          case h25 => (simp only [List.getElem?_toArray, List.getElem?_cons_succ, List.getElem?_cons_zero]; try rfl)
          case k25 =>
            go_simp
            try go_wp2_with fail
            refine hK.out _ _ ?_ (fun hHeld => ?_)
            · exact SX.out _ (by first | exact ((Below.refl U.heap.size U).drew).alloc (Nat.le_refl _) _ | exact ((Below.refl U.heap.size U).alloc (Nat.le_refl _) _).drew)
            clear hK K
            try simp only [Act.put, z1, z2, z3]
            refine wpAnyT_ready (rs := [10]) (by kernel_rfl) (by simp) ?_
            refine (AllReadyT.cons (by decide) (i := 10) (o := ?o26) ?h26 (fun K hK => ?k26) AllReadyT.nil)
            case h26 => (simp only [List.getElem?_toArray, List.getElem?_cons_succ, List.getElem?_cons_zero]; try rfl)
            case k26 =>
              (refine step_append_any _ rfl (.tmp 43) (.tmp 48) 62 rfl B 99 i99 _ 2 24 Tryd.underlying62 hi hz0 hz1 hz2 rfl (by decide) (.slice Al E.labels.length cl) E.labels.length (E.labels.flatMap lcells) rfl (HOWN.out _ (by first | exact ((Below.refl U.heap.size U).drew).alloc (Nat.le_refl _) _ | exact ((Below.refl U.heap.size U).alloc (Nat.le_refl _) _).drew)) _ _ 1 1 [.string t.name, .bool lo] rfl (by first | exact reads_blkn (Blk.new _ _ _) | exact reads_blkn ((Blk.new _ _ _).drew)) (by simp [Value.oneCell']) (by unfold maxLen; have := HNUM.out; omega) (by have := HNUM.out; omega) (Nat.le_trans HBU.out (Below.size (by first | exact ((Below.refl U.heap.size U).drew).alloc (Nat.le_refl _) _ | exact ((Below.refl U.heap.size U).alloc (Nat.le_refl _) _).drew))) ?_; intro v2 w2 o2 g2 at2; obtain ⟨A2, c2, rfl⟩ := own_is_slice o2; have hsg := SG.out _ _ (by first | exact ((Below.refl U.heap.size U).drew).alloc (Nat.le_refl _) _ | exact ((Below.refl U.heap.size U).alloc (Nat.le_refl _) _).drew) g2; have GW := Lib.hid (pair_gw (U := U) (by first | exact ((Below.refl U.heap.size U).drew).alloc (Nat.le_refl _) _ | exact ((Below.refl U.heap.size U).alloc (Nat.le_refl _) _).drew) g2); obtain ⟨hs1, hs2⟩ := hsg; have cpf := hs2.frozen 5; have cpc := hs2.cell 5; simp only [List.getElem?_toArray, List.getElem?_cons_succ, List.getElem?_cons_zero] at cpc)
              refine hK.out _ _ ?_ (fun hHeld => ?_)
              · exact hs1
              clear hK K
              try simp only [Act.put, z1, z2, z3]
              refine wpAnyT_done (by kernel_rfl) ?_
              refine tk 11 ?_
              try simp only [Act.put, z1, z2, z3]
              refine tk 12 ?_
              try simp only [Act.put, z1, z2, z3]
              refine wpAnyH_ready (rs := [13]) (by kernel_rfl) (by simp) ?_
              refine (AllReadyH.cons (i := 13) (o := ?o29) ?h29 (fun K hK => ?k29) AllReadyH.nil)
              case h29 => (simp only [List.getElem?_toArray, List.getElem?_cons_succ, List.getElem?_cons_zero]; try rfl)
              case k29 =>
                go_simp
                try go_wp2_with fail
                refine hK.out _ _ ?_ (fun hHeld => ?_)
                · trivial
                clear hK K
                try simp only [Act.put, z1, z2, z3]
                refine wpAnyH_done (by kernel_rfl) ?_ _
                obtain ⟨Y, hY⟩ : ∃ Y, w2.setCell ⟨p, 5, none⟩ (.slice A2 (E.labels.length + 1) c2) = Y := ⟨_, rfl⟩
                have fY : Fr (Ft p R) U Y := by
                  rw [← hY]
                  exact ((Fr.of_below (S := Ft p R) GW.out.1).grown GW.out.2 (fun y e => .inl (.inr (.inr (.inr (.inr (.inr (by rw [HLV.out]; exact e)))))))).set (p := p) (i := 5) (.inl (.inl rfl)) _
                have hy : WAt Y p B ms { E with labels := E.labels ++ [(t.name, lo)] } o { R with lv := .slice A2 (E.labels.length + 1) c2 } := by
                  rw [← hY]
                  exact ⟨HU.out.hp, hs2.set_ 5 _, ((HU.out.inn.fr GW.out.1).grow_lb (x := (t.name, lo)) (v := .slice A2 (E.labels.length + 1) c2) (own_snoc o2) (by rw [HLV.out]; exact GW.out.2)).recd hs2 5 _, HU.out.ent⟩
                have sY : Sq U p B ms { E with labels := E.labels ++ [(t.name, lo)] } R Y o := ⟨_, hy, fY, Gr.lv_ (k := _) (by rw [HLV.out]; exact at2) GW.out.1.size⟩
                rw [hY]
                have x5 := sY.cel HU.out B8.out (by decide) 5 rfl
                have hwB := HW.out.inn.sz
                have hbU : b < U.heap.size := Nat.lt_of_lt_of_le hbw HW3.out.size
                have hbY : b < Y.heap.size := Nat.lt_of_lt_of_le hbU fY.size
                have bYY := sY.below HU.out
                have CC := sY.st HG.out HU.out (E := { E with labels := E.labels ++ [(t.name, lo)] }) HNE.out (by have h1 := HBD.out; have h2 := HTS.out; simp only [bnd, List.length_append, List.length_singleton] at h1 ⊢; omega) (HKK.out.under (HW3.out.mono hwB)) HWK.out HDK.out HOK.out
                have d0 := sY.old HU.out hbB d0
                have d1 := sY.old HU.out hbB d1
                have d2 := sY.old HU.out hbB d2
                have d3 := sY.old HU.out hbB d3
                have d4 := sY.old HU.out hbB d4
                have d5 := sY.old HU.out hbB d5
                clear hY fY hy hs1 hs2 cpf cpc o2 g2 at2 hi hz0 hz1 hz2 SX SG HOWN GW bYY
                have SY := Lib.hid sY
                clear sY
                cases hr : F.st { E with labels := E.labels ++ [(t.name, lo)] } k o with
                | error cc =>
                  have CC := Lib.hid (WP.errC CC hr)
                  have HE := Lib.hid (show F.st { E with labels := E.labels ++ [(t.name, loopP (innerP 300 k))] } k o = .error cc from by rw [HLO.out]; exact hr)
                  clear hr
                  obtain ⟨c1, c2⟩ := cc
                  unfold bad at CC
                  go_wp2_with (first | (go_at_call 28; (with_reducible refine CC.out.mono ?_); rintro e v5 ⟨rfl, g1⟩; have GE := Lib.hid g1; clear g1))
                  exact ⟨rfl, WP.err HE.out ⟨rfl, (HW3.out.mono HW.out.inn.sz).trans GE.out⟩⟩
                | ok o1 =>
                  have CC := Lib.hid (WP.okC CC hr)
                  have HE := Lib.hid (show F.st { E with labels := E.labels ++ [(t.name, loopP (innerP 300 k))] } k o = .ok o1 from by rw [HLO.out]; exact hr)
                  clear hr
                  go_wp2_with (first | (go_at_call 28; (with_reducible refine CC.out.mono ?_); rintro e v5 ⟨⟨vv, rfl⟩, s5⟩; have S5 := Lib.hid s5; clear s5))
                  obtain ⟨R5, g5, f5, q5⟩ := S5.out
                  obtain ⟨gg, cc, hlv5, _, _, hcc1, hcc2⟩ := own_some g5.inn.lb (by simp)
                  obtain ⟨LL, hLL⟩ : ∃ LL, E.labels.length + 1 = LL := ⟨_, rfl⟩
                  rw [show (E.labels ++ [(t.name, lo)]).length = LL by simp [hLL]] at hlv5 hcc1
                  have HLV5 := Lib.hid hlv5
                  have hb5 := g5.blk
                  rw [hlv5] at hb5
                  have r5 := hb5.cell 5
                  simp only [List.getElem?_toArray, List.getElem?_cons_succ, List.getElem?_cons_zero] at r5
                  have rf5 := hb5.frozen 5
                  have hw1 : IntKind.i64.wrap ((LL : Int) - 1) = (E.labels.length : Int) := by rw [IntKind.wrap_i64]; omega
                  have hk1 : (0 : Int) ≤ (E.labels.length : Int) ∧ (E.labels.length : Int) ≤ (LL : Int) ∧ (LL : Int) ≤ (cc : Int) ∧ (E.labels.length : Int) ≤ (cc : Int) := by omega
                  have GG5 := Lib.hid g5
                  have FF5 := Lib.hid f5
                  have QQ5 := Lib.hid q5
                  clear g5 f5 q5 hlv5 hb5 hLL hcc1 hcc2
                  go_wp2
                  have hTr : True := trivial
                  refine wp_region_tail (S := (fun w' => w'.cell? ⟨p, 5, none⟩ = some (.slice (some ⟨gg, 0, none⟩) LL cc))) 12 3 rfl (by kernel_rfl) ?_ (fun hHeld => ?_)
                  · exact r5
                  refine tt 0 ?_
                  try simp only [Act.put, z1, z2, z3]
                  refine tt 1 ?_
                  try simp only [Act.put, z1, z2, z3]
                  refine tt 2 ?_
                  try simp only [Act.put, z1, z2, z3]
                  refine tt 3 ?_
                  try simp only [Act.put, z1, z2, z3]
                  refine tt 4 ?_
                  try simp only [Act.put, z1, z2, z3]
                  refine tt 5 ?_
                  try simp only [Act.put, z1, z2, z3]
                  refine tt 6 ?_
                  try simp only [Act.put, z1, z2, z3]
                  refine tt 7 ?_
                  try simp only [Act.put, z1, z2, z3]
                  refine tt 8 ?_
                  try simp only [Act.put, z1, z2, z3]
                  refine tt 9 ?_
                  try simp only [Act.put, z1, z2, z3]
                  refine tt 10 ?_
                  try simp only [Act.put, z1, z2, z3]
                  refine tt 11 ?_
                  try simp only [Act.put, z1, z2, z3]
                  refine wpAnyT_done (by kernel_rfl) ?_
                  refine tk 12 ?_
                  try simp only [Act.put, z1, z2, z3]
                  refine tk 13 ?_
                  try simp only [Act.put, z1, z2, z3]
                  refine wpAnyH_ready (rs := [14]) (by kernel_rfl) (by simp) ?_
                  refine (AllReadyH.cons (i := 14) (o := ?o15) ?h15 (fun K hK => ?k15) AllReadyH.nil)
                  case h15 => (simp only [List.getElem?_toArray, List.getElem?_cons_succ, List.getElem?_cons_zero]; try rfl)
                  case k15 =>
                    go_simp
                    try go_wp2_with fail
                    refine hK.out _ _ ?_ (fun hHeld => ?_)
                    · trivial
                    clear hK K
                    try simp only [Act.put, z1, z2, z3]
                    refine wpAnyH_done (by kernel_rfl) ?_ _
                    go_wp2
                    go_end0
                    have hfin := lb_cut (w := U) (R := R) (ls := E.labels) rfl GG5.out HLV5.out FF5.out QQ5.out
                    obtain ⟨R6, w6, f6, q6⟩ := hfin
                    exact WP.ok HE.out ⟨⟨_, rfl⟩, R6, w6, (Fr.of_below HW3.out).tr f6, q6.mono HW3.out.size⟩
end Go.Proofs.YtlenhcmgcgccmaaDoor
