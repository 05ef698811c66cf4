/- Shapes: the document's Move walked. -/
import Derived.Test.YtchbgececcclgaaPn
namespace Go.Proofs.Ytchbgececcclgaa
open Go.RowKit Go
set_option linter.unusedVariables false
set_option linter.unusedSimpArgs false
set_option maxRecDepth 100000 in
set_option maxHeartbeats 16000000 in
theorem rmove_calls (w : World) (B : Nat) (most : Int) (A : Option Addr) (n c : Nat) (L : List Sh) (h : RTree B w A n L) (hW : WF L) (i p : Int) (hp : okU p) (hB : B ≤ w.heap.size) (hb : 2 * L.length + 2 ≤ 1000000000000) :
    Calls Try.prog 21 #[.agg #[.int .i64 most, .slice A n c], .int .i64 i, .int .u64 p] w (RGives w B most (movP most L i p)) := by
  have W1 := below_alloc (o := .cells #[.int .i64 most, .slice A n c] 32) (Below.refl w.heap.size w)
  have W2 := below_alloc (o := .cells #[.int .i64 0, .slice none 0 0] 32) W1
  have b3 := (Blk.new w 32 #[.int .i64 most, .slice A n c]).alloc (.cells #[.int .i64 0, .slice none 0 0] 32)
  have b6 := Blk.new (w.alloc (.cells #[.int .i64 most, .slice A n c] 32)) 32 #[.int .i64 0, .slice none 0 0]
  rw [size_alloc] at b6
  have hlen := h.len
  have HhB := Lib.hid hB
  have HL := Lib.hid h
  cases e : getI L i with
  | none =>
    have hres : movP most L i p = (L, 0, false) := by unfold movP; rw [e]
    rw [hres]
    have hout := getI_none e
    rw [← hlen] at hout
    have HW2 := Lib.hid W2
    obtain ⟨p0, p1, _, _⟩ := b3.two
    obtain ⟨q0, q1, q2, q3⟩ := b6.two
    clear h hW hB hb hlen e W1 W2 b3 b6 hp hres
    by_cases h0 : i < 0
    · clear hout
      go_enter Try.func21, Try.ntmps21
      go_wp2
      refine bodyPost_ret (v := .tuple #[.agg #[.int .i64 most, .slice A n c], .int .i64 0, .bool false]) (by simp [results, Try.results21, go_sem, q0, q1, p0, p1]) rfl ⟨_, _, _, rfl, HL.out.keep (Kept.below ?_ HhB.out), ?_⟩
      all_goals repeat (first | exact HW2.out | exact Below.refl _ _ | refine below_set2 ?_ (by omega) | refine below_alloc ?_)
    · have hout : (n : Int) ≤ i := by omega
      go_enter Try.func21, Try.ntmps21
      go_wp2
      refine bodyPost_ret (v := .tuple #[.agg #[.int .i64 most, .slice A n c], .int .i64 0, .bool false]) (by simp [results, Try.results21, go_sem, q0, q1, p0, p1]) rfl ⟨_, _, _, rfl, HL.out.keep (Kept.below ?_ HhB.out), ?_⟩
      all_goals repeat (first | exact HW2.out | exact Below.refl _ _ | refine below_set2 ?_ (by omega) | refine below_alloc ?_)
  | some x =>
    obtain ⟨h0, hx, hlt⟩ := getI_some e
    obtain ⟨j, rfl⟩ : ∃ j : Nat, i = j := ⟨i.toNat, by omega⟩
    simp only [Int.toNat_natCast] at hx
    have hjn : (j : Int) < (n : Int) := by rw [hlen]; exact hlt
    have hres : movP most L j p = movL most (rootP most L p) x.l := by unfold movP; rw [e]
    have HRes := Lib.hid hres
    obtain ⟨d, b, off, rfl, hd, rfl, hbl, e0, e1, e2, e3⟩ := h.at_ hx
    have hg := rootP_grown most hW hp
    have hdep := hW.depth j _ hx
    have hok := (hW.ok _ (List.mem_of_getElem? hx)).l
    have W3 := below_alloc (o := .cells #[.int .u64 d.p, .slice d.Ak d.nk d.ck, .slice d.Af d.nf d.cf, .slice d.As d.ns d.cz] 76) W2
    have b9 := Blk.new ((w.alloc (.cells #[.int .i64 most, .slice (some ⟨b, off, none⟩) n c] 32)).alloc (.cells #[.int .i64 0, .slice none 0 0] 32)) 76 #[.int .u64 d.p, .slice d.Ak d.nk d.ck, .slice d.Af d.nf d.cf, .slice d.As d.ns d.cz]
    simp only [size_alloc] at b9
    replace b3 := b3.alloc (.cells #[.int .u64 d.p, .slice d.Ak d.nk d.ck, .slice d.Af d.nf d.cf, .slice d.As d.ns d.cz] 76)
    replace b6 := b6.alloc (.cells #[.int .u64 d.p, .slice d.Ak d.nk d.ck, .slice d.Af d.nf d.cf, .slice d.As d.ns d.cz] 76)
    have RC := Lib.hid (rroot_calls (((w.alloc (.cells #[.int .i64 most, .slice (some ⟨b, off, none⟩) n c] 32)).alloc (.cells #[.int .i64 0, .slice none 0 0] 32)).alloc (.cells #[.int .u64 d.p, .slice d.Ak d.nk d.ck, .slice d.Af d.nf d.cf, .slice d.As d.ns d.cz] 76)) B most (some ⟨b, off, none⟩) n c L (h.keep (Kept.below W3 hB)) hW p (Nat.le_trans hB W3.size) (by omega))
    have E0 := (W2.cell (p := ⟨b, off + j * 4, none⟩) hbl).trans e0
    have E1 := (W2.cell (p := ⟨b, off + j * 4 + 1, none⟩) hbl).trans e1
    have E2 := (W2.cell (p := ⟨b, off + j * 4 + 2, none⟩) hbl).trans e2
    have E3 := (W2.cell (p := ⟨b, off + j * 4 + 3, none⟩) hbl).trans e3
    have hnk : d.nk ≤ 1000000000000 := by rw [hd.nk]; omega
    have hsm : L.length + d.nk + 1 ≤ 1000000000000 := by rw [hd.nk]; omega
    have hnf := hd.nf
    have hnk2 := hd.nk
    have Hd := Lib.hid hd
    have HW3 := Lib.hid W3
    have Hb3 := Lib.hid b3
    have Hb6 := Lib.hid b6
    have Hb9 := Lib.hid b9
    obtain ⟨p0, p1, _, _⟩ := b3.two
    have HNf := Lib.hid hnf
    have HNk := Lib.hid hnk2
    have HW := Lib.hid hg.wf
    have HM := Lib.hid hg.many
    have HNo := Lib.hid hg.no
    have HOk := Lib.hid hok
    generalize hr0 : rootP most L p = r0 at *
    clear hr0 h hW hB hb hlen e W1 W2 W3 b3 b6 b9 hp hres hbl hg hdep hok h0 hx hlt hnf hnk2 hd e0 e1 e2 e3
    go_enter Try.func21, Try.ntmps21
    go_wp2_with (first | (go_at_call 16; (with_reducible refine RC.out.mono ?_); rintro e w1 ⟨A1, n1, c1, rfl, ht, bb⟩; obtain ⟨q0, q1, q2, q3⟩ := (Hb3.out.below bb Hb3.out.lt).two; have ht := Lib.hid ht; have bb := Lib.hid bb; clear p0 p1))
    have hfin1 : Below w.heap.size w w1 := HW3.out.trans (bb.out.mono HW3.out.size)
    have at0 := Hb3.out.below bb.out Hb3.out.lt
    have at6 := Hb6.out.below bb.out Hb6.out.lt
    have at9 := Hb9.out.below bb.out Hb9.out.lt
    have at0 := Lib.hid at0
    have at6 := Lib.hid at6
    have at9 := Lib.hid at9
    have hfin1 := Lib.hid hfin1
    clear q0 q1 q2 q3 E0 E1 E2 E3
    go_loopg [10, 11, 12] d.nk (fun fu m okv ix wr => ∃ (k : Nat) (r : Res) (A1 : Option Addr) (n1 c1 : Nat), ix = .int .i64 k ∧ k + fu = d.nk ∧ m = .int .i64 r.2.1 ∧ okv = .bool r.2.2 ∧ Blk wr w.heap.size 32 #[.int .i64 most, .slice A1 n1 c1] ∧ RTree B wr A1 n1 r.1 ∧ WF r.1 ∧ r.1.length ≤ L.length + 1 + k ∧ (r.2.2 = false → r.2.1 = 0) ∧ movL most r0 d.x.l = movL most r (d.x.l.drop k) ∧ Below w.heap.size w wr ∧ Blk wr (w.heap.size + 1) 32 #[.int .i64 0, .slice none 0 0] ∧ Blk wr (w.heap.size + 1 + 1) 76 #[.int .u64 d.p, .slice d.Ak d.nk d.ck, .slice d.Af d.nf d.cf, .slice d.As d.ns d.cz])
    case atStart =>
      refine ⟨0, r0, A1, n1, c1, rfl, by omega, rfl, rfl, (at0.out.set_ 0 _).set_ 1 _, (ht.out.set32 at0.out (by have := HhB.out; omega) _ _).set32 (at0.out.set_ 0 _) (by have := HhB.out; omega) _ _, HW.out, HM.out, HNo.out, rfl, below_set2 (below_set2 hfin1.out (by omega)) (by omega), (at6.out.far (p := ⟨w.heap.size, 0, none⟩) (by show w.heap.size + 1 ≠ w.heap.size; omega) _).far (p := ⟨w.heap.size, 1, none⟩) (by show w.heap.size + 1 ≠ w.heap.size; omega) _, (at9.out.far (p := ⟨w.heap.size, 0, none⟩) (by show w.heap.size + 1 + 1 ≠ w.heap.size; omega) _).far (p := ⟨w.heap.size, 1, none⟩) (by show w.heap.size + 1 + 1 ≠ w.heap.size; omega) _⟩
    case round =>
      obtain ⟨k, r, A1, n1, c1, rfl, hf, rfl, rfl, hb3, hT, hw, hm, hno, hmov, hbel, hb6, hb9⟩ := hrel
      have HF := Lib.hid hf
      have HT := Lib.hid hT
      have HM2 := Lib.hid hm
      have HNo2 := Lib.hid hno
      have HMov := Lib.hid hmov
      have HBel := Lib.hid hbel
      have HB3 := Lib.hid hb3
      have HB6 := Lib.hid hb6
      have HB9 := Lib.hid hb9
      obtain ⟨y0, y1, y2, y3⟩ := hb3.two
      obtain ⟨x0, x1, x2, x3⟩ := hb6.two
      obtain ⟨_, v1, v2, _⟩ := hb9.four
      cases hr : r.2.2 with
      | false =>
        have HR := Lib.hid hr
        clear hf hT hw hm hno hmov hbel hb3 hb6 hb9 hr
        go_wp2
        rw [HRes.out, HMov.out, movL_no HR.out (HNo2.out HR.out)]
        refine bodyPost_ret (v := .tuple #[.agg #[.int .i64 most, .slice A1 n1 c1], .int .i64 0, .bool false]) (by simp [results, Try.results21, go_sem, x0, x1]) rfl ⟨_, _, _, rfl, (HT.out.set32 HB6.out (by have := HhB.out; omega) _ _).set32 (HB6.out.set_ 0 _) (by have := HhB.out; omega) _ _, below_set2 (below_set2 HBel.out (by omega)) (by omega)⟩
      | true =>
        by_cases hk : k < d.nk
        · obtain ⟨q, hq⟩ : ∃ q, d.x.l[k]? = some q := ⟨_, List.getElem?_eq_getElem (by have := HNk.out; omega)⟩
          have hkq : (keysV d.x.l)[k]? = some (.string q.k) := by unfold keysV; rw [List.getElem?_map, hq]; rfl
          have hfq : (flagsV d.x.l)[k]? = some (.int .i64 q.f) := by unfold flagsV; rw [List.getElem?_map, hq]; rfl
          have hKp := Kept.below hbel HhB.out
          obtain ⟨bk, offk, hAk, hbk, hkc⟩ := fix_get1 (Hd.out.k.keep hKp) hkq
          obtain ⟨bf, off2, hAf, hbf, hfc⟩ := fix_get1 (Hd.out.f.keep hKp) hfq
          rw [hAk] at v1
          rw [hAf] at v2
          obtain ⟨k1', f1'⟩ := HOk.out q (List.mem_of_getElem? hq)
          have HG := Lib.hid (addP_grown most hw (n := r.2.1) k1' f1')
          have AC := Lib.hid (fun w' (b' : Below wr.heap.size wr w') => radd_calls w' B most A1 n1 c1 r.1 (hT.keep (Kept.below b' (Nat.le_trans HhB.out hbel.size))) hw r.2.1 q.k q.f (Nat.le_trans HhB.out (Nat.le_trans hbel.size b'.size)) (by omega))
          have HStep := Lib.hid (show movL most r0 d.x.l = movL most (addP most r.1 r.2.1 q.k q.f) (d.x.l.drop (k + 1)) by rw [hmov, drop_at' hq, movL, if_pos hr])
          have hkn : (k : Int) < (d.nk : Int) := by omega
          have hkf : (k : Int) < (d.nf : Int) := by rw [HNf.out, ← HNk.out]; omega
          obtain ⟨f', hf'⟩ : ∃ f', gk = f' + 1 := ⟨gk - 1, by omega⟩
          have HF' := Lib.hid hf'
          have SX := Lib.hid (fun w' (b' : Below wr.heap.size wr w') => show (fun w' => Below wr.heap.size wr w' ∧ w'.cell? ⟨w.heap.size, 0, none⟩ = some (.int .i64 most) ∧ w'.cell? ⟨w.heap.size, 1, none⟩ = some (.slice A1 n1 c1) ∧ w'.cell? ⟨w.heap.size + 1 + 1, 1, none⟩ = some (.slice (some ⟨bk, offk, none⟩) d.nk d.ck) ∧ w'.cell? ⟨w.heap.size + 1 + 1, 2, none⟩ = some (.slice (some ⟨bf, off2, none⟩) d.nf d.cf) ∧ w'.cell? ⟨bk, offk + k, none⟩ = some (.string q.k) ∧ w'.cell? ⟨bf, off2 + k, none⟩ = some (.int .i64 q.f)) w' from
            ⟨b', (b'.cell (p := ⟨w.heap.size, 0, none⟩) hb3.lt).trans y0, (b'.cell (p := ⟨w.heap.size, 1, none⟩) hb3.lt).trans y1, (b'.cell (p := ⟨w.heap.size + 1 + 1, 1, none⟩) hb9.lt).trans v1, (b'.cell (p := ⟨w.heap.size + 1 + 1, 2, none⟩) hb9.lt).trans v2, (b'.cell (p := ⟨bk, offk + k, none⟩) hbk).trans hkc, (b'.cell (p := ⟨bf, off2 + k, none⟩) hbf).trans hfc⟩)
          clear hf hf' hT hw hm hno hmov hbel hb3 hb6 hb9 hr hq hkq hfq hKp hAk hbk hAf hbf k1' f1' hkc hfc
          go_wp2
          refine wp_region_tail (S := (fun w' => Below wr.heap.size wr w' ∧ w'.cell? ⟨w.heap.size, 0, none⟩ = some (.int .i64 most) ∧ w'.cell? ⟨w.heap.size, 1, none⟩ = some (.slice A1 n1 c1) ∧ w'.cell? ⟨w.heap.size + 1 + 1, 1, none⟩ = some (.slice (some ⟨bk, offk, none⟩) d.nk d.ck) ∧ w'.cell? ⟨w.heap.size + 1 + 1, 2, none⟩ = some (.slice (some ⟨bf, off2, none⟩) d.nf d.cf) ∧ w'.cell? ⟨bk, offk + k, none⟩ = some (.string q.k) ∧ w'.cell? ⟨bf, off2 + k, none⟩ = some (.int .i64 q.f))) 12 8 rfl (by kernel_rfl) ?_ (fun hHeld => ?_)
          · exact SX.out _ (Below.refl _ _).drew
          refine wpAnyT_take (i := 0) (oi := ?o1) (v := ?v1) ?h1 (by kernel_rfl) (by kernel_rfl) (by kernel_rfl) ?q1 ?y1 (by assumption) ?_
          case h1 => (simp only [List.getElem?_toArray, List.getElem?_cons_succ, List.getElem?_cons_zero]; try rfl)
          case q1 => exact fun _ _ _ h => h
          case y1 => refine Or.inl ⟨by rfl, ?_⟩; (intro w hSw; (try dsimp only at hSw); go_simp; try with_reducible rfl)
          try simp only [Act.put, List.setIfInBounds_toArray, List.set_cons_zero, List.set_cons_succ]
          refine wpAnyT_take (i := 1) (oi := ?o2) (v := ?v2) ?h2 (by kernel_rfl) (by kernel_rfl) (by kernel_rfl) ?q2 ?y2 (by assumption) ?_
          case h2 => (simp only [List.getElem?_toArray, List.getElem?_cons_succ, List.getElem?_cons_zero]; try rfl)
          case q2 => exact fun _ _ _ h => h
          case y2 => refine Or.inl ⟨by rfl, ?_⟩; (intro w hSw; (try dsimp only at hSw); go_simp; try with_reducible rfl)
          try simp only [Act.put, List.setIfInBounds_toArray, List.set_cons_zero, List.set_cons_succ]
          refine wpAnyT_take (i := 2) (oi := ?o3) (v := ?v3) ?h3 (by kernel_rfl) (by kernel_rfl) (by kernel_rfl) ?q3 ?y3 (by assumption) ?_
          case h3 => (simp only [List.getElem?_toArray, List.getElem?_cons_succ, List.getElem?_cons_zero]; try rfl)
          case q3 => exact fun _ _ _ h => h
          case y3 => refine Or.inl ⟨by rfl, ?_⟩; (intro w hSw; (try dsimp only at hSw); go_simp; try with_reducible rfl)
          try simp only [Act.put, List.setIfInBounds_toArray, List.set_cons_zero, List.set_cons_succ]
          refine wpAnyT_take (i := 3) (oi := ?o4) (v := ?v4) ?h4 (by kernel_rfl) (by kernel_rfl) (by kernel_rfl) ?q4 ?y4 (by assumption) ?_
          case h4 => (simp only [List.getElem?_toArray, List.getElem?_cons_succ, List.getElem?_cons_zero]; try rfl)
          case q4 => exact fun _ _ _ h => h
          case y4 => refine Or.inl ⟨by rfl, ?_⟩; (intro w hSw; (try dsimp only at hSw); go_simp; try with_reducible rfl)
          try simp only [Act.put, List.setIfInBounds_toArray, List.set_cons_zero, List.set_cons_succ]
          refine wpAnyT_take (i := 4) (oi := ?o5) (v := ?v5) ?h5 (by kernel_rfl) (by kernel_rfl) (by kernel_rfl) ?q5 ?y5 (by assumption) ?_
          case h5 => (simp only [List.getElem?_toArray, List.getElem?_cons_succ, List.getElem?_cons_zero]; try rfl)
          case q5 => exact fun _ _ _ h => h
          case y5 => refine Or.inl ⟨by rfl, ?_⟩; (intro w hSw; (try dsimp only at hSw); go_simp; try with_reducible rfl)
          try simp only [Act.put, List.setIfInBounds_toArray, List.set_cons_zero, List.set_cons_succ]
          refine wpAnyT_take (i := 5) (oi := ?o6) (v := ?v6) ?h6 (by kernel_rfl) (by kernel_rfl) (by kernel_rfl) ?q6 ?y6 (by assumption) ?_
          case h6 => (simp only [List.getElem?_toArray, List.getElem?_cons_succ, List.getElem?_cons_zero]; try rfl)
          case q6 => exact fun _ _ _ h => h
          case y6 => refine Or.inl ⟨by rfl, ?_⟩; (intro w hSw; (try dsimp only at hSw); go_simp; try with_reducible rfl)
          try simp only [Act.put, List.setIfInBounds_toArray, List.set_cons_zero, List.set_cons_succ]
          refine wpAnyT_take (i := 6) (oi := ?o7) (v := ?v7) ?h7 (by kernel_rfl) (by kernel_rfl) (by kernel_rfl) ?q7 ?y7 (by assumption) ?_
          case h7 => (simp only [List.getElem?_toArray, List.getElem?_cons_succ, List.getElem?_cons_zero]; try rfl)
          case q7 => exact fun _ _ _ h => h
          case y7 => refine Or.inl ⟨by rfl, ?_⟩; (intro w hSw; (try dsimp only at hSw); go_simp; try with_reducible rfl)
          try simp only [Act.put, List.setIfInBounds_toArray, List.set_cons_zero, List.set_cons_succ]
          refine wpAnyT_take (i := 7) (oi := ?o8) (v := ?v8) ?h8 (by kernel_rfl) (by kernel_rfl) (by kernel_rfl) ?q8 ?y8 (by assumption) ?_
          case h8 => (simp only [List.getElem?_toArray, List.getElem?_cons_succ, List.getElem?_cons_zero]; try rfl)
          case q8 => exact fun _ _ _ h => h
          case y8 => refine Or.inl ⟨by rfl, ?_⟩; (intro w hSw; (try dsimp only at hSw); go_simp; try with_reducible rfl)
          try simp only [Act.put, List.setIfInBounds_toArray, List.set_cons_zero, List.set_cons_succ]
          refine wpAnyT_take (i := 8) (oi := ?o9) (v := ?v9) ?h9 (by kernel_rfl) (by kernel_rfl) (by kernel_rfl) ?q9 ?y9 (by assumption) ?_
          case h9 => (simp only [List.getElem?_toArray, List.getElem?_cons_succ, List.getElem?_cons_zero]; try rfl)
          case q9 => exact fun _ _ _ h => h
          case y9 => refine Or.inl ⟨by rfl, ?_⟩; (intro w hSw; (try dsimp only at hSw); go_simp; try with_reducible rfl)
          try simp only [Act.put, List.setIfInBounds_toArray, List.set_cons_zero, List.set_cons_succ]
          refine wpAnyT_take (i := 9) (oi := ?o10) (v := ?v10) ?h10 (by kernel_rfl) (by kernel_rfl) (by kernel_rfl) ?q10 ?y10 (by assumption) ?_
          case h10 => (simp only [List.getElem?_toArray, List.getElem?_cons_succ, List.getElem?_cons_zero]; try rfl)
          case q10 => exact fun _ _ _ h => h
          case y10 => refine Or.inl ⟨by rfl, ?_⟩; (intro w hSw; (try dsimp only at hSw); go_simp; try with_reducible rfl)
          try simp only [Act.put, List.setIfInBounds_toArray, List.set_cons_zero, List.set_cons_succ]
          refine wpAnyT_take (i := 10) (oi := ?o11) (v := ?v11) ?h11 (by kernel_rfl) (by kernel_rfl) (by kernel_rfl) ?q11 ?y11 (by assumption) ?_
          case h11 => (simp only [List.getElem?_toArray, List.getElem?_cons_succ, List.getElem?_cons_zero]; try rfl)
          case q11 => exact fun _ _ _ h => h
          case y11 => refine Or.inl ⟨by rfl, ?_⟩; (intro w hSw; (try dsimp only at hSw); go_simp; try with_reducible rfl)
          try simp only [Act.put, List.setIfInBounds_toArray, List.set_cons_zero, List.set_cons_succ]
          refine wpAnyT_take (i := 11) (oi := ?o12) (v := ?v12) ?h12 (by kernel_rfl) (by kernel_rfl) (by kernel_rfl) ?q12 ?y12 (by assumption) ?_
          case h12 => (simp only [List.getElem?_toArray, List.getElem?_cons_succ, List.getElem?_cons_zero]; try rfl)
          case q12 => exact fun _ _ _ h => h
          case y12 => refine Or.inl ⟨by rfl, ?_⟩; (intro w hSw; (try dsimp only at hSw); go_simp; try with_reducible rfl)
          try simp only [Act.put, List.setIfInBounds_toArray, List.set_cons_zero, List.set_cons_succ]
          refine wpAnyT_done (by kernel_rfl) ?_
          refine wpAnyH_ready (rs := [12]) (by kernel_rfl) (by simp) ?_
          refine (AllReadyH.cons (i := 12) (o := ?o13) ?h13 (fun K hK => ?k13) AllReadyH.nil)
          case h13 => (simp only [List.getElem?_toArray, List.getElem?_cons_succ, List.getElem?_cons_zero]; try rfl)
          case k13 =>
            go_simp
            ((with_reducible refine (AC.out _ (Below.refl _ _).drew).mono ?_); rintro e w9 ⟨A9, n9, c9, rfl, ht, bb⟩; obtain ⟨x0, x1, x2, x3⟩ := (HB3.out.drew.below bb HB3.out.lt).two; have ht := Lib.hid ht; have bb := Lib.hid bb)
            try go_wp2_with fail
            refine hK.out _ _ ?_ (fun hHeld => ?_)
            · trivial
            clear hK K
            try simp only [Act.put, List.setIfInBounds_toArray, List.set_cons_zero, List.set_cons_succ]
            refine wpAnyH_take (i := 13) (oi := ?o14) (v := ?v14) ?h14 (by kernel_rfl) (by kernel_rfl) (by kernel_rfl) ?q14 ?y14 (by assumption) ?_
            case h14 => (simp only [List.getElem?_toArray, List.getElem?_cons_succ, List.getElem?_cons_zero]; try rfl)
            case q14 => exact fun _ _ _ h => h
            case y14 => refine Or.inl ⟨by rfl, ?_⟩; (intro w hSw; (try dsimp only at hSw); go_simp; try with_reducible rfl)
            try simp only [Act.put, List.setIfInBounds_toArray, List.set_cons_zero, List.set_cons_succ]
            refine wpAnyH_take (i := 14) (oi := ?o15) (v := ?v15) ?h15 (by kernel_rfl) (by kernel_rfl) (by kernel_rfl) ?q15 ?y15 (by assumption) ?_
            case h15 => (simp only [List.getElem?_toArray, List.getElem?_cons_succ, List.getElem?_cons_zero]; try rfl)
            case q15 => exact fun _ _ _ h => h
            case y15 => refine Or.inl ⟨by rfl, ?_⟩; (intro w hSw; (try dsimp only at hSw); go_simp; try with_reducible rfl)
            try simp only [Act.put, List.setIfInBounds_toArray, List.set_cons_zero, List.set_cons_succ]
            refine wpAnyH_take (i := 15) (oi := ?o16) (v := ?v16) ?h16 (by kernel_rfl) (by kernel_rfl) (by kernel_rfl) ?q16 ?y16 (by assumption) ?_
            case h16 => (simp only [List.getElem?_toArray, List.getElem?_cons_succ, List.getElem?_cons_zero]; try rfl)
            case q16 => exact fun _ _ _ h => h
            case y16 => refine Or.inl ⟨by rfl, ?_⟩; (intro w hSw; (try dsimp only at hSw); go_simp; try with_reducible rfl)
            try simp only [Act.put, List.setIfInBounds_toArray, List.set_cons_zero, List.set_cons_succ]
            refine wpAnyH_take (i := 16) (oi := ?o17) (v := ?v17) ?h17 (by kernel_rfl) (by kernel_rfl) (by kernel_rfl) ?q17 ?y17 (by assumption) ?_
            case h17 => (simp only [List.getElem?_toArray, List.getElem?_cons_succ, List.getElem?_cons_zero]; try rfl)
            case q17 => exact fun _ _ _ h => h
            case y17 => refine Or.inl ⟨by rfl, ?_⟩; (intro w hSw; (try dsimp only at hSw); go_simp; try with_reducible rfl)
            try simp only [Act.put, List.setIfInBounds_toArray, List.set_cons_zero, List.set_cons_succ]
            refine wpAnyH_ready (rs := [17]) (by kernel_rfl) (by simp) ?_
            refine (AllReadyH.cons (i := 17) (o := ?o18) ?h18 (fun K hK => ?k18) AllReadyH.nil)
            case h18 => (simp only [List.getElem?_toArray, List.getElem?_cons_succ, List.getElem?_cons_zero]; try rfl)
            case k18 =>
              go_simp
              try go_wp2_with fail
              refine hK.out _ _ ?_ (fun hHeld => ?_)
              · trivial
              clear hK K
              try simp only [Act.put, List.setIfInBounds_toArray, List.set_cons_zero, List.set_cons_succ]
              refine wpAnyH_take (i := 18) (oi := ?o19) (v := ?v19) ?h19 (by kernel_rfl) (by kernel_rfl) (by kernel_rfl) ?q19 ?y19 (by assumption) ?_
              case h19 => (simp only [List.getElem?_toArray, List.getElem?_cons_succ, List.getElem?_cons_zero]; try rfl)
              case q19 => exact fun _ _ _ h => h
              case y19 => refine Or.inl ⟨by rfl, ?_⟩; (intro w hSw; (try dsimp only at hSw); go_simp; try with_reducible rfl)
              try simp only [Act.put, List.setIfInBounds_toArray, List.set_cons_zero, List.set_cons_succ]
              refine wpAnyH_take (i := 19) (oi := ?o20) (v := ?v20) ?h20 (by kernel_rfl) (by kernel_rfl) (by kernel_rfl) ?q20 ?y20 (by assumption) ?_
              case h20 => (simp only [List.getElem?_toArray, List.getElem?_cons_succ, List.getElem?_cons_zero]; try rfl)
              case q20 => exact fun _ _ _ h => h
              case y20 => refine Or.inl ⟨by rfl, ?_⟩; (intro w hSw; (try dsimp only at hSw); go_simp; try with_reducible rfl)
              try simp only [Act.put, List.setIfInBounds_toArray, List.set_cons_zero, List.set_cons_succ]
              refine wpAnyH_done (by kernel_rfl) ?_ _
              go_wp2
              go_roundg f'
              case measure => have := HF'.out; omega
              case rel => exact ⟨k + 1, _, A9, n9, c9, by simp, by have := HF'.out; have := HF.out; omega, rfl, rfl, ((HB3.out.drew.below bb.out HB3.out.lt).set_ 0 _).set_ 1 _, (ht.out.set32 (HB3.out.drew.below bb.out HB3.out.lt) (by have := HhB.out; omega) _ _).set32 ((HB3.out.drew.below bb.out HB3.out.lt).set_ 0 _) (by have := HhB.out; omega) _ _, HG.out.wf, by have := HG.out.many; have := HM2.out; omega, HG.out.no, HStep.out, below_set2 (below_set2 (HBel.out.drew.trans (bb.out.mono HBel.out.size)) (by omega)) (by omega), ((HB6.out.drew.below bb.out HB6.out.lt).far (p := ⟨w.heap.size, 0, none⟩) (by show w.heap.size + 1 ≠ w.heap.size; omega) _).far (p := ⟨w.heap.size, 1, none⟩) (by show w.heap.size + 1 ≠ w.heap.size; omega) _, ((HB9.out.drew.below bb.out HB9.out.lt).far (p := ⟨w.heap.size, 0, none⟩) (by show w.heap.size + 1 + 1 ≠ w.heap.size; omega) _).far (p := ⟨w.heap.size, 1, none⟩) (by show w.heap.size + 1 + 1 ≠ w.heap.size; omega) _⟩
        · have hk' : ¬ (k : Int) < (d.nk : Int) := by omega
          obtain rfl : k = d.nk := by omega
          have HE := Lib.hid (show movL most r0 d.x.l = r by rw [hmov, List.drop_of_length_le (by have := HNk.out; omega)]; rfl)
          have HR := Lib.hid hr
          clear hf hT hw hm hno hmov hbel hb3 hb6 hb9 hr hk
          go_wp2
          rw [HRes.out, HE.out]
          refine bodyPost_ret (v := .tuple #[.agg #[.int .i64 most, .slice A1 n1 c1], .int .i64 r.2.1, .bool true]) (by simp [results, Try.results21, go_sem, x0, x1]) rfl ⟨_, _, _, by rw [HR.out], (HT.out.set32 HB6.out (by have := HhB.out; omega) _ _).set32 (HB6.out.set_ 0 _) (by have := HhB.out; omega) _ _, below_set2 (below_set2 HBel.out (by omega)) (by omega)⟩
end Go.Proofs.Ytchbgececcclgaa
