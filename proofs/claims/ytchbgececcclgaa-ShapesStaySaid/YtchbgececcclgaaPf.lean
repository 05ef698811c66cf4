/- Shapes: Add walked. -/
import Derived.Test.YtchbgececcclgaaPe
import Derived.Test.YtchbgececcclgaaRg
namespace Go.Proofs.Ytchbgececcclgaa
open Go.RowKit Go
set_option linter.unusedVariables false
set_option linter.unusedSimpArgs false
theorem below_via {w w1 w2 : World} (h : Below w.heap.size w w1) (k : Below w1.heap.size w1 w2) : Below w.heap.size w w2 := h.trans (k.mono h.size)
theorem below_alloc {w w1 : World} {o : Obj} (h : Below w.heap.size w w1) : Below w.heap.size w (w1.alloc o) := h.alloc h.size o
theorem reads_blk1 {w : World} {b : Nat} {t : TypeId} {x y : Value} (h : Blk w b t #[x, y]) : Reads w w.heap.size 2 (some ⟨b, 0, none⟩) 1 [x, y] := by
  refine ⟨rfl, fun _ => ⟨_, rfl, h.lt, fun j u hj => ?_⟩⟩
  have e : (⟨b, 0, none⟩ : Addr).add j = ⟨b, j, none⟩ := by unfold Addr.add; split <;> simp_all
  rw [e, h.cell j]
  simpa using hj
theorem blk_later {w w1 : World} {cs : Array Value} {t : TypeId} (h : Below (w.alloc (.cells cs t)).heap.size (w.alloc (.cells cs t)) w1) : Blk w1 w.heap.size t cs := (Blk.new w t cs).below h (by rw [size_alloc]; omega)
theorem blk_laterd {w w1 : World} {cs : Array Value} {t : TypeId} (h : Below (w.alloc (.cells cs t)).drew.heap.size (w.alloc (.cells cs t)).drew w1) : Blk w1 w.heap.size t cs := ((Blk.new w t cs).drew).below h (by show w.heap.size < (w.alloc _).heap.size; rw [size_alloc]; omega)
theorem getI_there {L : List Sh} {D : List Nd} {n : Int} (h : D.length = L.length) : inR n D.length = (getI L n).isSome := by rw [h]; exact inR_of
set_option maxRecDepth 100000 in
set_option maxHeartbeats 8000000 in
theorem add_calls (w : World) (B g : Nat) (most : Int) (L : List Sh) (h : TreeIs w B g most L) (hW : WF L) (n : Int) (k : ByteArray) (f : Int) (hk : okK k) (hf : okF f) (hb : L.length ≤ 1000000000000) :
    Calls Try.prog 10 #[.pointer (some ⟨g, 0, none⟩), .int .i64 n, .string k, .int .i64 f] w (Gives w B g most (addP most L n k f)) := by
  obtain ⟨i66, hi, hz0, hz1, hz2⟩ := info_parts info66
  have H := Lib.hid h
  obtain ⟨v, D, rb, R, hr, lk⟩ := h
  have HTh := there_calls w B g most v D rb R hr n
  rw [getI_there lk.len] at HTh
  cases e : getI L n with
  | none =>
    rw [e] at HTh
    have HTh := Lib.hid HTh
    have hres : addP most L n k f = (L, 0, false) := by unfold addP; rw [e]
    rw [hres]
    clear hr lk hres e hW hk hf hb
    go_enter Try.func10, Try.ntmps10
    go_wp2_with (first | (go_at_call 23; (with_reducible refine HTh.out.mono ?_); rintro e w1 ⟨rfl, rfl⟩))
    go_ret2
    exact ⟨rfl, H.out, Kept.refl _ _⟩
  | some x =>
    rw [e] at HTh
    have HTh := Lib.hid HTh
    obtain ⟨h0, hx, hlt⟩ := getI_some e
    obtain ⟨i, rfl⟩ : ∃ i : Nat, n = i := ⟨n.toNat, by omega⟩
    simp only [Int.toNat_natCast] at hx
    obtain ⟨d, hd, d1, d2, d3⟩ := lk.get hx
    have nd := hr.node d (List.mem_of_getElem? hd)
    obtain ⟨gs, cv, rfl, e0, e1, e2⟩ := hr.at_ hd
    obtain ⟨c0, c1, c2⟩ := hr.c0
    have hdep := (hW.depth i x hx).1
    have hln : d.n = x.l.length := by rw [← d2]; exact (reads_len pv_len (by decide) nd.l.1).symm
    have hn : d.n ≤ 1000000000000 := by omega
    have hfix := nd.l
    rw [d2] at hfix
    have hP := place_calls w d.p (some d.m) k d.A d.n d.c x.l hfix.1 (by omega)
    have hbase := hr.base
    have hgl := hr.blk.lt
    have hgs : gs < w.heap.size := World.block_lt_of_cell? w _ e0
    have hi2 : (i : Int) < (D.length : Int) := by rw [lk.len]; exact hlt
    have hres : addP most L i k f = if 0 ≤ plc k 0 x.l then (L, 0, false) else layP most L (addS x k f) := by unfold addP; rw [e]
    obtain ⟨dp, dA, dn, dc, dm, dl, de⟩ := d
    simp only at d1 d2 d3 e0 e1 e2 hln hn hP hfix
    obtain ⟨m, hm⟩ : ∃ m, D.length = m := ⟨_, rfl⟩
    rw [hm] at c1 hi2
    clear hr lk hm hd nd d1 d2 d3 hln hdep c0 c2 h0
    have HN := Lib.hid hn
    have HF := Lib.hid hfix
    clear hn hfix
    by_cases hp : 0 ≤ plc k 0 x.l
    · rw [if_pos hp] at hres
      have HRes := Lib.hid hres
      clear hres
      have K := Lib.hid hP
      have HB := Lib.hid hbase
      clear hP hW hk hf hb e hx hlt hbase hgl hgs
      generalize plc k 0 x.l = q at *
      go_enter Try.func10, Try.ntmps10
      go_wp2_with (first | (go_at_call 23; (with_reducible refine HTh.out.mono ?_); rintro e w1 ⟨rfl, rfl⟩) | (go_at_call 24; (with_reducible refine K.out.mono ?_); rintro e w1 ⟨rfl, hb1⟩))
      go_ret2
      exact ⟨by rw [HRes.out]; rfl, by rw [HRes.out]; exact H.out.below hb1, Kept.below hb1 HB.out⟩
    · rw [if_neg hp] at hres
      have HRes := Lib.hid hres
      clear hres
      have WC := Lib.hid (fun (w2 : World) (A2 : Option Addr) (n2 c2 : Nat) (hT : TreeIs w2 B g most L) (hl : Fix B w2 2 A2 n2 ((x.l ++ [(⟨k, f⟩ : Pr)]).flatMap pv)) => show Calls Try.prog 25 #[.pointer (some ⟨g, 0, none⟩), .int .i64 i, .agg #[.bool false, .string k, .int .i64 f], .slice A2 n2 c2] w2 (Gives w2 B g most (layP most L (addS x k f))) from way_calls w2 B g most L hT hW i x hx ⟨false, k, f⟩ hk hf A2 n2 c2 (x.l ++ [(⟨k, f⟩ : Pr)]) hl hb)
      have K := Lib.hid hP
      have HB := Lib.hid hbase
      clear hP hW hk hf hb e hx hlt hbase
      have hp' : plc k 0 x.l < 0 := by omega
      generalize hq : plc k 0 x.l = q at *
      clear hq
      go_enter Try.func10, Try.ntmps10
      go_wp2_with (first | (go_at_call 23; (with_reducible refine HTh.out.mono ?_); rintro e w1 ⟨rfl, rfl⟩) | (go_at_call 24; (with_reducible refine K.out.mono ?_); rintro e w1 ⟨rfl, hb1⟩))
      have kb := Blk.new w1 66 #[.string k, .int .i64 f]
      have bW : Below w.heap.size w (w1.alloc (.cells #[.string k, .int .i64 f] 66)) := below_alloc hb1
      clear hb1
      generalize (w1.alloc (.cells #[.string k, .int .i64 f] 66)) = W at kb bW ⊢
      generalize w1.heap.size = bp at kb bW ⊢
      have HT := Lib.hid (fun w' (b : Below W.heap.size W w') => H.out.below (bW.trans (b.mono bW.size)))
      have KB := Lib.hid (fun w' (b : Below W.heap.size W w') => Kept.below (bW.trans (b.mono bW.size)) HB.out)
      have RD := Lib.hid (fun w' (b : Below W.heap.size W w') => (HF.out.keep (Kept.below (bW.trans (b.mono bW.size)) HB.out)).1)
      have FX := Lib.hid (fun (w2 : World) (A2 : Option Addr) (c2 : Nat) (b : Below W.heap.size W w2) (o2 : w2.ownsRow W.heap.size 66 2 (.slice A2 (dn + 1) c2) (dn + 1) (x.l.flatMap pv ++ [.string k, .int .i64 f])) => show Fix B w2 2 A2 (dn + 1) ((x.l ++ [(⟨k, f⟩ : Pr)]).flatMap pv) from by
        rw [List.flatMap_append]; exact Fix.of_own (by decide) o2)
      have SX := Lib.hid (fun w' (b : Below W.heap.size W w') => show (fun w' => Below W.heap.size W w' ∧ w'.cell? ⟨bp, 0, none⟩ = some (.string k) ∧ w'.cell? ⟨bp, 1, none⟩ = some (.int .i64 f) ∧ w'.cell? ⟨g, 1, none⟩ = some (.slice (some ⟨gs, 0, none⟩) m cv) ∧ w'.cell? ⟨gs, i * 3 + 1, none⟩ = some (.slice dA dn dc)) w' from
        ⟨b, (b.cell (p := ⟨bp, 0, none⟩) kb.lt).trans (kb.cell 0), (b.cell (p := ⟨bp, 1, none⟩) kb.lt).trans (kb.cell 1),
          ((bW.trans (b.mono bW.size)).cell (p := ⟨g, 1, none⟩) hgl).trans c1, ((bW.trans (b.mono bW.size)).cell (p := ⟨gs, i * 3 + 1, none⟩) hgs).trans e1⟩)
      clear kb bW H HF c1 e0 e1 e2 hp' K HTh hgl hgs
      refine wp_region_tail (S := (fun w' => Below W.heap.size W w' ∧ w'.cell? ⟨bp, 0, none⟩ = some (.string k) ∧ w'.cell? ⟨bp, 1, none⟩ = some (.int .i64 f) ∧ w'.cell? ⟨g, 1, none⟩ = some (.slice (some ⟨gs, 0, none⟩) m cv) ∧ w'.cell? ⟨gs, i * 3 + 1, none⟩ = some (.slice dA dn dc))) 16 5 rfl (by kernel_rfl) ?_ (fun hHeld => ?_)
      · exact SX.out _ (Below.refl _ _).drew
      refine wpAnyT_take (i := 0) (oi := ?o1) (v := ?v1) ?h1 (by kernel_rfl) (by kernel_rfl) (by kernel_rfl) ?q1 ?y1 (by assumption) ?_
      case h1 => (simp only [List.getElem?_toArray, List.getElem?_cons_succ, List.getElem?_cons_zero]; try rfl)
      case q1 => exact fun _ _ _ h => h
      case y1 => refine Or.inl ⟨by rfl, ?_⟩; (intro w hSw; (try dsimp only at hSw); go_simp; try with_reducible rfl)
      try simp only [Act.put, List.setIfInBounds_toArray, List.set_cons_zero, List.set_cons_succ]
      refine wpAnyT_take (i := 1) (oi := ?o2) (v := ?v2) ?h2 (by kernel_rfl) (by kernel_rfl) (by kernel_rfl) ?q2 ?y2 (by assumption) ?_
      case h2 => (simp only [List.getElem?_toArray, List.getElem?_cons_succ, List.getElem?_cons_zero]; try rfl)
      case q2 => exact fun _ _ _ h => h
      case y2 => refine Or.inl ⟨by rfl, ?_⟩; (intro w hSw; (try dsimp only at hSw); go_simp; try with_reducible rfl)
      try simp only [Act.put, List.setIfInBounds_toArray, List.set_cons_zero, List.set_cons_succ]
      refine wpAnyT_take (i := 2) (oi := ?o3) (v := ?v3) ?h3 (by kernel_rfl) (by kernel_rfl) (by kernel_rfl) ?q3 ?y3 (by assumption) ?_
      case h3 => (simp only [List.getElem?_toArray, List.getElem?_cons_succ, List.getElem?_cons_zero]; try rfl)
      case q3 => exact fun _ _ _ h => h
      case y3 => refine Or.inl ⟨by rfl, ?_⟩; (intro w hSw; (try dsimp only at hSw); go_simp; try with_reducible rfl)
      try simp only [Act.put, List.setIfInBounds_toArray, List.set_cons_zero, List.set_cons_succ]
      refine wpAnyT_take (i := 3) (oi := ?o4) (v := ?v4) ?h4 (by kernel_rfl) (by kernel_rfl) (by kernel_rfl) ?q4 ?y4 (by assumption) ?_
      case h4 => (simp only [List.getElem?_toArray, List.getElem?_cons_succ, List.getElem?_cons_zero]; try rfl)
      case q4 => exact fun _ _ _ h => h
      case y4 => refine Or.inl ⟨by rfl, ?_⟩; (intro w hSw; (try dsimp only at hSw); go_simp; try with_reducible rfl)
      try simp only [Act.put, List.setIfInBounds_toArray, List.set_cons_zero, List.set_cons_succ]
      refine wpAnyT_take (i := 4) (oi := ?o5) (v := ?v5) ?h5 (by kernel_rfl) (by kernel_rfl) (by kernel_rfl) ?q5 ?y5 (by assumption) ?_
      case h5 => (simp only [List.getElem?_toArray, List.getElem?_cons_succ, List.getElem?_cons_zero]; try rfl)
      case q5 => exact fun _ _ _ h => h
      case y5 => refine Or.inl ⟨by rfl, ?_⟩; (intro w hSw; (try dsimp only at hSw); go_simp; try with_reducible rfl)
      try simp only [Act.put, List.setIfInBounds_toArray, List.set_cons_zero, List.set_cons_succ]
      refine wpAnyT_take (i := 5) (oi := ?o6) (v := ?v6) ?h6 (by kernel_rfl) (by kernel_rfl) (by kernel_rfl) ?q6 ?y6 (by assumption) ?_
      case h6 => (simp only [List.getElem?_toArray, List.getElem?_cons_succ, List.getElem?_cons_zero]; try rfl)
      case q6 => exact fun _ _ _ h => h
      case y6 => refine Or.inl ⟨by rfl, ?_⟩; (intro w hSw; (try dsimp only at hSw); go_simp; try with_reducible rfl)
      try simp only [Act.put, List.setIfInBounds_toArray, List.set_cons_zero, List.set_cons_succ]
      refine wpAnyT_take (i := 6) (oi := ?o7) (v := ?v7) ?h7 (by kernel_rfl) (by kernel_rfl) (by kernel_rfl) ?q7 ?y7 (by assumption) ?_
      case h7 => (simp only [List.getElem?_toArray, List.getElem?_cons_succ, List.getElem?_cons_zero]; try rfl)
      case q7 => exact fun _ _ _ h => h
      case y7 => refine Or.inl ⟨by rfl, ?_⟩; (intro w hSw; (try dsimp only at hSw); go_simp; try with_reducible rfl)
      try simp only [Act.put, List.setIfInBounds_toArray, List.set_cons_zero, List.set_cons_succ]
      refine wpAnyT_take (i := 7) (oi := ?o8) (v := ?v8) ?h8 (by kernel_rfl) (by kernel_rfl) (by kernel_rfl) ?q8 ?y8 (by assumption) ?_
      case h8 => (simp only [List.getElem?_toArray, List.getElem?_cons_succ, List.getElem?_cons_zero]; try rfl)
      case q8 => exact fun _ _ _ h => h
      case y8 => refine Or.inl ⟨by rfl, ?_⟩; (intro w hSw; (try dsimp only at hSw); go_simp; try with_reducible rfl)
      try simp only [Act.put, List.setIfInBounds_toArray, List.set_cons_zero, List.set_cons_succ]
      refine wpAnyT_take (i := 8) (oi := ?o9) (v := ?v9) ?h9 (by kernel_rfl) (by kernel_rfl) (by kernel_rfl) ?q9 ?y9 (by assumption) ?_
      case h9 => (simp only [List.getElem?_toArray, List.getElem?_cons_succ, List.getElem?_cons_zero]; try rfl)
      case q9 => exact fun _ _ _ h => h
      case y9 => refine Or.inl ⟨by rfl, ?_⟩; (intro w hSw; (try dsimp only at hSw); go_simp; try with_reducible rfl)
      try simp only [Act.put, List.setIfInBounds_toArray, List.set_cons_zero, List.set_cons_succ]
      refine wpAnyT_take (i := 9) (oi := ?o10) (v := ?v10) ?h10 (by kernel_rfl) (by kernel_rfl) (by kernel_rfl) ?q10 ?y10 (by assumption) ?_
      case h10 => (simp only [List.getElem?_toArray, List.getElem?_cons_succ, List.getElem?_cons_zero]; try rfl)
      case q10 => exact fun _ _ _ h => h
      case y10 => refine Or.inl ⟨by rfl, ?_⟩; (intro w hSw; (try dsimp only at hSw); go_simp; try with_reducible rfl)
      try simp only [Act.put, List.setIfInBounds_toArray, List.set_cons_zero, List.set_cons_succ]
      refine wpAnyT_take (i := 10) (oi := ?o11) (v := ?v11) ?h11 (by kernel_rfl) (by kernel_rfl) (by kernel_rfl) ?q11 ?y11 (by assumption) ?_
      case h11 => (simp only [List.getElem?_toArray, List.getElem?_cons_succ, List.getElem?_cons_zero]; try rfl)
      case q11 => exact fun _ _ _ h => h
      case y11 => refine Or.inl ⟨by rfl, ?_⟩; (intro w hSw; (try dsimp only at hSw); go_simp; try with_reducible rfl)
      try simp only [Act.put, List.setIfInBounds_toArray, List.set_cons_zero, List.set_cons_succ]
      refine wpAnyT_take (i := 11) (oi := ?o12) (v := ?v12) ?h12 (by kernel_rfl) (by kernel_rfl) (by kernel_rfl) ?q12 ?y12 (by assumption) ?_
      case h12 => (simp only [List.getElem?_toArray, List.getElem?_cons_succ, List.getElem?_cons_zero]; try rfl)
      case q12 => exact fun _ _ _ h => h
      case y12 => refine Or.inl ⟨by rfl, ?_⟩; (intro w hSw; (try dsimp only at hSw); go_simp; try with_reducible rfl)
      try simp only [Act.put, List.setIfInBounds_toArray, List.set_cons_zero, List.set_cons_succ]
      refine wpAnyT_take (i := 13) (oi := ?o13) (v := ?v13) ?h13 (by kernel_rfl) (by kernel_rfl) (by kernel_rfl) ?q13 ?y13 (by assumption) ?_
      case h13 => (simp only [List.getElem?_toArray, List.getElem?_cons_succ, List.getElem?_cons_zero]; try rfl)
      case q13 => exact fun _ _ _ h => h
      case y13 => refine Or.inl ⟨by rfl, ?_⟩; (intro w hSw; (try dsimp only at hSw); go_simp; try with_reducible rfl)
      try simp only [Act.put, List.setIfInBounds_toArray, List.set_cons_zero, List.set_cons_succ]
      refine wpAnyT_ready (rs := [12, 14]) (by kernel_rfl) (by simp) ?_
      refine (AllReadyT.cons (by decide) (i := 12) (o := ?o14) ?h14 (fun K hK => ?k14) (AllReadyT.cons (by decide) (i := 14) (o := ?o15) ?h15 (fun K hK => ?k15) AllReadyT.nil))
      case h14 => (simp only [List.getElem?_toArray, List.getElem?_cons_succ, List.getElem?_cons_zero]; try rfl)
      case k14 =>
        go_simp
        ((with_reducible refine (clone_calls _ dA dn dc x.l (RD.out _ hHeld.1) HN.out).mono ?_); rintro e w1 ⟨v1, rfl, oc, bc⟩; have oc := own_base hHeld.1.size oc; obtain ⟨A1, c1', rfl⟩ := own_is_slice oc; have b1 := below_via hHeld.1 bc)
        try go_wp2_with fail
        refine hK.out _ _ ?_ (fun hHeld => ?_)
        · exact SX.out _ b1
        clear hK K
        try simp only [Act.put, List.setIfInBounds_toArray, List.set_cons_zero, List.set_cons_succ]
        refine wpAnyT_ready (rs := [14]) (by kernel_rfl) (by simp) ?_
        refine (AllReadyT.cons (by decide) (i := 14) (o := ?o16) ?h16 (fun K hK => ?k16) AllReadyT.nil)
        case h16 => (simp only [List.getElem?_toArray, List.getElem?_cons_succ, List.getElem?_cons_zero]; try rfl)
        case k16 =>
          go_simp
          try go_wp2_with fail
          refine hK.out _ _ ?_ (fun hHeld => ?_)
          · exact SX.out _ (below_alloc hHeld.1)
          clear hK K
          try simp only [Act.put, List.setIfInBounds_toArray, List.set_cons_zero, List.set_cons_succ]
          refine wpAnyT_ready (rs := [15]) (by kernel_rfl) (by simp) ?_
          refine (AllReadyT.cons (by decide) (i := 15) (o := ?o17) ?h17 (fun K hK => ?k17) AllReadyT.nil)
          case h17 => (simp only [List.getElem?_toArray, List.getElem?_cons_succ, List.getElem?_cons_zero]; try rfl)
          case k17 =>
            (refine step_append_any _ rfl (.tmp 42) (.tmp 44) 60 rfl W.heap.size 66 i66 _ 2 24 Try.underlying60 hi hz0 hz1 hz2 rfl (by decide) _ dn _ rfl (by first | exact oc | exact oc.alloc _) _ _ 1 1 [.string k, .int .i64 f] rfl (by first | exact reads_blk1 (Blk.new _ _ _) | exact reads_blk1 (blk_later bc) | exact reads_blk1 (blk_laterd bc)) (pv_one ⟨k, f⟩) (by unfold maxLen; have := HN.out; omega) (by have := HN.out; omega) hHeld.1.size ?_; intro v2 w2 o2 g2 at2; have b2 : Below W.heap.size W w2 := hHeld.1.grown g2 hHeld.1.size (fun k e => (oc.lt k e).1); obtain ⟨A2, c2, rfl⟩ := own_is_slice o2; clear at2)
            refine hK.out _ _ ?_ (fun hHeld => ?_)
            · exact SX.out _ b2
            clear hK K
            try simp only [Act.put, List.setIfInBounds_toArray, List.set_cons_zero, List.set_cons_succ]
            refine wpAnyT_done (by kernel_rfl) ?_
            refine wpAnyH_ready (rs := [16]) (by kernel_rfl) (by simp) ?_
            refine (AllReadyH.cons (i := 16) (o := ?o18) ?h18 (fun K hK => ?k18) AllReadyH.nil)
            case h18 => (simp only [List.getElem?_toArray, List.getElem?_cons_succ, List.getElem?_cons_zero]; try rfl)
            case k18 =>
              go_simp
              ((with_reducible refine (WC.out _ A2 _ c2 (HT.out _ b2) (FX.out _ _ _ b2 o2)).mono ?_); rintro e w9 ⟨rfl, ht, k9⟩)
              try go_wp2_with fail
              refine hK.out _ _ ?_ (fun hHeld => ?_)
              · trivial
              clear hK K
              try simp only [Act.put, List.setIfInBounds_toArray, List.set_cons_zero, List.set_cons_succ]
              refine wpAnyH_take (i := 17) (oi := ?o19) (v := ?v19) ?h19 (by kernel_rfl) (by kernel_rfl) (by kernel_rfl) ?q19 ?y19 (by assumption) ?_
              case h19 => (simp only [List.getElem?_toArray, List.getElem?_cons_succ, List.getElem?_cons_zero]; try rfl)
              case q19 => exact fun _ _ _ h => h
              case y19 => refine Or.inl ⟨by rfl, ?_⟩; (intro w hSw; (try dsimp only at hSw); go_simp; try with_reducible rfl)
              try simp only [Act.put, List.setIfInBounds_toArray, List.set_cons_zero, List.set_cons_succ]
              refine wpAnyH_take (i := 18) (oi := ?o20) (v := ?v20) ?h20 (by kernel_rfl) (by kernel_rfl) (by kernel_rfl) ?q20 ?y20 (by assumption) ?_
              case h20 => (simp only [List.getElem?_toArray, List.getElem?_cons_succ, List.getElem?_cons_zero]; try rfl)
              case q20 => exact fun _ _ _ h => h
              case y20 => refine Or.inl ⟨by rfl, ?_⟩; (intro w hSw; (try dsimp only at hSw); go_simp; try with_reducible rfl)
              try simp only [Act.put, List.setIfInBounds_toArray, List.set_cons_zero, List.set_cons_succ]
              refine wpAnyH_take (i := 19) (oi := ?o21) (v := ?v21) ?h21 (by kernel_rfl) (by kernel_rfl) (by kernel_rfl) ?q21 ?y21 (by assumption) ?_
              case h21 => (simp only [List.getElem?_toArray, List.getElem?_cons_succ, List.getElem?_cons_zero]; try rfl)
              case q21 => exact fun _ _ _ h => h
              case y21 => refine Or.inl ⟨by rfl, ?_⟩; (intro w hSw; (try dsimp only at hSw); go_simp; try with_reducible rfl)
              try simp only [Act.put, List.setIfInBounds_toArray, List.set_cons_zero, List.set_cons_succ]
              refine wpAnyH_take (i := 20) (oi := ?o22) (v := ?v22) ?h22 (by kernel_rfl) (by kernel_rfl) (by kernel_rfl) ?q22 ?y22 (by assumption) ?_
              case h22 => (simp only [List.getElem?_toArray, List.getElem?_cons_succ, List.getElem?_cons_zero]; try rfl)
              case q22 => exact fun _ _ _ h => h
              case y22 => refine Or.inl ⟨by rfl, ?_⟩; (intro w hSw; (try dsimp only at hSw); go_simp; try with_reducible rfl)
              try simp only [Act.put, List.setIfInBounds_toArray, List.set_cons_zero, List.set_cons_succ]
              refine wpAnyH_done (by kernel_rfl) ?_ _
              go_wp2
              go_ret2
              exact ⟨by rw [HRes.out]; rfl, by rw [HRes.out]; exact ht, (KB.out _ b2).trans k9⟩
      case h15 => (simp only [List.getElem?_toArray, List.getElem?_cons_succ, List.getElem?_cons_zero]; try rfl)
      case k15 =>
        go_simp
        try go_wp2_with fail
        refine hK.out _ _ ?_ (fun hHeld => ?_)
        · exact SX.out _ (below_alloc hHeld.1)
        clear hK K
        try simp only [Act.put, List.setIfInBounds_toArray, List.set_cons_zero, List.set_cons_succ]
        refine wpAnyT_ready (rs := [12]) (by kernel_rfl) (by simp) ?_
        refine (AllReadyT.cons (by decide) (i := 12) (o := ?o23) ?h23 (fun K hK => ?k23) AllReadyT.nil)
        case h23 => (simp only [List.getElem?_toArray, List.getElem?_cons_succ, List.getElem?_cons_zero]; try rfl)
        case k23 =>
          go_simp
          ((with_reducible refine (clone_calls _ dA dn dc x.l (RD.out _ hHeld.1) HN.out).mono ?_); rintro e w1 ⟨v1, rfl, oc, bc⟩; have oc := own_base hHeld.1.size oc; obtain ⟨A1, c1', rfl⟩ := own_is_slice oc; have b1 := below_via hHeld.1 bc)
          try go_wp2_with fail
          refine hK.out _ _ ?_ (fun hHeld => ?_)
          · exact SX.out _ b1
          clear hK K
          try simp only [Act.put, List.setIfInBounds_toArray, List.set_cons_zero, List.set_cons_succ]
          refine wpAnyT_ready (rs := [15]) (by kernel_rfl) (by simp) ?_
          refine (AllReadyT.cons (by decide) (i := 15) (o := ?o24) ?h24 (fun K hK => ?k24) AllReadyT.nil)
          case h24 => (simp only [List.getElem?_toArray, List.getElem?_cons_succ, List.getElem?_cons_zero]; try rfl)
          case k24 =>
            (refine step_append_any _ rfl (.tmp 42) (.tmp 44) 60 rfl W.heap.size 66 i66 _ 2 24 Try.underlying60 hi hz0 hz1 hz2 rfl (by decide) _ dn _ rfl (by first | exact oc | exact oc.alloc _) _ _ 1 1 [.string k, .int .i64 f] rfl (by first | exact reads_blk1 (Blk.new _ _ _) | exact reads_blk1 (blk_later bc) | exact reads_blk1 (blk_laterd bc)) (pv_one ⟨k, f⟩) (by unfold maxLen; have := HN.out; omega) (by have := HN.out; omega) hHeld.1.size ?_; intro v2 w2 o2 g2 at2; have b2 : Below W.heap.size W w2 := hHeld.1.grown g2 hHeld.1.size (fun k e => (oc.lt k e).1); obtain ⟨A2, c2, rfl⟩ := own_is_slice o2; clear at2)
            refine hK.out _ _ ?_ (fun hHeld => ?_)
            · exact SX.out _ b2
            clear hK K
            try simp only [Act.put, List.setIfInBounds_toArray, List.set_cons_zero, List.set_cons_succ]
            refine wpAnyT_done (by kernel_rfl) ?_
            refine wpAnyH_ready (rs := [16]) (by kernel_rfl) (by simp) ?_
            refine (AllReadyH.cons (i := 16) (o := ?o25) ?h25 (fun K hK => ?k25) AllReadyH.nil)
            case h25 => (simp only [List.getElem?_toArray, List.getElem?_cons_succ, List.getElem?_cons_zero]; try rfl)
            case k25 =>
              go_simp
              ((with_reducible refine (WC.out _ A2 _ c2 (HT.out _ b2) (FX.out _ _ _ b2 o2)).mono ?_); rintro e w9 ⟨rfl, ht, k9⟩)
              try go_wp2_with fail
              refine hK.out _ _ ?_ (fun hHeld => ?_)
              · trivial
              clear hK K
              try simp only [Act.put, List.setIfInBounds_toArray, List.set_cons_zero, List.set_cons_succ]
              refine wpAnyH_take (i := 17) (oi := ?o26) (v := ?v26) ?h26 (by kernel_rfl) (by kernel_rfl) (by kernel_rfl) ?q26 ?y26 (by assumption) ?_
              case h26 => (simp only [List.getElem?_toArray, List.getElem?_cons_succ, List.getElem?_cons_zero]; try rfl)
              case q26 => exact fun _ _ _ h => h
              case y26 => refine Or.inl ⟨by rfl, ?_⟩; (intro w hSw; (try dsimp only at hSw); go_simp; try with_reducible rfl)
              try simp only [Act.put, List.setIfInBounds_toArray, List.set_cons_zero, List.set_cons_succ]
              refine wpAnyH_take (i := 18) (oi := ?o27) (v := ?v27) ?h27 (by kernel_rfl) (by kernel_rfl) (by kernel_rfl) ?q27 ?y27 (by assumption) ?_
              case h27 => (simp only [List.getElem?_toArray, List.getElem?_cons_succ, List.getElem?_cons_zero]; try rfl)
              case q27 => exact fun _ _ _ h => h
              case y27 => refine Or.inl ⟨by rfl, ?_⟩; (intro w hSw; (try dsimp only at hSw); go_simp; try with_reducible rfl)
              try simp only [Act.put, List.setIfInBounds_toArray, List.set_cons_zero, List.set_cons_succ]
              refine wpAnyH_take (i := 19) (oi := ?o28) (v := ?v28) ?h28 (by kernel_rfl) (by kernel_rfl) (by kernel_rfl) ?q28 ?y28 (by assumption) ?_
              case h28 => (simp only [List.getElem?_toArray, List.getElem?_cons_succ, List.getElem?_cons_zero]; try rfl)
              case q28 => exact fun _ _ _ h => h
              case y28 => refine Or.inl ⟨by rfl, ?_⟩; (intro w hSw; (try dsimp only at hSw); go_simp; try with_reducible rfl)
              try simp only [Act.put, List.setIfInBounds_toArray, List.set_cons_zero, List.set_cons_succ]
              refine wpAnyH_take (i := 20) (oi := ?o29) (v := ?v29) ?h29 (by kernel_rfl) (by kernel_rfl) (by kernel_rfl) ?q29 ?y29 (by assumption) ?_
              case h29 => (simp only [List.getElem?_toArray, List.getElem?_cons_succ, List.getElem?_cons_zero]; try rfl)
              case q29 => exact fun _ _ _ h => h
              case y29 => refine Or.inl ⟨by rfl, ?_⟩; (intro w hSw; (try dsimp only at hSw); go_simp; try with_reducible rfl)
              try simp only [Act.put, List.setIfInBounds_toArray, List.set_cons_zero, List.set_cons_succ]
              refine wpAnyH_done (by kernel_rfl) ?_ _
              go_wp2
              go_ret2
              exact ⟨by rw [HRes.out]; rfl, by rw [HRes.out]; exact ht, (KB.out _ b2).trans k9⟩
end Go.Proofs.Ytchbgececcclgaa
