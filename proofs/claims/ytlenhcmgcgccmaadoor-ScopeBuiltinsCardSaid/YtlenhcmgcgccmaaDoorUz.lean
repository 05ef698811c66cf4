/- Scope: statement: for .. of. -/
import Derived.Test.YtlenhcmgcgccmaaDoorUy
namespace Go.Proofs.YtlenhcmgcgccmaaDoor
open Go.RowKit Go
set_option linter.unusedVariables false
set_option linter.unusedSimpArgs false
theorem const_list : wConst.toList = [99, 111, 110, 115, 116] := by rw [ByteArray.toList_eq]; rfl
theorem const_eq (s : ByteArray) : (s.toList == [99, 111, 110, 115, 116]) = decide (s = wConst) := by rw [← str_eq, const_list]
theorem Sq.decl {U Y : World} {p B m : Nat} {ms ms0 : List Nat} {E E0 : Env} {o o0 : Out} {R : Rw} (h0 : WAt U p B ms0 E0 o0 R) (hm : U.heap.size ≤ m) (hs : Sq U p B (ms ++ [m]) (E.push []) R Y o) (hlen : E.blocks.length ≤ 2000000) (hvl : o.vars.length ≤ 2000000) (nm : ByteArray) (hs' : nm.size ≤ maxLen) (a kind : Int) :
    Calls Tryd.prog 27 #[.pointer (some ⟨p, 0, none⟩), .string nm, .int .i64 a, .int .i64 kind] Y fun e w' =>
      (∀ x, declareP E.fn nm a kind [] o = .ok x → (∃ v, e = .returned v) ∧ Sq U p B (ms ++ [m]) (E.push x.1) R w' x.2) ∧ (∀ c, declareP E.fn nm a kind [] o = .error c → e = bad c ∧ Below B U w') := by
  obtain ⟨R', a1, f, g⟩ := hs
  refine (declare_calls (E := E.push []) (bs := E.blocks) (b := []) rfl a1 hlen hvl nm hs' a kind).mono fun e w' hh => ⟨fun x hx => ?_, fun c hc => ⟨(hh.2 c hc).1, (h0.under f).trans (hh.2 c hc).2⟩⟩
  obtain ⟨h1, R2, h2, h3, h4⟩ := hh.1 x hx
  exact ⟨h1, R2, h2, f.trans h3 (fun b hb => by
    rcases hb with hb | hb
    · exact g b hb
    · exact .inr (by omega)), g.trans h4 f.size⟩
set_option maxRecDepth 100000 in
set_option maxHeartbeats 8000000 in
theorem ws38 {F : WF} {n : Nat} (G : GoodW F n) (L : LenW F) (w : World) (p B : Nat) (ms : List Nat) (E : Env) (o : Out) (R : Rw) (t : Tr) (kv : Value) (h : WAt w p B ms E o R) (hne : 0 < E.blocks.length) (hbd : bnd E o + 9 * t.size ≤ 2000000) (hk : KidsAt w B kv t.kids) (hwf : t.wf1) (hd : t.fitsD (n + 1) = true) (hkind : t.kind = 38) {ka : Tr} {kb : Tr} (hkids : t.kids = [ka, kb]) (ho0 : OkX ka) (ho1 : OkS kb) (kdl : Int) (hkd : kdl = if t.op = wConst then 2 else 1) :
    WCall 28 w p B ms E R t kv (stW F E t o) := by
  have hgo : stW F E t o = (seqM (F.ex E ka) (fun o => match declareP E.fn t.name t.at_ kdl [] o with | .ok (b, o') => F.st (E.push b).inc kb o' | .error e => .error e)) o := by
    subst hkd; unfold stW; rw [hkids]; simp only [hkind]; rfl
  unfold WCall
  rw [hgo]
  clear hgo
  have hlen : t.kids.length = 2 := by rw [hkids]; rfl
  have hts := Tr.size_eq t
  rw [hkids] at hts
  simp only [Tr.sizes_cons, Tr.sizes_nil] at hts
  obtain ⟨A, cap, rfl, hcl, hcm, hA⟩ := hk.slice
  obtain ⟨b, off, rfl, hbB⟩ := hA (by omega)
  rw [hlen] at hk hcl ⊢
  rw [hkind]
  have hi0 : t.kids[0]? = some ka := by rw [hkids]; rfl
  have hd0 := Tr.fitsD_kid hd (List.mem_of_getElem? hi0)
  obtain ⟨_, hw0, kv0, hn0, hs0⟩ := hk.kid hi0
  obtain ⟨Aka, cka, rfl, _, _, _⟩ := hs0.slice
  obtain ⟨d00, d01, d02, d03, d04, d05⟩ := kcells hn0 (off) (by omega)
  have hi1 : t.kids[1]? = some kb := by rw [hkids]; rfl
  have hd1 := Tr.fitsD_kid hd (List.mem_of_getElem? hi1)
  obtain ⟨_, hw1, kv1, hn1, hs1⟩ := hk.kid hi1
  obtain ⟨Akb, ckb, rfl, _, _, _⟩ := hs1.slice
  obtain ⟨d10, d11, d12, d13, d14, d15⟩ := kcells hn1 (off + 6) (by omega)
  have qop := const_eq t.op
  have HKD := Lib.hid hkd
  have np1 : w.heap.size ≠ p := by have := h.blk.lt; omega
  have np2 : w.heap.size + 1 ≠ p := by have := h.blk.lt; omega
  have HNL := Lib.hid (show E.blocks.length ≤ 2000000 from by unfold bnd at hbd; omega)
  clear hkd
  obtain ⟨U, hU⟩ : ∃ U, ((w.alloc (.cells #[.pointer (some ⟨p, 0, none⟩)] 60)).alloc (.cells #[.int .i64 38, .int .i64 t.at_, .string t.name, .int .u64 t.num, .string t.op, .slice (some ⟨b, off, none⟩) 2 cap] 31)) = U := ⟨_, rfl⟩
  have W1 : Below w.heap.size w U := by rw [← hU]; exact below_alloc (below_alloc (Below.refl _ _))
  have h1 := h.fr W1
  have b2 : Blk U w.heap.size 60 #[.pointer (some ⟨p, 0, none⟩)] := by rw [← hU]; exact (Blk.new _ _ _).alloc _
  have b3 : Blk U (w.heap.size + 1) 31 #[.int .i64 38, .int .i64 t.at_, .string t.name, .int .u64 t.num, .string t.op, .slice (some ⟨b, off, none⟩) 2 cap] := by rw [← hU]; have h1 := Blk.new (w.alloc (.cells #[.pointer (some ⟨p, 0, none⟩)] 60)) 31 #[.int .i64 38, .int .i64 t.at_, .string t.name, .int .u64 t.num, .string t.op, .slice (some ⟨b, off, none⟩) 2 cap]; rw [size_alloc] at h1; exact h1
  have hbw : b < U.heap.size := Nat.lt_of_lt_of_le (Nat.lt_of_lt_of_le hbB h.inn.sz) W1.size
  have KX := Lib.hid (fun (v : World) (ms' : List Nat) (E' : Env) (o' : Out) (s : Sq U p B ms' E' R v o') => show v.cell? ⟨w.heap.size, 0, none⟩ = some (.pointer (some ⟨p, 0, none⟩)) ∧ v.cell? ⟨w.heap.size + 1, 1, none⟩ = some (.int .i64 t.at_) ∧ v.cell? ⟨w.heap.size + 1, 2, none⟩ = some (.string t.name) ∧ v.cell? ⟨w.heap.size + 1, 4, none⟩ = some (.string t.op) ∧ v.cell? ⟨w.heap.size + 1, 5, none⟩ = some (.slice (some ⟨b, off, none⟩) 2 cap) ∧ v.cell? ⟨b, off, none⟩ = some (.int .i64 ka.kind) ∧ v.cell? ⟨b, off + 1, none⟩ = some (.int .i64 ka.at_) ∧ v.cell? ⟨b, off + 2, none⟩ = some (.string ka.name) ∧ v.cell? ⟨b, off + 3, none⟩ = some (.int .u64 ka.num) ∧ v.cell? ⟨b, off + 4, none⟩ = some (.string ka.op) ∧ v.cell? ⟨b, off + 5, none⟩ = some (.slice Aka ka.kids.length cka) ∧ v.cell? ⟨b, off + 6, none⟩ = some (.int .i64 kb.kind) ∧ v.cell? ⟨b, off + 7, none⟩ = some (.int .i64 kb.at_) ∧ v.cell? ⟨b, off + 8, none⟩ = some (.string kb.name) ∧ v.cell? ⟨b, off + 9, none⟩ = some (.int .u64 kb.num) ∧ v.cell? ⟨b, off + 10, none⟩ = some (.string kb.op) ∧ v.cell? ⟨b, off + 11, none⟩ = some (.slice Akb kb.kids.length ckb) ∧ b < v.heap.size ∧ w.heap.size < v.heap.size ∧ w.heap.size + 1 < v.heap.size ∧ p < v.heap.size from ⟨s.cel h1 b2 (by decide) 0 rfl, s.cel h1 b3 (by decide) 1 rfl, s.cel h1 b3 (by decide) 2 rfl, s.cel h1 b3 (by decide) 4 rfl, s.cel h1 b3 (by decide) 5 rfl, s.old h1 hbB (((W1.mono h.inn.sz).cell (p := ⟨b, off, none⟩) hbB).trans d00), s.old h1 hbB (((W1.mono h.inn.sz).cell (p := ⟨b, off + 1, none⟩) hbB).trans d01), s.old h1 hbB (((W1.mono h.inn.sz).cell (p := ⟨b, off + 2, none⟩) hbB).trans d02), s.old h1 hbB (((W1.mono h.inn.sz).cell (p := ⟨b, off + 3, none⟩) hbB).trans d03), s.old h1 hbB (((W1.mono h.inn.sz).cell (p := ⟨b, off + 4, none⟩) hbB).trans d04), s.old h1 hbB (((W1.mono h.inn.sz).cell (p := ⟨b, off + 5, none⟩) hbB).trans d05), s.old h1 hbB (((W1.mono h.inn.sz).cell (p := ⟨b, off + 6, none⟩) hbB).trans d10), s.old h1 hbB (((W1.mono h.inn.sz).cell (p := ⟨b, off + 7, none⟩) hbB).trans d11), s.old h1 hbB (((W1.mono h.inn.sz).cell (p := ⟨b, off + 8, none⟩) hbB).trans d12), s.old h1 hbB (((W1.mono h.inn.sz).cell (p := ⟨b, off + 9, none⟩) hbB).trans d13), s.old h1 hbB (((W1.mono h.inn.sz).cell (p := ⟨b, off + 10, none⟩) hbB).trans d14), s.old h1 hbB (((W1.mono h.inn.sz).cell (p := ⟨b, off + 11, none⟩) hbB).trans d15), Nat.lt_of_lt_of_le hbw s.size, (s.blk h1 b2 (by decide)).lt, (s.blk h1 b3 (by decide)).lt, Nat.lt_of_lt_of_le h1.blk.lt s.size⟩)
  have HU := Lib.hid h1
  have HW := Lib.hid h
  have HW1 := Lib.hid W1
  have S0 := Lib.hid (Sq.refl h1)
  have HNE := Lib.hid hne
  have HG := Lib.hid G
  have HLen := Lib.hid L
  have HBD := Lib.hid hbd
  have HTS := Lib.hid hts
  have HWFT := Lib.hid hwf
  have HKT := Lib.hid (hk.under (W1.mono h.inn.sz))
  have HS0 := Lib.hid (hs0.under (W1.mono h.inn.sz))
  have HWF0 := Lib.hid hw0
  have HD0 := Lib.hid hd0
  have HO0 := Lib.hid ho0
  have HS1 := Lib.hid (hs1.under (W1.mono h.inn.sz))
  have HWF1 := Lib.hid hw1
  have HD1 := Lib.hid hd1
  have HO1 := Lib.hid ho1
  have hq2 : w.heap.size ≠ b := by have := h.inn.sz; omega
  have hq3 : w.heap.size + 1 ≠ b := by have := h.inn.sz; omega
  have hcl' : (2 : Int) ≤ (cap : Int) := by omega
  have HB2 := Lib.hid b2
  have HB3 := Lib.hid b3
  clear h hne hbd hk hwf hd hkind hkids hlen hts hcm hA W1 h1 b2 b3 hbw G L hi0 hd0 hw0 hn0 hs0 ho0 hi1 hd1 hw1 hn1 hs1 ho1
  obtain ⟨x0, x1, x2, x4, x5, d00, d01, d02, d03, d04, d05, d10, d11, d12, d13, d14, d15, lb, l2, l3, lp⟩ := KX.out _ _ _ _ S0.out
  subst hU
  go_enter Tryd.func28, Tryd.ntmps28
  go_wp2
  have CC := Lib.hid (S0.out.drew.ex HG.out HU.out HNE.out (by have h1 := HBD.out; have h2 := HTS.out; simp only [bnd] at h1 ⊢; omega) HS0.out HWF0.out HD0.out HO0.out)
  have hTr : True := trivial
  refine wp_region_held_drew (S := (fun w' => w'.cell? ⟨w.heap.size, 0, none⟩ = some (.pointer (some ⟨p, 0, none⟩)) ∧ w'.cell? ⟨w.heap.size + 1, 5, none⟩ = some (.slice (some ⟨b, off, none⟩) 2 cap) ∧ w'.cell? ⟨b, off, none⟩ = some (.int .i64 ka.kind) ∧ w'.cell? ⟨b, off + 1, none⟩ = some (.int .i64 ka.at_) ∧ w'.cell? ⟨b, off + 2, none⟩ = some (.string ka.name) ∧ w'.cell? ⟨b, off + 3, none⟩ = some (.int .u64 ka.num) ∧ w'.cell? ⟨b, off + 4, none⟩ = some (.string ka.op) ∧ w'.cell? ⟨b, off + 5, none⟩ = some (.slice Aka ka.kids.length cka))) (by kernel_rfl) ?_ (fun hHeld => ?_)
  · exact ⟨x0, x5, d00, d01, d02, d03, d04, d05⟩
  refine tk 0 ?_
  try simp only [Act.put, z1, z2, z3]
  refine tk 1 ?_
  try simp only [Act.put, z1, z2, z3]
  refine tk 2 ?_
  try simp only [Act.put, z1, z2, z3]
  refine tk 3 ?_
  try simp only [Act.put, z1, z2, z3]
  refine tk 4 ?_
  try simp only [Act.put, z1, z2, z3]
  refine wpAnyH_ready (rs := [5]) (by kernel_rfl) (by simp) ?_
  refine (AllReadyH.cons (i := 5) (o := ?o28) ?h28 (fun K hK => ?k28) AllReadyH.nil)
  case h28 => (simp only [List.getElem?_toArray, List.getElem?_cons_succ, List.getElem?_cons_zero]; try rfl)
  case k28 =>
    go_simp
    have CW := CC.out
    clear CC
    cases hr : (F.ex E ka) o with
    | error cc =>
      have CW := Lib.hid (WP.errC CW hr)
      have HE := Lib.hid (show (seqM (F.ex E ka) (fun o => match declareP E.fn t.name t.at_ kdl [] o with | .ok (b, o') => F.st (E.push b).inc kb o' | .error e => .error e)) o = .error cc from seqM_err hr)
      clear hr
      obtain ⟨c1, c2⟩ := cc
      unfold bad at CW
      go_at_call 41
      (with_reducible refine CW.out.mono ?_)
      rintro e v1 ⟨rfl, g1⟩
      go_wp2
      exact ⟨rfl, WP.of_below HW1.out HW.out.inn.sz (WP.err HE.out ⟨rfl, g1⟩)⟩
    | ok o1 =>
      have CW := Lib.hid (WP.okC CW hr)
      have HQ1 := Lib.hid (show (seqM (F.ex E ka) (fun o => match declareP E.fn t.name t.at_ kdl [] o with | .ok (b, o') => F.st (E.push b).inc kb o' | .error e => .error e)) o = (fun o => match declareP E.fn t.name t.at_ kdl [] o with | .ok (b, o') => F.st (E.push b).inc kb o' | .error e => .error e) o1 from seqM_ok hr)
      have HL1 := Lib.hid (show o1.len + 1 ≤ o.len + 4 * ka.size from HLen.out.ex E ka o o1 hr)
      clear hr
      go_at_call 41
      (with_reducible refine CW.out.mono ?_)
      rintro e v1 ⟨⟨vv, rfl⟩, s1⟩
      clear x0 x1 x2 x4 x5 d00 d01 d02 d03 d04 d05 d10 d11 d12 d13 d14 d15 lb l2 l3 lp
      obtain ⟨x0, x1, x2, x4, x5, d00, d01, d02, d03, d04, d05, d10, d11, d12, d13, d14, d15, lb, l2, l3, lp⟩ := KX.out _ _ _ _ s1
      have S1 := Lib.hid s1
      clear s1 CW
      try go_wp2_with fail
      refine hK.out _ _ ?_ (fun hHeld => ?_)
      · exact ⟨x0, x5, d00, d01, d02, d03, d04, d05⟩
      clear hK K
      try simp only [Act.put, z1, z2, z3]
      refine wpAnyH_done (by kernel_rfl) ?_ _
      go_upto_if 107 with (fail)
      go_cut [6] from 105 to 107 (fun s6 wx => s6 = .int .i64 kdl ∧ wx = v1)
      case first =>
        by_cases hc : t.op = wConst
        · have qop' : (t.op.toList == [99, 111, 110, 115, 116]) = true := by rw [qop]; simp [hc]
          have HC := Lib.hid hc
          clear qop hc
          go_wp2
          go_meet
          exact ⟨by rw [HKD.out, if_pos HC.out], rfl⟩
        · have qop' : (t.op.toList == [99, 111, 110, 115, 116]) = false := by rw [qop]; simp [hc]
          have HC := Lib.hid hc
          clear qop hc
          go_wp2
          go_meet
          exact ⟨by rw [HKD.out, if_neg HC.out], rfl⟩
      case rest =>
        obtain ⟨rfl, rfl⟩ := hcut
        obtain ⟨v1, rfl⟩ : ∃ v1 : World, v1 = wc := ⟨_, rfl⟩
        obtain ⟨R1, a1, f1, g1⟩ := S1.out
        obtain ⟨Ak, ck, hbv⟩ := own_is_slice a1.inn.bl
        have hbr := a1.blk
        rw [hbv] at hbr
        have hblr := a1.inn.bl
        rw [hbv] at hblr
        have b2 := S1.out.blk HU.out HB2.out (by decide)
        have SX := Lib.hid (fun w' (bw : Below v1.heap.size v1 w') => show (fun w' => w'.cell? ⟨w.heap.size, 0, none⟩ = some (.pointer (some ⟨p, 0, none⟩)) ∧ w'.cell? ⟨p, 3, none⟩ = some (.slice Ak E.blocks.length ck)) w' from ⟨(b2.below bw b2.lt).cell 0, (hbr.below bw hbr.lt).cell 3⟩)
        have HOWN := Lib.hid (fun w' (bw : Below v1.heap.size v1 w') => own_below bw hblr)
        have SG := Lib.hid (fun (wa w2 : World) (bw : Below v1.heap.size v1 wa) (g2 : wa.grownBy w2 (Value.ownBlock (.slice Ak E.blocks.length ck))) => show Blk w2 p 64 #[R1.sv, R1.vv, R1.uv, .slice Ak E.blocks.length ck, .int .i64 (E.fn : Int), R1.lv, .int .i64 (E.loops : Int)] from (hbr.below bw hbr.lt).grown g2 (fun e => own_blk_ne (HOWN.out _ bw) (hbr.below bw hbr.lt) (by decide) e.symm))
        have GB := Lib.hid (fun (wa w2 : World) (bw : Below v1.heap.size v1 wa) (g2 : wa.grownBy w2 (Value.ownBlock (.slice Ak E.blocks.length ck))) (q : Nat) (ty : TypeId) (csx : Array Value) (hq : Blk v1 q ty csx) (hne : ty ≠ 78) => show Blk w2 q ty csx from (hq.below bw hq.lt).grown g2 (fun e => own_blk_ne (HOWN.out _ bw) (hq.below bw hq.lt) (Ne.symm hne) e.symm))
        have HBU := Lib.hid a1.inn.sz
        have B2 := Lib.hid b2
        have A1 := Lib.hid a1
        have F1 := Lib.hid f1
        have GR1 := Lib.hid g1
        have HBV := Lib.hid hbv
        obtain ⟨i78, ji, jz0, jz1, jz2⟩ := info_parts info78
        clear a1 f1 g1 hbv hbr hblr b2 qop x0 x1 x2 x4 x5 d00 d01 d02 d03 d04 d05 d10 d11 d12 d13 d14 d15 lb l2 l3 lp
        have hmm := @run_makeMap Tryd.prog
        go_wp2
        have hTr : True := trivial
        refine wp_region_tail (S := (fun w' => w'.cell? ⟨w.heap.size, 0, none⟩ = some (.pointer (some ⟨p, 0, none⟩)) ∧ w'.cell? ⟨p, 3, none⟩ = some (.slice Ak E.blocks.length ck))) 8 3 rfl (by kernel_rfl) ?_ (fun hHeld => ?_)
        · exact SX.out _ (Below.refl _ _).drew
        refine tt 0 ?_
        try simp only [Act.put, z1, z2, z3]
        refine tt 1 ?_
        try simp only [Act.put, z1, z2, z3]
        refine tt 2 ?_
        try simp only [Act.put, z1, z2, z3]
        refine tt 3 ?_
        try simp only [Act.put, z1, z2, z3]
        refine tt 4 ?_
        try simp only [Act.put, z1, z2, z3]
        refine wpAnyT_ready (rs := [5]) (by kernel_rfl) (by simp) ?_
        refine (AllReadyT.cons (by decide) (i := 5) (o := ?o22) ?h22 (fun K hK => ?k22) AllReadyT.nil)
        case h22 => (simp only [List.getElem?_toArray, List.getElem?_cons_succ, List.getElem?_cons_zero]; try rfl)
        case k22 =>
          go_simp
          try go_wp2_with fail
          refine hK.out _ _ ?_ (fun hHeld => ?_)
          · exact SX.out _ (by first | exact (below_alloc (Below.refl v1.heap.size v1)).drew | exact below_alloc (Below.refl v1.heap.size v1).drew)
          clear hK K
          try simp only [Act.put, z1, z2, z3]
          refine wpAnyT_ready (rs := [6]) (by kernel_rfl) (by simp) ?_
          refine (AllReadyT.cons (by decide) (i := 6) (o := ?o23) ?h23 (fun K hK => ?k23) AllReadyT.nil)
          case h23 => (simp only [List.getElem?_toArray, List.getElem?_cons_succ, List.getElem?_cons_zero]; try rfl)
          case k23 =>
            go_simp
            try go_wp2_with fail
            refine hK.out _ _ ?_ (fun hHeld => ?_)
            · exact SX.out _ (by first | exact (below_alloc (below_alloc (Below.refl v1.heap.size v1))).drew | exact below_alloc ((below_alloc (Below.refl v1.heap.size v1)).drew))
            clear hK K
            try simp only [Act.put, z1, z2, z3]
            refine wpAnyT_ready (rs := [7]) (by kernel_rfl) (by simp) ?_
            refine (AllReadyT.cons (by decide) (i := 7) (o := ?o24) ?h24 (fun K hK => ?k24) AllReadyT.nil)
            case h24 => (simp only [List.getElem?_toArray, List.getElem?_cons_succ, List.getElem?_cons_zero]; try rfl)
            case k24 =>
              (refine step_append_any _ rfl (.tmp 112) (.tmp 114) 61 rfl B 78 i78 _ 1 8 Tryd.underlying61 ji jz0 jz1 jz2 rfl (by decide) (.slice Ak E.blocks.length ck) E.blocks.length (ms.map mapV) rfl (HOWN.out _ (by first | exact (below_alloc (below_alloc (Below.refl v1.heap.size v1))).drew | exact below_alloc ((below_alloc (Below.refl v1.heap.size v1)).drew))) _ _ 1 1 [.map (some v1.heap.size)] rfl (by have hbn := Blk.new (v1.alloc (.map #[] 0)) 78 #[.map (some v1.heap.size)]; rw [size_alloc] at hbn; exact reads_blkn hbn.drew) (by simp [Value.oneCell']) (by unfold maxLen; have := HNL.out; omega) (by have := HNL.out; omega) (Nat.le_trans HBU.out (Below.size (by first | exact (below_alloc (below_alloc (Below.refl v1.heap.size v1))).drew | exact below_alloc ((below_alloc (Below.refl v1.heap.size v1)).drew)))) ?_; intro v2 w2 o2 g2 at2; obtain ⟨Ab2, cb2, rfl⟩ := own_is_slice o2; have hs2 := SG.out _ _ (by first | exact (below_alloc (below_alloc (Below.refl v1.heap.size v1))).drew | exact below_alloc ((below_alloc (Below.refl v1.heap.size v1)).drew)) g2; have GW := Lib.hid (pair_gw (U := v1) (by first | exact (below_alloc (below_alloc (Below.refl v1.heap.size v1))).drew | exact below_alloc ((below_alloc (Below.refl v1.heap.size v1)).drew)) g2); have cpc := hs2.cell 3; have cpf := hs2.frozen 3; have ct0 := (GB.out _ _ GW.out.1 GW.out.2 _ _ _ B2.out (by decide)).cell 0; simp only [List.getElem?_toArray, List.getElem?_cons_succ, List.getElem?_cons_zero] at cpc ct0)
              refine hK.out _ _ ?_ (fun hHeld => ?_)
              · exact ⟨ct0, cpc⟩
              clear hK K
              try simp only [Act.put, z1, z2, z3]
              refine wpAnyT_done (by kernel_rfl) ?_
              refine tk 8 ?_
              try simp only [Act.put, z1, z2, z3]
              refine tk 9 ?_
              try simp only [Act.put, z1, z2, z3]
              refine wpAnyH_ready (rs := [10]) (by kernel_rfl) (by simp) ?_
              refine (AllReadyH.cons (i := 10) (o := ?o27) ?h27 (fun K hK => ?k27) AllReadyH.nil)
              case h27 => (simp only [List.getElem?_toArray, List.getElem?_cons_succ, List.getElem?_cons_zero]; try rfl)
              case k27 =>
                go_simp
                try go_wp2_with fail
                refine hK.out _ _ ?_ (fun hHeld => ?_)
                · trivial
                clear hK K
                try simp only [Act.put, z1, z2, z3]
                refine wpAnyH_done (by kernel_rfl) ?_ _
                obtain ⟨Y, hY⟩ : ∃ Y, w2.setCell ⟨p, 3, none⟩ (.slice Ab2 (E.blocks.length + 1) cb2) = Y := ⟨_, rfl⟩
                rw [hY]
                have hmA : MapIs ((v1.alloc (.map #[] 0)).alloc (.cells #[.map (some v1.heap.size)] 78)) 9 v1.heap.size (bents []) := (MapIs.made v1 9).same (Below.heap_alloc _ _ _ (by rw [size_alloc]; omega))
                have hmW := hmA.lt
                have hm2 : MapIs w2 9 v1.heap.size (bents []) := hmA.same (GW.out.2.block _ hmW (fun e => own_ne_map (HOWN.out _ (below_alloc (below_alloc (Below.refl _ _)))) hmA e.symm rfl))
                have hm0 : v1.heap.size ∉ ms := fun hmem => by
                  obtain ⟨b, _, k, _⟩ := A1.out.inn.map_at hmem
                  have := k.lt; omega
                have sY : Sq ((w.alloc (.cells #[.pointer (some ⟨p, 0, none⟩)] 60)).alloc (.cells #[.int .i64 38, .int .i64 t.at_, .string t.name, .int .u64 t.num, .string t.op, .slice (some ⟨b, off, none⟩) 2 cap] 31)) p B (ms ++ [v1.heap.size]) (E.push []) R Y o1 := by
                  rw [← hY]
                  refine ⟨{ R1 with bv := .slice Ab2 (E.blocks.length + 1) cb2 }, ⟨A1.out.hp, hs2.set_ 3 _, ((A1.out.inn.fr GW.out.1).grow_bl (x := []) (m := v1.heap.size) (v := .slice Ab2 (E.blocks.length + 1) cb2) (by rw [List.length_append, List.length_singleton, List.map_append]; exact o2) (by rw [HBV.out]; exact GW.out.2) hm2 HBU.out hm0).recd hs2 3 (.slice Ab2 (E.blocks.length + 1) cb2), fun b hb => ?_⟩, ?_, ?_⟩
                  · rcases List.mem_append.1 hb with hb | hb
                    · exact A1.out.ent b hb
                    · rw [List.mem_singleton.1 hb]; exact BkOk.nil _
                  · exact F1.out.trans (((Fr.of_below (S := Ft p R1) GW.out.1).grown GW.out.2 (fun y e => .inl (.inr (.inr (.inr (.inr (.inl (by rw [HBV.out]; exact e)))))))).set (p := p) (i := 3) (.inl (.inl rfl)) _) GR1.out
                  · exact GR1.out.trans (Gr.bv_ (n := v1.heap.size) (by rw [HBV.out]; exact at2) GW.out.1.size) F1.out.size
                have hUm := F1.out.size
                obtain ⟨x0, x1, x2, x4, x5, d00, d01, d02, d03, d04, d05, d10, d11, d12, d13, d14, d15, lb, l2, l3, lp⟩ := KX.out _ _ _ _ sY
                have DC := sY.decl HU.out hUm HNL.out (by have h1 := HL1.out; have h2 := HBD.out; have h3 := HTS.out; unfold bnd at h2; unfold Out.len at *; omega) t.name HWFT.out.2 t.at_ kdl
                have HUM := Lib.hid hUm
                clear hY hmA hmW hm2 hm0 sY hUm hs2 cpc cpf ct0 o2 g2 at2 ji jz0 jz1 jz2 SX SG GB HOWN GW hmm
                cases hdr : declareP E.fn t.name t.at_ kdl [] o1 with
                | error cc =>
                  have CC := Lib.hid (DC.mono (R' := fun e w' => e = bad cc ∧ Below B _ w') fun e w' hh => hh.2 cc hdr)
                  have HE := Lib.hid (show (seqM (F.ex E ka) (fun o => match declareP E.fn t.name t.at_ kdl [] o with | .ok (b, o') => F.st (E.push b).inc kb o' | .error e => .error e)) o = .error cc from by rw [HQ1.out]; simp only [hdr])
                  clear hdr DC
                  obtain ⟨c1, c2⟩ := cc
                  unfold bad at CC
                  go_wp2_with (first | (go_at_call 27; (with_reducible refine CC.out.mono ?_); rintro e v2 ⟨rfl, g1⟩; have G1 := Lib.hid g1; clear g1))
                  exact ⟨rfl, WP.of_below HW1.out HW.out.inn.sz (WP.err HE.out ⟨rfl, G1.out⟩)⟩
                | ok x2 =>
                  obtain ⟨bk, o2⟩ := x2
                  have CC := Lib.hid (DC.mono (R' := fun e w' => (∃ v, e = .returned v) ∧ Sq _ p B (ms ++ [v1.heap.size]) (E.push bk) R w' o2) fun e w' hh => hh.1 _ hdr)
                  have HQ2 := Lib.hid (show (seqM (F.ex E ka) (fun o => match declareP E.fn t.name t.at_ kdl [] o with | .ok (b, o') => F.st (E.push b).inc kb o' | .error e => .error e)) o = F.st (E.push bk).inc kb o2 from by rw [HQ1.out]; simp only [hdr])
                  have HL2 := Lib.hid (show o2.len ≤ o1.len + 1 from declareP_len hdr)
                  have hneb : 0 < (E.push bk).blocks.length := by simp [Env.push]
                  have HNB := Lib.hid hneb
                  clear hdr DC hneb
                  go_wp2_with (first | (go_at_call 27; (with_reducible refine CC.out.mono ?_); rintro e v2 ⟨⟨vv2, rfl⟩, s2⟩; clear x0 x1 x2 x4 x5 d00 d01 d02 d03 d04 d05 d10 d11 d12 d13 d14 d15 lb l2 l3 lp; obtain ⟨x0, x1, x2, x4, x5, d00, d01, d02, d03, d04, d05, d10, d11, d12, d13, d14, d15, lb, l2, l3, lp⟩ := KX.out _ _ _ _ s2; have S2 := Lib.hid s2; clear s2))
                  have CC := Lib.hid (S2.out.drew.loop HG.out HU.out HNB.out (by have h1 := HBD.out; have h2 := HTS.out; have l1 := HL1.out; have l2 := HL2.out; simp only [bnd, Env.push, List.length_append, List.length_singleton] at h1 ⊢; omega) HS1.out HWF1.out HD1.out HO1.out)
                  have hTr : True := trivial
                  refine wp_region_held_drew (S := (fun w' => w'.cell? ⟨w.heap.size, 0, none⟩ = some (.pointer (some ⟨p, 0, none⟩)) ∧ w'.cell? ⟨w.heap.size + 1, 5, none⟩ = some (.slice (some ⟨b, off, none⟩) 2 cap) ∧ w'.cell? ⟨b, off + 6, none⟩ = some (.int .i64 kb.kind) ∧ w'.cell? ⟨b, off + 7, none⟩ = some (.int .i64 kb.at_) ∧ w'.cell? ⟨b, off + 8, none⟩ = some (.string kb.name) ∧ w'.cell? ⟨b, off + 9, none⟩ = some (.int .u64 kb.num) ∧ w'.cell? ⟨b, off + 10, none⟩ = some (.string kb.op) ∧ w'.cell? ⟨b, off + 11, none⟩ = some (.slice Akb kb.kids.length ckb))) (by kernel_rfl) ?_ (fun hHeld => ?_)
                  · exact ⟨x0, x5, d10, d11, d12, d13, d14, d15⟩
                  refine tk 0 ?_
                  try simp only [Act.put, z1, z2, z3]
                  refine tk 1 ?_
                  try simp only [Act.put, z1, z2, z3]
                  refine tk 2 ?_
                  try simp only [Act.put, z1, z2, z3]
                  refine tk 3 ?_
                  try simp only [Act.put, z1, z2, z3]
                  refine tk 4 ?_
                  try simp only [Act.put, z1, z2, z3]
                  refine wpAnyH_ready (rs := [5]) (by kernel_rfl) (by simp) ?_
                  refine (AllReadyH.cons (i := 5) (o := ?o16) ?h16 (fun K hK => ?k16) AllReadyH.nil)
                  case h16 => (simp only [List.getElem?_toArray, List.getElem?_cons_succ, List.getElem?_cons_zero]; try rfl)
                  case k16 =>
                    go_simp
                    have CW := CC.out
                    clear CC
                    cases hr : (F.st (E.push bk).inc kb) o2 with
                    | error cc =>
                      have CW := Lib.hid (WP.errC CW hr)
                      have HE := Lib.hid (show (seqM (F.ex E ka) (fun o => match declareP E.fn t.name t.at_ kdl [] o with | .ok (b, o') => F.st (E.push b).inc kb o' | .error e => .error e)) o = .error cc from HQ2.out.trans hr)
                      clear hr
                      obtain ⟨c1, c2⟩ := cc
                      unfold bad at CW
                      go_at_call 42
                      (with_reducible refine CW.out.mono ?_)
                      rintro e v3 ⟨rfl, g1⟩
                      go_wp2
                      exact ⟨rfl, WP.of_below HW1.out HW.out.inn.sz (WP.err HE.out ⟨rfl, g1⟩)⟩
                    | ok o3 =>
                      have CW := Lib.hid (WP.okC CW hr)
                      have HQ3 := Lib.hid (show (seqM (F.ex E ka) (fun o => match declareP E.fn t.name t.at_ kdl [] o with | .ok (b, o') => F.st (E.push b).inc kb o' | .error e => .error e)) o = .ok o3 from HQ2.out.trans hr)
                      clear hr
                      go_at_call 42
                      (with_reducible refine CW.out.mono ?_)
                      rintro e v3 ⟨⟨vv3, rfl⟩, s3⟩
                      clear x0 x1 x2 x4 x5 d00 d01 d02 d03 d04 d05 d10 d11 d12 d13 d14 d15 lb l2 l3 lp
                      obtain ⟨x0, x1, x2, x4, x5, d00, d01, d02, d03, d04, d05, d10, d11, d12, d13, d14, d15, lb, l2, l3, lp⟩ := KX.out _ _ _ _ s3
                      have S3 := Lib.hid s3
                      clear s3 CW
                      try go_wp2_with fail
                      refine hK.out _ _ ?_ (fun hHeld => ?_)
                      · exact ⟨x0, x5, d10, d11, d12, d13, d14, d15⟩
                      clear hK K
                      try simp only [Act.put, z1, z2, z3]
                      refine wpAnyH_done (by kernel_rfl) ?_ _
                      obtain ⟨R3, a3, f3, g3⟩ := S3.out
                      obtain ⟨gg, cc, hbv, _, _, hcc1, hcc2⟩ := own_some a3.inn.bl (by simp [Env.push])
                      obtain ⟨LL, hLL⟩ : ∃ LL, E.blocks.length + 1 = LL := ⟨_, rfl⟩
                      rw [show (E.push bk).blocks.length = LL by simp [Env.push, hLL]] at hbv hcc1
                      have HBV3 := Lib.hid hbv
                      have hbr := a3.blk
                      rw [hbv] at hbr
                      have r3 := hbr.cell 3
                      simp only [List.getElem?_toArray, List.getElem?_cons_succ, List.getElem?_cons_zero] at r3
                      have rf3 := hbr.frozen 3
                      have hlb := HNL.out
                      have hw1 : IntKind.i64.wrap ((LL : Int) - 1) = (E.blocks.length : Int) := by rw [IntKind.wrap_i64]; omega
                      have hk1' : (0 : Int) ≤ (E.blocks.length : Int) ∧ (E.blocks.length : Int) ≤ (LL : Int) ∧ (LL : Int) ≤ (cc : Int) ∧ (E.blocks.length : Int) ≤ (cc : Int) := by omega
                      have A3 := Lib.hid a3
                      have F3 := Lib.hid f3
                      have G3 := Lib.hid g3
                      clear hbv hbr hLL hcc1 hcc2 a3 f3 g3
                      go_wp2
                      have hTr : True := trivial
                      refine wp_region_tail (S := (fun w' => w'.cell? ⟨w.heap.size, 0, none⟩ = some (.pointer (some ⟨p, 0, none⟩)) ∧ w'.cell? ⟨p, 3, none⟩ = some (.slice (some ⟨gg, 0, none⟩) LL cc))) 12 3 rfl (by kernel_rfl) ?_ (fun hHeld => ?_)
                      · exact ⟨x0, r3⟩
                      refine tt 0 ?_
                      try simp only [Act.put, z1, z2, z3]
                      refine tt 1 ?_
                      try simp only [Act.put, z1, z2, z3]
                      refine tt 2 ?_
                      try simp only [Act.put, z1, z2, z3]
                      refine tt 3 ?_
                      try simp only [Act.put, z1, z2, z3]
                      refine tt 4 ?_
                      try simp only [Act.put, z1, z2, z3]
                      refine tt 5 ?_
                      try simp only [Act.put, z1, z2, z3]
                      refine tt 6 ?_
                      try simp only [Act.put, z1, z2, z3]
                      refine tt 7 ?_
                      try simp only [Act.put, z1, z2, z3]
                      refine tt 8 ?_
                      try simp only [Act.put, z1, z2, z3]
                      refine tt 9 ?_
                      try simp only [Act.put, z1, z2, z3]
                      refine tt 10 ?_
                      try simp only [Act.put, z1, z2, z3]
                      refine tt 11 ?_
                      try simp only [Act.put, z1, z2, z3]
                      refine wpAnyT_done (by kernel_rfl) ?_
                      refine tk 12 ?_
                      try simp only [Act.put, z1, z2, z3]
                      refine tk 13 ?_
                      try simp only [Act.put, z1, z2, z3]
                      refine wpAnyH_ready (rs := [14]) (by kernel_rfl) (by simp) ?_
                      refine (AllReadyH.cons (i := 14) (o := ?o15) ?h15 (fun K hK => ?k15) AllReadyH.nil)
                      case h15 => (simp only [List.getElem?_toArray, List.getElem?_cons_succ, List.getElem?_cons_zero]; try rfl)
                      case k15 =>
                        go_simp
                        try go_wp2_with fail
                        refine hK.out _ _ ?_ (fun hHeld => ?_)
                        · trivial
                        clear hK K
                        try simp only [Act.put, z1, z2, z3]
                        refine wpAnyH_done (by kernel_rfl) ?_ _
                        go_wp2
                        first | go_end0 | (refine bodyPost_ret (results_none rfl _ _ _) rfl ?_)
                        obtain ⟨R5, hr5, w5, f5, g5⟩ := fn_cut (R := R) (bs := E.blocks) (bk := bk) rfl A3.out HBV3.out F3.out G3.out
                        exact WP.of_below HW1.out HW.out.inn.sz (WP.ok HQ3.out ⟨⟨_, rfl⟩, R5, w5, f5, g5⟩)
end Go.Proofs.YtlenhcmgcgccmaaDoor
