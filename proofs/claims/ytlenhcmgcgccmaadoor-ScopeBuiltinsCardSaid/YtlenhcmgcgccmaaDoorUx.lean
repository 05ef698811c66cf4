/- Scope: statement. -/
import Derived.Test.YtlenhcmgcgccmaaDoorUt
import Derived.Test.YtlenhcmgcgccmaaDoorUu
namespace Go.Proofs.YtlenhcmgcgccmaaDoor
open Go.RowKit Go
set_option linter.unusedVariables false
set_option linter.unusedSimpArgs false
theorem Sq.size {w v : World} {p B : Nat} {ms : List Nat} {E : Env} {o : Out} {R : Rw} (hs : Sq w p B ms E R v o) : w.heap.size ≤ v.heap.size := by
  obtain ⟨R', a, f, g⟩ := hs
  exact f.size
theorem Sq.loop {w v : World} {p B : Nat} {ms ms0 : List Nat} {E E0 : Env} {o o0 : Out} {R : Rw} {F : WF} {n : Nat} (G : GoodW F n) (h0 : WAt w p B ms0 E0 o0 R) (hs : Sq w p B ms E R v o) (hne : 0 < E.blocks.length) {t : Tr} {kv : Value} (hbd : bnd E o + 1 + 9 * t.size ≤ 2000000) (hk : KidsAt w B kv t.kids) (hwf : t.wf1) (hd : t.fitsD n = true) (hok : OkS t) :
    Calls Tryd.prog 42 #[.pointer (some ⟨p, 0, none⟩), .agg #[.int .i64 t.kind, .int .i64 t.at_, .string t.name, .int .u64 t.num, .string t.op, kv]] v (WP w p B ms E R (F.st E.inc t o)) := by
  obtain ⟨R', a, f, g⟩ := hs
  exact (loop_calls G v p B ms E o R' t kv a hne hbd (hk.under (h0.under f)) hwf hd hok).mono fun e w' hh => hh.trans (h0.under f) f g
theorem KidsAt.kid_at {w v : World} {B b off n cap : Nat} {l : List Tr} {i : Nat} {t : Tr} {kv : Value} (h : KidsAt v B (.slice (some ⟨b, off, none⟩) n cap) l) (hi : l[i]? = some t) (hN : NodeAt w b (off + i * 6) (t.cells kv)) (hs : ∀ p : Addr, p.block < B → v.cell? p = w.cell? p) : NodeAt v b (off + i * 6) (t.cells kv) := fun j u hj => (hs ⟨b, off + i * 6 + j, none⟩ (h.kid hi).1).trans (hN j u hj)
set_option maxRecDepth 100000 in
set_option maxHeartbeats 8000000 in
theorem ws36 {F : WF} {n : Nat} (G : GoodW F n) (L : LenW F) (w : World) (p B : Nat) (ms : List Nat) (E : Env) (o : Out) (R : Rw) (t : Tr) (kv : Value) (h : WAt w p B ms E o R) (hne : 0 < E.blocks.length) (hbd : bnd E o + 9 * t.size ≤ 2000000) (hk : KidsAt w B kv t.kids) (hwf : t.wf1) (hd : t.fitsD (n + 1) = true) (hkind : t.kind = 36) {ka : Tr} {kb : Tr} (hkids : t.kids = [ka, kb]) (ho0 : OkX ka) (ho1 : OkS kb) :
    WCall 28 w p B ms E R t kv (stW F E t o) := by
  have hgo : stW F E t o = (seqM (F.ex E ka) (F.st E.inc kb)) o := by unfold stW; simp [hkind, hkids]
  unfold WCall
  rw [hgo]
  clear hgo
  have hlen : t.kids.length = 2 := by rw [hkids]; rfl
  have hts := Tr.size_eq t
  rw [hkids] at hts
  simp only [Tr.sizes_cons, Tr.sizes_nil] at hts
  obtain ⟨A, cap, rfl, hcl, hcm, hA⟩ := hk.slice
  obtain ⟨b, off, rfl, hbB⟩ := hA (by omega)
  rw [hlen] at hk hcl ⊢
  rw [hkind]
  have hi0 : t.kids[0]? = some ka := by rw [hkids]; rfl
  have hd0 := Tr.fitsD_kid hd (List.mem_of_getElem? hi0)
  obtain ⟨_, hw0, kv0, hn0, hs0⟩ := hk.kid hi0
  obtain ⟨Aka, cka, rfl, _, _, _⟩ := hs0.slice
  obtain ⟨d00, d01, d02, d03, d04, d05⟩ := kcells hn0 (off) (by omega)
  have hi1 : t.kids[1]? = some kb := by rw [hkids]; rfl
  have hd1 := Tr.fitsD_kid hd (List.mem_of_getElem? hi1)
  obtain ⟨_, hw1, kv1, hn1, hs1⟩ := hk.kid hi1
  obtain ⟨Akb, ckb, rfl, _, _, _⟩ := hs1.slice
  obtain ⟨d10, d11, d12, d13, d14, d15⟩ := kcells hn1 (off + 6) (by omega)
  obtain ⟨U, hU⟩ : ∃ U, ((w.alloc (.cells #[.pointer (some ⟨p, 0, none⟩)] 60)).alloc (.cells #[.int .i64 36, .int .i64 t.at_, .string t.name, .int .u64 t.num, .string t.op, .slice (some ⟨b, off, none⟩) 2 cap] 31)) = U := ⟨_, rfl⟩
  have W1 : Below w.heap.size w U := by rw [← hU]; exact below_alloc (below_alloc (Below.refl _ _))
  have h1 := h.fr W1
  have b2 : Blk U w.heap.size 60 #[.pointer (some ⟨p, 0, none⟩)] := by rw [← hU]; exact (Blk.new _ _ _).alloc _
  have b3 : Blk U (w.heap.size + 1) 31 #[.int .i64 36, .int .i64 t.at_, .string t.name, .int .u64 t.num, .string t.op, .slice (some ⟨b, off, none⟩) 2 cap] := by rw [← hU]; have h1 := Blk.new (w.alloc (.cells #[.pointer (some ⟨p, 0, none⟩)] 60)) 31 #[.int .i64 36, .int .i64 t.at_, .string t.name, .int .u64 t.num, .string t.op, .slice (some ⟨b, off, none⟩) 2 cap]; rw [size_alloc] at h1; exact h1
  have hbw : b < U.heap.size := Nat.lt_of_lt_of_le (Nat.lt_of_lt_of_le hbB h.inn.sz) W1.size
  have KX := Lib.hid (fun (v : World) (ms' : List Nat) (E' : Env) (o' : Out) (s : Sq U p B ms' E' R v o') => show v.cell? ⟨w.heap.size, 0, none⟩ = some (.pointer (some ⟨p, 0, none⟩)) ∧ v.cell? ⟨w.heap.size + 1, 1, none⟩ = some (.int .i64 t.at_) ∧ v.cell? ⟨w.heap.size + 1, 2, none⟩ = some (.string t.name) ∧ v.cell? ⟨w.heap.size + 1, 4, none⟩ = some (.string t.op) ∧ v.cell? ⟨w.heap.size + 1, 5, none⟩ = some (.slice (some ⟨b, off, none⟩) 2 cap) ∧ v.cell? ⟨b, off, none⟩ = some (.int .i64 ka.kind) ∧ v.cell? ⟨b, off + 1, none⟩ = some (.int .i64 ka.at_) ∧ v.cell? ⟨b, off + 2, none⟩ = some (.string ka.name) ∧ v.cell? ⟨b, off + 3, none⟩ = some (.int .u64 ka.num) ∧ v.cell? ⟨b, off + 4, none⟩ = some (.string ka.op) ∧ v.cell? ⟨b, off + 5, none⟩ = some (.slice Aka ka.kids.length cka) ∧ v.cell? ⟨b, off + 6, none⟩ = some (.int .i64 kb.kind) ∧ v.cell? ⟨b, off + 7, none⟩ = some (.int .i64 kb.at_) ∧ v.cell? ⟨b, off + 8, none⟩ = some (.string kb.name) ∧ v.cell? ⟨b, off + 9, none⟩ = some (.int .u64 kb.num) ∧ v.cell? ⟨b, off + 10, none⟩ = some (.string kb.op) ∧ v.cell? ⟨b, off + 11, none⟩ = some (.slice Akb kb.kids.length ckb) ∧ b < v.heap.size ∧ w.heap.size < v.heap.size ∧ w.heap.size + 1 < v.heap.size ∧ p < v.heap.size from ⟨s.cel h1 b2 (by decide) 0 rfl, s.cel h1 b3 (by decide) 1 rfl, s.cel h1 b3 (by decide) 2 rfl, s.cel h1 b3 (by decide) 4 rfl, s.cel h1 b3 (by decide) 5 rfl, s.old h1 hbB (((W1.mono h.inn.sz).cell (p := ⟨b, off, none⟩) hbB).trans d00), s.old h1 hbB (((W1.mono h.inn.sz).cell (p := ⟨b, off + 1, none⟩) hbB).trans d01), s.old h1 hbB (((W1.mono h.inn.sz).cell (p := ⟨b, off + 2, none⟩) hbB).trans d02), s.old h1 hbB (((W1.mono h.inn.sz).cell (p := ⟨b, off + 3, none⟩) hbB).trans d03), s.old h1 hbB (((W1.mono h.inn.sz).cell (p := ⟨b, off + 4, none⟩) hbB).trans d04), s.old h1 hbB (((W1.mono h.inn.sz).cell (p := ⟨b, off + 5, none⟩) hbB).trans d05), s.old h1 hbB (((W1.mono h.inn.sz).cell (p := ⟨b, off + 6, none⟩) hbB).trans d10), s.old h1 hbB (((W1.mono h.inn.sz).cell (p := ⟨b, off + 7, none⟩) hbB).trans d11), s.old h1 hbB (((W1.mono h.inn.sz).cell (p := ⟨b, off + 8, none⟩) hbB).trans d12), s.old h1 hbB (((W1.mono h.inn.sz).cell (p := ⟨b, off + 9, none⟩) hbB).trans d13), s.old h1 hbB (((W1.mono h.inn.sz).cell (p := ⟨b, off + 10, none⟩) hbB).trans d14), s.old h1 hbB (((W1.mono h.inn.sz).cell (p := ⟨b, off + 11, none⟩) hbB).trans d15), Nat.lt_of_lt_of_le hbw s.size, (s.blk h1 b2 (by decide)).lt, (s.blk h1 b3 (by decide)).lt, Nat.lt_of_lt_of_le h1.blk.lt s.size⟩)
  have HU := Lib.hid h1
  have HW := Lib.hid h
  have HW1 := Lib.hid W1
  have S0 := Lib.hid (Sq.refl h1)
  have HNE := Lib.hid hne
  have HG := Lib.hid G
  have HLen := Lib.hid L
  have HBD := Lib.hid hbd
  have HTS := Lib.hid hts
  have HWFT := Lib.hid hwf
  have HKT := Lib.hid (hk.under (W1.mono h.inn.sz))
  have HS0 := Lib.hid (hs0.under (W1.mono h.inn.sz))
  have HWF0 := Lib.hid hw0
  have HD0 := Lib.hid hd0
  have HO0 := Lib.hid ho0
  have HS1 := Lib.hid (hs1.under (W1.mono h.inn.sz))
  have HWF1 := Lib.hid hw1
  have HD1 := Lib.hid hd1
  have HO1 := Lib.hid ho1
  have hq2 : w.heap.size ≠ b := by have := h.inn.sz; omega
  have hq3 : w.heap.size + 1 ≠ b := by have := h.inn.sz; omega
  have hcl' : (2 : Int) ≤ (cap : Int) := by omega
  have HB2 := Lib.hid b2
  have HB3 := Lib.hid b3
  clear h hne hbd hk hwf hd hkind hkids hlen hts hcm hA W1 h1 b2 b3 hbw G L hi0 hd0 hw0 hn0 hs0 ho0 hi1 hd1 hw1 hn1 hs1 ho1
  obtain ⟨x0, x1, x2, x4, x5, d00, d01, d02, d03, d04, d05, d10, d11, d12, d13, d14, d15, lb, l2, l3, lp⟩ := KX.out _ _ _ _ S0.out
  subst hU
  go_enter Tryd.func28, Tryd.ntmps28
  go_wp2
  have CC := Lib.hid (S0.out.drew.ex HG.out HU.out HNE.out (by have h1 := HBD.out; have h2 := HTS.out; simp only [bnd] at h1 ⊢; omega) HS0.out HWF0.out HD0.out HO0.out)
  have hTr : True := trivial
  refine wp_region_held_drew (S := (fun w' => w'.cell? ⟨w.heap.size, 0, none⟩ = some (.pointer (some ⟨p, 0, none⟩)) ∧ w'.cell? ⟨w.heap.size + 1, 5, none⟩ = some (.slice (some ⟨b, off, none⟩) 2 cap) ∧ w'.cell? ⟨b, off, none⟩ = some (.int .i64 ka.kind) ∧ w'.cell? ⟨b, off + 1, none⟩ = some (.int .i64 ka.at_) ∧ w'.cell? ⟨b, off + 2, none⟩ = some (.string ka.name) ∧ w'.cell? ⟨b, off + 3, none⟩ = some (.int .u64 ka.num) ∧ w'.cell? ⟨b, off + 4, none⟩ = some (.string ka.op) ∧ w'.cell? ⟨b, off + 5, none⟩ = some (.slice Aka ka.kids.length cka))) (by kernel_rfl) ?_ (fun hHeld => ?_)
  · exact ⟨x0, x5, d00, d01, d02, d03, d04, d05⟩
  refine tk 0 ?_
  try simp only [Act.put, z1, z2, z3]
  refine tk 1 ?_
  try simp only [Act.put, z1, z2, z3]
  refine tk 2 ?_
  try simp only [Act.put, z1, z2, z3]
  refine tk 3 ?_
  try simp only [Act.put, z1, z2, z3]
  refine tk 4 ?_
  try simp only [Act.put, z1, z2, z3]
  refine wpAnyH_ready (rs := [5]) (by kernel_rfl) (by simp) ?_
  refine (AllReadyH.cons (i := 5) (o := ?o2) ?h2 (fun K hK => ?k2) AllReadyH.nil)
  case h2 => (simp only [List.getElem?_toArray, List.getElem?_cons_succ, List.getElem?_cons_zero]; try rfl)
  case k2 =>
    go_simp
    have CW := CC.out
    clear CC
    cases hr : (F.ex E ka) o with
    | error cc =>
      have CW := Lib.hid (WP.errC CW hr)
      have HE := Lib.hid (show (seqM (F.ex E ka) (F.st E.inc kb)) o = .error cc from (seqM_err hr))
      clear hr
      obtain ⟨c1, c2⟩ := cc
      unfold bad at CW
      go_at_call 41
      (with_reducible refine CW.out.mono ?_)
      rintro e v1 ⟨rfl, g1⟩
      go_wp2
      exact ⟨rfl, WP.of_below HW1.out HW.out.inn.sz (WP.err HE.out ⟨rfl, g1⟩)⟩
    | ok o1 =>
      have CW := Lib.hid (WP.okC CW hr)
      have HQ1 := Lib.hid (show (seqM (F.ex E ka) (F.st E.inc kb)) o = (F.st E.inc kb) o1 from seqM_ok hr)
      have HL1 := Lib.hid (show o1.len + 1 ≤ o.len + 4 * (ka.size) from by have h1 := HLen.out.ex E ka o o1 hr; omega)
      clear hr
      go_at_call 41
      (with_reducible refine CW.out.mono ?_)
      rintro e v1 ⟨⟨vv, rfl⟩, s1⟩
      clear x0 x1 x2 x4 x5 d00 d01 d02 d03 d04 d05 d10 d11 d12 d13 d14 d15 lb l2 l3 lp
      obtain ⟨x0, x1, x2, x4, x5, d00, d01, d02, d03, d04, d05, d10, d11, d12, d13, d14, d15, lb, l2, l3, lp⟩ := KX.out _ _ _ _ s1
      have S1 := Lib.hid s1
      clear s1 CW
      try go_wp2_with fail
      refine hK.out _ _ ?_ (fun hHeld => ?_)
      · exact ⟨x0, x5, d00, d01, d02, d03, d04, d05⟩
      clear hK K
      try simp only [Act.put, z1, z2, z3]
      refine wpAnyH_done (by kernel_rfl) ?_ _
      go_wp2
      have CC := Lib.hid (S1.out.drew.loop HG.out HU.out HNE.out (by have h1 := HBD.out; have h2 := HTS.out; simp only [bnd] at h1 ⊢; have l1 := HL1.out; omega) HS1.out HWF1.out HD1.out HO1.out)
      have hTr : True := trivial
      refine wp_region_held_drew (S := (fun w' => w'.cell? ⟨w.heap.size, 0, none⟩ = some (.pointer (some ⟨p, 0, none⟩)) ∧ w'.cell? ⟨w.heap.size + 1, 5, none⟩ = some (.slice (some ⟨b, off, none⟩) 2 cap) ∧ w'.cell? ⟨b, off + 6, none⟩ = some (.int .i64 kb.kind) ∧ w'.cell? ⟨b, off + 7, none⟩ = some (.int .i64 kb.at_) ∧ w'.cell? ⟨b, off + 8, none⟩ = some (.string kb.name) ∧ w'.cell? ⟨b, off + 9, none⟩ = some (.int .u64 kb.num) ∧ w'.cell? ⟨b, off + 10, none⟩ = some (.string kb.op) ∧ w'.cell? ⟨b, off + 11, none⟩ = some (.slice Akb kb.kids.length ckb))) (by kernel_rfl) ?_ (fun hHeld => ?_)
      · exact ⟨x0, x5, d10, d11, d12, d13, d14, d15⟩
      refine tk 0 ?_
      try simp only [Act.put, z1, z2, z3]
      refine tk 1 ?_
      try simp only [Act.put, z1, z2, z3]
      refine tk 2 ?_
      try simp only [Act.put, z1, z2, z3]
      refine tk 3 ?_
      try simp only [Act.put, z1, z2, z3]
      refine tk 4 ?_
      try simp only [Act.put, z1, z2, z3]
      refine wpAnyH_ready (rs := [5]) (by kernel_rfl) (by simp) ?_
      refine (AllReadyH.cons (i := 5) (o := ?o1) ?h1 (fun K hK => ?k1) AllReadyH.nil)
      case h1 => (simp only [List.getElem?_toArray, List.getElem?_cons_succ, List.getElem?_cons_zero]; try rfl)
      case k1 =>
        go_simp
        have CW := CC.out
        clear CC
        cases hr : (F.st E.inc kb) o1 with
        | error cc =>
          have CW := Lib.hid (WP.errC CW hr)
          have HE := Lib.hid (show (seqM (F.ex E ka) (F.st E.inc kb)) o = .error cc from (HQ1.out.trans (hr)))
          clear hr
          obtain ⟨c1, c2⟩ := cc
          unfold bad at CW
          go_at_call 42
          (with_reducible refine CW.out.mono ?_)
          rintro e v2 ⟨rfl, g1⟩
          go_wp2
          exact ⟨rfl, WP.of_below HW1.out HW.out.inn.sz (WP.err HE.out ⟨rfl, g1⟩)⟩
        | ok o2 =>
          have CW := Lib.hid (WP.okC CW hr)
          have HQ2 := Lib.hid (show (seqM (F.ex E ka) (F.st E.inc kb)) o = .ok o2 from HQ1.out.trans hr)
          have HL2 := Lib.hid (show o2.len + 2 ≤ o.len + 4 * (ka.size + kb.size) from by have h1 := HLen.out.st E.inc kb o1 o2 hr; have h2 := HL1.out; omega)
          clear hr
          go_at_call 42
          (with_reducible refine CW.out.mono ?_)
          rintro e v2 ⟨⟨vv, rfl⟩, s2⟩
          clear x0 x1 x2 x4 x5 d00 d01 d02 d03 d04 d05 d10 d11 d12 d13 d14 d15 lb l2 l3 lp
          obtain ⟨x0, x1, x2, x4, x5, d00, d01, d02, d03, d04, d05, d10, d11, d12, d13, d14, d15, lb, l2, l3, lp⟩ := KX.out _ _ _ _ s2
          have S2 := Lib.hid s2
          clear s2 CW
          try go_wp2_with fail
          refine hK.out _ _ ?_ (fun hHeld => ?_)
          · exact ⟨x0, x5, d10, d11, d12, d13, d14, d15⟩
          clear hK K
          try simp only [Act.put, z1, z2, z3]
          refine wpAnyH_done (by kernel_rfl) ?_ _
          go_wp2
          first | go_end0 | (refine bodyPost_ret (results_none rfl _ _ _) rfl ?_)
          obtain ⟨R9, w9, f9, q9⟩ := S2.out
          exact WP.of_below HW1.out HW.out.inn.sz (WP.ok HQ2.out ⟨⟨_, rfl⟩, R9, w9, f9, q9⟩)
set_option maxRecDepth 100000 in
set_option maxHeartbeats 8000000 in
theorem ws35 {F : WF} {n : Nat} (G : GoodW F n) (L : LenW F) (w : World) (p B : Nat) (ms : List Nat) (E : Env) (o : Out) (R : Rw) (t : Tr) (kv : Value) (h : WAt w p B ms E o R) (hne : 0 < E.blocks.length) (hbd : bnd E o + 9 * t.size ≤ 2000000) (hk : KidsAt w B kv t.kids) (hwf : t.wf1) (hd : t.fitsD (n + 1) = true) (hkind : t.kind = 35) {ka : Tr} {kb : Tr} {kc : Tr} (hkids : t.kids = [ka, kb, kc]) (ho0 : OkX ka) (ho1 : OkS kb) (ho2 : OkS kc) :
    WCall 28 w p B ms E R t kv (stW F E t o) := by
  have hgo : stW F E t o = (seqM (F.ex E ka) (seqM (F.st E kb) (F.st E kc))) o := by unfold stW; simp [hkind, hkids]
  unfold WCall
  rw [hgo]
  clear hgo
  have hlen : t.kids.length = 3 := by rw [hkids]; rfl
  have hts := Tr.size_eq t
  rw [hkids] at hts
  simp only [Tr.sizes_cons, Tr.sizes_nil] at hts
  obtain ⟨A, cap, rfl, hcl, hcm, hA⟩ := hk.slice
  obtain ⟨b, off, rfl, hbB⟩ := hA (by omega)
  rw [hlen] at hk hcl ⊢
  rw [hkind]
  have hi0 : t.kids[0]? = some ka := by rw [hkids]; rfl
  have hd0 := Tr.fitsD_kid hd (List.mem_of_getElem? hi0)
  obtain ⟨_, hw0, kv0, hn0, hs0⟩ := hk.kid hi0
  obtain ⟨Aka, cka, rfl, _, _, _⟩ := hs0.slice
  obtain ⟨d00, d01, d02, d03, d04, d05⟩ := kcells hn0 (off) (by omega)
  have hi1 : t.kids[1]? = some kb := by rw [hkids]; rfl
  have hd1 := Tr.fitsD_kid hd (List.mem_of_getElem? hi1)
  obtain ⟨_, hw1, kv1, hn1, hs1⟩ := hk.kid hi1
  obtain ⟨Akb, ckb, rfl, _, _, _⟩ := hs1.slice
  obtain ⟨d10, d11, d12, d13, d14, d15⟩ := kcells hn1 (off + 6) (by omega)
  have hi2 : t.kids[2]? = some kc := by rw [hkids]; rfl
  have hd2 := Tr.fitsD_kid hd (List.mem_of_getElem? hi2)
  obtain ⟨_, hw2, kv2, hn2, hs2⟩ := hk.kid hi2
  obtain ⟨Akc, ckc, rfl, _, _, _⟩ := hs2.slice
  obtain ⟨d20, d21, d22, d23, d24, d25⟩ := kcells hn2 (off + 12) (by omega)
  obtain ⟨U, hU⟩ : ∃ U, ((w.alloc (.cells #[.pointer (some ⟨p, 0, none⟩)] 60)).alloc (.cells #[.int .i64 35, .int .i64 t.at_, .string t.name, .int .u64 t.num, .string t.op, .slice (some ⟨b, off, none⟩) 3 cap] 31)) = U := ⟨_, rfl⟩
  have W1 : Below w.heap.size w U := by rw [← hU]; exact below_alloc (below_alloc (Below.refl _ _))
  have h1 := h.fr W1
  have b2 : Blk U w.heap.size 60 #[.pointer (some ⟨p, 0, none⟩)] := by rw [← hU]; exact (Blk.new _ _ _).alloc _
  have b3 : Blk U (w.heap.size + 1) 31 #[.int .i64 35, .int .i64 t.at_, .string t.name, .int .u64 t.num, .string t.op, .slice (some ⟨b, off, none⟩) 3 cap] := by rw [← hU]; have h1 := Blk.new (w.alloc (.cells #[.pointer (some ⟨p, 0, none⟩)] 60)) 31 #[.int .i64 35, .int .i64 t.at_, .string t.name, .int .u64 t.num, .string t.op, .slice (some ⟨b, off, none⟩) 3 cap]; rw [size_alloc] at h1; exact h1
  have hbw : b < U.heap.size := Nat.lt_of_lt_of_le (Nat.lt_of_lt_of_le hbB h.inn.sz) W1.size
  have KX := Lib.hid (fun (v : World) (ms' : List Nat) (E' : Env) (o' : Out) (s : Sq U p B ms' E' R v o') => show v.cell? ⟨w.heap.size, 0, none⟩ = some (.pointer (some ⟨p, 0, none⟩)) ∧ v.cell? ⟨w.heap.size + 1, 1, none⟩ = some (.int .i64 t.at_) ∧ v.cell? ⟨w.heap.size + 1, 2, none⟩ = some (.string t.name) ∧ v.cell? ⟨w.heap.size + 1, 4, none⟩ = some (.string t.op) ∧ v.cell? ⟨w.heap.size + 1, 5, none⟩ = some (.slice (some ⟨b, off, none⟩) 3 cap) ∧ v.cell? ⟨b, off, none⟩ = some (.int .i64 ka.kind) ∧ v.cell? ⟨b, off + 1, none⟩ = some (.int .i64 ka.at_) ∧ v.cell? ⟨b, off + 2, none⟩ = some (.string ka.name) ∧ v.cell? ⟨b, off + 3, none⟩ = some (.int .u64 ka.num) ∧ v.cell? ⟨b, off + 4, none⟩ = some (.string ka.op) ∧ v.cell? ⟨b, off + 5, none⟩ = some (.slice Aka ka.kids.length cka) ∧ v.cell? ⟨b, off + 6, none⟩ = some (.int .i64 kb.kind) ∧ v.cell? ⟨b, off + 7, none⟩ = some (.int .i64 kb.at_) ∧ v.cell? ⟨b, off + 8, none⟩ = some (.string kb.name) ∧ v.cell? ⟨b, off + 9, none⟩ = some (.int .u64 kb.num) ∧ v.cell? ⟨b, off + 10, none⟩ = some (.string kb.op) ∧ v.cell? ⟨b, off + 11, none⟩ = some (.slice Akb kb.kids.length ckb) ∧ v.cell? ⟨b, off + 12, none⟩ = some (.int .i64 kc.kind) ∧ v.cell? ⟨b, off + 13, none⟩ = some (.int .i64 kc.at_) ∧ v.cell? ⟨b, off + 14, none⟩ = some (.string kc.name) ∧ v.cell? ⟨b, off + 15, none⟩ = some (.int .u64 kc.num) ∧ v.cell? ⟨b, off + 16, none⟩ = some (.string kc.op) ∧ v.cell? ⟨b, off + 17, none⟩ = some (.slice Akc kc.kids.length ckc) ∧ b < v.heap.size ∧ w.heap.size < v.heap.size ∧ w.heap.size + 1 < v.heap.size ∧ p < v.heap.size from ⟨s.cel h1 b2 (by decide) 0 rfl, s.cel h1 b3 (by decide) 1 rfl, s.cel h1 b3 (by decide) 2 rfl, s.cel h1 b3 (by decide) 4 rfl, s.cel h1 b3 (by decide) 5 rfl, s.old h1 hbB (((W1.mono h.inn.sz).cell (p := ⟨b, off, none⟩) hbB).trans d00), s.old h1 hbB (((W1.mono h.inn.sz).cell (p := ⟨b, off + 1, none⟩) hbB).trans d01), s.old h1 hbB (((W1.mono h.inn.sz).cell (p := ⟨b, off + 2, none⟩) hbB).trans d02), s.old h1 hbB (((W1.mono h.inn.sz).cell (p := ⟨b, off + 3, none⟩) hbB).trans d03), s.old h1 hbB (((W1.mono h.inn.sz).cell (p := ⟨b, off + 4, none⟩) hbB).trans d04), s.old h1 hbB (((W1.mono h.inn.sz).cell (p := ⟨b, off + 5, none⟩) hbB).trans d05), s.old h1 hbB (((W1.mono h.inn.sz).cell (p := ⟨b, off + 6, none⟩) hbB).trans d10), s.old h1 hbB (((W1.mono h.inn.sz).cell (p := ⟨b, off + 7, none⟩) hbB).trans d11), s.old h1 hbB (((W1.mono h.inn.sz).cell (p := ⟨b, off + 8, none⟩) hbB).trans d12), s.old h1 hbB (((W1.mono h.inn.sz).cell (p := ⟨b, off + 9, none⟩) hbB).trans d13), s.old h1 hbB (((W1.mono h.inn.sz).cell (p := ⟨b, off + 10, none⟩) hbB).trans d14), s.old h1 hbB (((W1.mono h.inn.sz).cell (p := ⟨b, off + 11, none⟩) hbB).trans d15), s.old h1 hbB (((W1.mono h.inn.sz).cell (p := ⟨b, off + 12, none⟩) hbB).trans d20), s.old h1 hbB (((W1.mono h.inn.sz).cell (p := ⟨b, off + 13, none⟩) hbB).trans d21), s.old h1 hbB (((W1.mono h.inn.sz).cell (p := ⟨b, off + 14, none⟩) hbB).trans d22), s.old h1 hbB (((W1.mono h.inn.sz).cell (p := ⟨b, off + 15, none⟩) hbB).trans d23), s.old h1 hbB (((W1.mono h.inn.sz).cell (p := ⟨b, off + 16, none⟩) hbB).trans d24), s.old h1 hbB (((W1.mono h.inn.sz).cell (p := ⟨b, off + 17, none⟩) hbB).trans d25), Nat.lt_of_lt_of_le hbw s.size, (s.blk h1 b2 (by decide)).lt, (s.blk h1 b3 (by decide)).lt, Nat.lt_of_lt_of_le h1.blk.lt s.size⟩)
  have HU := Lib.hid h1
  have HW := Lib.hid h
  have HW1 := Lib.hid W1
  have S0 := Lib.hid (Sq.refl h1)
  have HNE := Lib.hid hne
  have HG := Lib.hid G
  have HLen := Lib.hid L
  have HBD := Lib.hid hbd
  have HTS := Lib.hid hts
  have HWFT := Lib.hid hwf
  have HKT := Lib.hid (hk.under (W1.mono h.inn.sz))
  have HS0 := Lib.hid (hs0.under (W1.mono h.inn.sz))
  have HWF0 := Lib.hid hw0
  have HD0 := Lib.hid hd0
  have HO0 := Lib.hid ho0
  have HS1 := Lib.hid (hs1.under (W1.mono h.inn.sz))
  have HWF1 := Lib.hid hw1
  have HD1 := Lib.hid hd1
  have HO1 := Lib.hid ho1
  have HS2 := Lib.hid (hs2.under (W1.mono h.inn.sz))
  have HWF2 := Lib.hid hw2
  have HD2 := Lib.hid hd2
  have HO2 := Lib.hid ho2
  have hq2 : w.heap.size ≠ b := by have := h.inn.sz; omega
  have hq3 : w.heap.size + 1 ≠ b := by have := h.inn.sz; omega
  have hcl' : (3 : Int) ≤ (cap : Int) := by omega
  have HB2 := Lib.hid b2
  have HB3 := Lib.hid b3
  clear h hne hbd hk hwf hd hkind hkids hlen hts hcm hA W1 h1 b2 b3 hbw G L hi0 hd0 hw0 hn0 hs0 ho0 hi1 hd1 hw1 hn1 hs1 ho1 hi2 hd2 hw2 hn2 hs2 ho2
  obtain ⟨x0, x1, x2, x4, x5, d00, d01, d02, d03, d04, d05, d10, d11, d12, d13, d14, d15, d20, d21, d22, d23, d24, d25, lb, l2, l3, lp⟩ := KX.out _ _ _ _ S0.out
  subst hU
  go_enter Tryd.func28, Tryd.ntmps28
  go_wp2
  have CC := Lib.hid (S0.out.drew.ex HG.out HU.out HNE.out (by have h1 := HBD.out; have h2 := HTS.out; simp only [bnd] at h1 ⊢; omega) HS0.out HWF0.out HD0.out HO0.out)
  have hTr : True := trivial
  refine wp_region_held_drew (S := (fun w' => w'.cell? ⟨w.heap.size, 0, none⟩ = some (.pointer (some ⟨p, 0, none⟩)) ∧ w'.cell? ⟨w.heap.size + 1, 5, none⟩ = some (.slice (some ⟨b, off, none⟩) 3 cap) ∧ w'.cell? ⟨b, off, none⟩ = some (.int .i64 ka.kind) ∧ w'.cell? ⟨b, off + 1, none⟩ = some (.int .i64 ka.at_) ∧ w'.cell? ⟨b, off + 2, none⟩ = some (.string ka.name) ∧ w'.cell? ⟨b, off + 3, none⟩ = some (.int .u64 ka.num) ∧ w'.cell? ⟨b, off + 4, none⟩ = some (.string ka.op) ∧ w'.cell? ⟨b, off + 5, none⟩ = some (.slice Aka ka.kids.length cka))) (by kernel_rfl) ?_ (fun hHeld => ?_)
  · exact ⟨x0, x5, d00, d01, d02, d03, d04, d05⟩
  refine tk 0 ?_
  try simp only [Act.put, z1, z2, z3]
  refine tk 1 ?_
  try simp only [Act.put, z1, z2, z3]
  refine tk 2 ?_
  try simp only [Act.put, z1, z2, z3]
  refine tk 3 ?_
  try simp only [Act.put, z1, z2, z3]
  refine tk 4 ?_
  try simp only [Act.put, z1, z2, z3]
  refine wpAnyH_ready (rs := [5]) (by kernel_rfl) (by simp) ?_
  refine (AllReadyH.cons (i := 5) (o := ?o5) ?h5 (fun K hK => ?k5) AllReadyH.nil)
  case h5 => (simp only [List.getElem?_toArray, List.getElem?_cons_succ, List.getElem?_cons_zero]; try rfl)
  case k5 =>
    go_simp
    have CW := CC.out
    clear CC
    cases hr : (F.ex E ka) o with
    | error cc =>
      have CW := Lib.hid (WP.errC CW hr)
      have HE := Lib.hid (show (seqM (F.ex E ka) (seqM (F.st E kb) (F.st E kc))) o = .error cc from (seqM_err hr))
      clear hr
      obtain ⟨c1, c2⟩ := cc
      unfold bad at CW
      go_at_call 41
      (with_reducible refine CW.out.mono ?_)
      rintro e v1 ⟨rfl, g1⟩
      go_wp2
      exact ⟨rfl, WP.of_below HW1.out HW.out.inn.sz (WP.err HE.out ⟨rfl, g1⟩)⟩
    | ok o1 =>
      have CW := Lib.hid (WP.okC CW hr)
      have HQ1 := Lib.hid (show (seqM (F.ex E ka) (seqM (F.st E kb) (F.st E kc))) o = (seqM (F.st E kb) (F.st E kc)) o1 from seqM_ok hr)
      have HL1 := Lib.hid (show o1.len + 1 ≤ o.len + 4 * (ka.size) from by have h1 := HLen.out.ex E ka o o1 hr; omega)
      clear hr
      go_at_call 41
      (with_reducible refine CW.out.mono ?_)
      rintro e v1 ⟨⟨vv, rfl⟩, s1⟩
      clear x0 x1 x2 x4 x5 d00 d01 d02 d03 d04 d05 d10 d11 d12 d13 d14 d15 d20 d21 d22 d23 d24 d25 lb l2 l3 lp
      obtain ⟨x0, x1, x2, x4, x5, d00, d01, d02, d03, d04, d05, d10, d11, d12, d13, d14, d15, d20, d21, d22, d23, d24, d25, lb, l2, l3, lp⟩ := KX.out _ _ _ _ s1
      have S1 := Lib.hid s1
      clear s1 CW
      try go_wp2_with fail
      refine hK.out _ _ ?_ (fun hHeld => ?_)
      · exact ⟨x0, x5, d00, d01, d02, d03, d04, d05⟩
      clear hK K
      try simp only [Act.put, z1, z2, z3]
      refine wpAnyH_done (by kernel_rfl) ?_ _
      go_wp2
      have CC := Lib.hid (S1.out.drew.st HG.out HU.out HNE.out (by have h1 := HBD.out; have h2 := HTS.out; simp only [bnd] at h1 ⊢; have l1 := HL1.out; omega) HS1.out HWF1.out HD1.out HO1.out)
      have hTr : True := trivial
      refine wp_region_held_drew (S := (fun w' => w'.cell? ⟨w.heap.size, 0, none⟩ = some (.pointer (some ⟨p, 0, none⟩)) ∧ w'.cell? ⟨w.heap.size + 1, 5, none⟩ = some (.slice (some ⟨b, off, none⟩) 3 cap) ∧ w'.cell? ⟨b, off + 6, none⟩ = some (.int .i64 kb.kind) ∧ w'.cell? ⟨b, off + 7, none⟩ = some (.int .i64 kb.at_) ∧ w'.cell? ⟨b, off + 8, none⟩ = some (.string kb.name) ∧ w'.cell? ⟨b, off + 9, none⟩ = some (.int .u64 kb.num) ∧ w'.cell? ⟨b, off + 10, none⟩ = some (.string kb.op) ∧ w'.cell? ⟨b, off + 11, none⟩ = some (.slice Akb kb.kids.length ckb))) (by kernel_rfl) ?_ (fun hHeld => ?_)
      · exact ⟨x0, x5, d10, d11, d12, d13, d14, d15⟩
      refine tk 0 ?_
      try simp only [Act.put, z1, z2, z3]
      refine tk 1 ?_
      try simp only [Act.put, z1, z2, z3]
      refine tk 2 ?_
      try simp only [Act.put, z1, z2, z3]
      refine tk 3 ?_
      try simp only [Act.put, z1, z2, z3]
      refine tk 4 ?_
      try simp only [Act.put, z1, z2, z3]
      refine wpAnyH_ready (rs := [5]) (by kernel_rfl) (by simp) ?_
      refine (AllReadyH.cons (i := 5) (o := ?o4) ?h4 (fun K hK => ?k4) AllReadyH.nil)
      case h4 => (simp only [List.getElem?_toArray, List.getElem?_cons_succ, List.getElem?_cons_zero]; try rfl)
      case k4 =>
        go_simp
        have CW := CC.out
        clear CC
        cases hr : (F.st E kb) o1 with
        | error cc =>
          have CW := Lib.hid (WP.errC CW hr)
          have HE := Lib.hid (show (seqM (F.ex E ka) (seqM (F.st E kb) (F.st E kc))) o = .error cc from (HQ1.out.trans (seqM_err hr)))
          clear hr
          obtain ⟨c1, c2⟩ := cc
          unfold bad at CW
          go_at_call 28
          (with_reducible refine CW.out.mono ?_)
          rintro e v2 ⟨rfl, g1⟩
          go_wp2
          exact ⟨rfl, WP.of_below HW1.out HW.out.inn.sz (WP.err HE.out ⟨rfl, g1⟩)⟩
        | ok o2 =>
          have CW := Lib.hid (WP.okC CW hr)
          have HQ2 := Lib.hid (show (seqM (F.ex E ka) (seqM (F.st E kb) (F.st E kc))) o = (F.st E kc) o2 from HQ1.out.trans (seqM_ok hr))
          have HL2 := Lib.hid (show o2.len + 2 ≤ o.len + 4 * (ka.size + kb.size) from by have h1 := HLen.out.st E kb o1 o2 hr; have h2 := HL1.out; omega)
          clear hr
          go_at_call 28
          (with_reducible refine CW.out.mono ?_)
          rintro e v2 ⟨⟨vv, rfl⟩, s2⟩
          clear x0 x1 x2 x4 x5 d00 d01 d02 d03 d04 d05 d10 d11 d12 d13 d14 d15 d20 d21 d22 d23 d24 d25 lb l2 l3 lp
          obtain ⟨x0, x1, x2, x4, x5, d00, d01, d02, d03, d04, d05, d10, d11, d12, d13, d14, d15, d20, d21, d22, d23, d24, d25, lb, l2, l3, lp⟩ := KX.out _ _ _ _ s2
          have S2 := Lib.hid s2
          clear s2 CW
          try go_wp2_with fail
          refine hK.out _ _ ?_ (fun hHeld => ?_)
          · exact ⟨x0, x5, d10, d11, d12, d13, d14, d15⟩
          clear hK K
          try simp only [Act.put, z1, z2, z3]
          refine wpAnyH_done (by kernel_rfl) ?_ _
          go_wp2
          have CC := Lib.hid (S2.out.drew.st HG.out HU.out HNE.out (by have h1 := HBD.out; have h2 := HTS.out; simp only [bnd] at h1 ⊢; have l1 := HL1.out; have l2 := HL2.out; omega) HS2.out HWF2.out HD2.out HO2.out)
          have hTr : True := trivial
          refine wp_region_held_drew (S := (fun w' => w'.cell? ⟨w.heap.size, 0, none⟩ = some (.pointer (some ⟨p, 0, none⟩)) ∧ w'.cell? ⟨w.heap.size + 1, 5, none⟩ = some (.slice (some ⟨b, off, none⟩) 3 cap) ∧ w'.cell? ⟨b, off + 12, none⟩ = some (.int .i64 kc.kind) ∧ w'.cell? ⟨b, off + 13, none⟩ = some (.int .i64 kc.at_) ∧ w'.cell? ⟨b, off + 14, none⟩ = some (.string kc.name) ∧ w'.cell? ⟨b, off + 15, none⟩ = some (.int .u64 kc.num) ∧ w'.cell? ⟨b, off + 16, none⟩ = some (.string kc.op) ∧ w'.cell? ⟨b, off + 17, none⟩ = some (.slice Akc kc.kids.length ckc))) (by kernel_rfl) ?_ (fun hHeld => ?_)
          · exact ⟨x0, x5, d20, d21, d22, d23, d24, d25⟩
          refine tk 0 ?_
          try simp only [Act.put, z1, z2, z3]
          refine tk 1 ?_
          try simp only [Act.put, z1, z2, z3]
          refine tk 2 ?_
          try simp only [Act.put, z1, z2, z3]
          refine tk 3 ?_
          try simp only [Act.put, z1, z2, z3]
          refine tk 4 ?_
          try simp only [Act.put, z1, z2, z3]
          refine wpAnyH_ready (rs := [5]) (by kernel_rfl) (by simp) ?_
          refine (AllReadyH.cons (i := 5) (o := ?o3) ?h3 (fun K hK => ?k3) AllReadyH.nil)
          case h3 => (simp only [List.getElem?_toArray, List.getElem?_cons_succ, List.getElem?_cons_zero]; try rfl)
          case k3 =>
            go_simp
            have CW := CC.out
            clear CC
            cases hr : (F.st E kc) o2 with
            | error cc =>
              have CW := Lib.hid (WP.errC CW hr)
              have HE := Lib.hid (show (seqM (F.ex E ka) (seqM (F.st E kb) (F.st E kc))) o = .error cc from (HQ2.out.trans (hr)))
              clear hr
              obtain ⟨c1, c2⟩ := cc
              unfold bad at CW
              go_at_call 28
              (with_reducible refine CW.out.mono ?_)
              rintro e v3 ⟨rfl, g1⟩
              go_wp2
              exact ⟨rfl, WP.of_below HW1.out HW.out.inn.sz (WP.err HE.out ⟨rfl, g1⟩)⟩
            | ok o3 =>
              have CW := Lib.hid (WP.okC CW hr)
              have HQ3 := Lib.hid (show (seqM (F.ex E ka) (seqM (F.st E kb) (F.st E kc))) o = .ok o3 from HQ2.out.trans hr)
              have HL3 := Lib.hid (show o3.len + 3 ≤ o.len + 4 * (ka.size + kb.size + kc.size) from by have h1 := HLen.out.st E kc o2 o3 hr; have h2 := HL2.out; omega)
              clear hr
              go_at_call 28
              (with_reducible refine CW.out.mono ?_)
              rintro e v3 ⟨⟨vv, rfl⟩, s3⟩
              clear x0 x1 x2 x4 x5 d00 d01 d02 d03 d04 d05 d10 d11 d12 d13 d14 d15 d20 d21 d22 d23 d24 d25 lb l2 l3 lp
              obtain ⟨x0, x1, x2, x4, x5, d00, d01, d02, d03, d04, d05, d10, d11, d12, d13, d14, d15, d20, d21, d22, d23, d24, d25, lb, l2, l3, lp⟩ := KX.out _ _ _ _ s3
              have S3 := Lib.hid s3
              clear s3 CW
              try go_wp2_with fail
              refine hK.out _ _ ?_ (fun hHeld => ?_)
              · exact ⟨x0, x5, d20, d21, d22, d23, d24, d25⟩
              clear hK K
              try simp only [Act.put, z1, z2, z3]
              refine wpAnyH_done (by kernel_rfl) ?_ _
              go_wp2
              first | go_end0 | (refine bodyPost_ret (results_none rfl _ _ _) rfl ?_)
              obtain ⟨R9, w9, f9, q9⟩ := S3.out
              exact WP.of_below HW1.out HW.out.inn.sz (WP.ok HQ3.out ⟨⟨_, rfl⟩, R9, w9, f9, q9⟩)
set_option maxRecDepth 100000 in
set_option maxHeartbeats 8000000 in
theorem ws33 {F : WF} {n : Nat} (G : GoodW F n) (L : LenW F) (FN : GoodFn F n) (w : World) (p B : Nat) (ms : List Nat) (E : Env) (o : Out) (R : Rw) (t : Tr) (kv : Value) (h : WAt w p B ms E o R) (hne : 0 < E.blocks.length) (hbd : bnd E o + 9 * t.size ≤ 2000000) (hk : KidsAt w B kv t.kids) (hwf : t.wf1) (hd : t.fitsD (n + 1) = true) (hkind : t.kind = 33) (hok : ∃ body, t.kids.getLast? = some body ∧ body.kind = 44 ∧ (∀ k ∈ body.kids, OkS k) ∧ ∀ k ∈ t.kids.dropLast, k.kind = 3 ∧ k.kids = []) :
    WCall 28 w p B ms E R t kv (stW F E t o) := by
  have hgo : stW F E t o = (functionW F E t) o := by unfold stW; simp [hkind]
  unfold WCall
  rw [hgo]
  clear hgo
  obtain ⟨A, cap, rfl, hcl, hcm, hA⟩ := hk.slice
  obtain ⟨U, hU⟩ : ∃ U, ((w.alloc (.cells #[.pointer (some ⟨p, 0, none⟩)] 60)).alloc (.cells #[.int .i64 t.kind, .int .i64 t.at_, .string t.name, .int .u64 t.num, .string t.op, .slice A t.kids.length cap] 31)) = U := ⟨_, rfl⟩
  have W1 : Below w.heap.size w U := by rw [← hU]; exact below_alloc (below_alloc (Below.refl _ _))
  have h1 := h.fr W1
  have hkU := hk.under (W1.mono h.inn.sz)
  have hts := Tr.size_eq t
  have q33 : (t.kind == 33) = true := by simp [hkind]
  have q34 : (t.kind == 34) = false := by simp [hkind]
  have q35 : (t.kind == 35) = false := by simp [hkind]
  have q36 : (t.kind == 36) = false := by simp [hkind]
  have q37 : (t.kind == 37) = false := by simp [hkind]
  have q38 : (t.kind == 38) = false := by simp [hkind]
  have q39 : (t.kind == 39) = false := by simp [hkind]
  have q40 : (t.kind == 40) = false := by simp [hkind]
  have q41 : (t.kind == 41) = false := by simp [hkind]
  have q43 : (t.kind == 43) = false := by simp [hkind]
  have q44 : (t.kind == 44) = false := by simp [hkind]
  have CC : Calls Tryd.prog 40 #[.pointer (some ⟨p, 0, none⟩), .agg #[.int .i64 t.kind, .int .i64 t.at_, .string t.name, .int .u64 t.num, .string t.op, .slice A t.kids.length cap]] U (WP U p B ms E R ((functionW F E t) o)) := FN U p B ms E o R t _ h1 hne hbd hkU hwf hd hok
  have HW := Lib.hid h
  have HW1 := Lib.hid W1
  subst hU
  clear h hne hbd hk hwf hd W1 h1 hkU hts hcl hcm hA G L FN hok hkind
  cases hr : (functionW F E t) o with
  | error cc =>
    have CC := Lib.hid (WP.errC CC hr)
    have HE := Lib.hid hr
    clear hr
    obtain ⟨c1, c2⟩ := cc
    unfold bad at CC
    go_enter Tryd.func28, Tryd.ntmps28
    go_wp2_with (first | (go_at_call 40; (with_reducible refine CC.out.mono ?_); rintro e v1 ⟨rfl, g1⟩; have G1 := Lib.hid g1; clear g1))
    exact ⟨rfl, WP.of_below HW1.out HW.out.inn.sz (WP.err rfl ⟨rfl, G1.out⟩)⟩
  | ok o1 =>
    have CC := Lib.hid (WP.okC CC hr)
    have HE := Lib.hid hr
    clear hr
    go_enter Tryd.func28, Tryd.ntmps28
    go_wp2_with (first | (go_at_call 40; (with_reducible refine CC.out.mono ?_); rintro e v1 ⟨⟨vv, rfl⟩, s1⟩; have S1 := Lib.hid s1; clear s1))
    first | go_end0 | go_ret | (refine bodyPost_ret (results_none rfl _ _ _) rfl ?_)
    obtain ⟨R9, w9, f9, q9⟩ := S1.out
    exact WP.of_below HW1.out HW.out.inn.sz (WP.ok rfl ⟨⟨_, rfl⟩, R9, w9, f9, q9⟩)
set_option maxRecDepth 100000 in
set_option maxHeartbeats 8000000 in
theorem ws39 {F : WF} {n : Nat} (G : GoodW F n) (L : LenW F) (w : World) (p B : Nat) (ms : List Nat) (E : Env) (o : Out) (R : Rw) (t : Tr) (kv : Value) (h : WAt w p B ms E o R) (hne : 0 < E.blocks.length) (hbd : bnd E o + 9 * t.size ≤ 2000000) (hk : KidsAt w B kv t.kids) (hwf : t.wf1) (hd : t.fitsD (n + 1) = true) (hkind : t.kind = 39) :
    WCall 28 w p B ms E R t kv (stW F E t o) := by
  have hgo : stW F E t o = (jumpW E t) o := by unfold stW; simp [hkind]
  unfold WCall
  rw [hgo]
  clear hgo
  obtain ⟨A, cap, rfl, hcl, hcm, hA⟩ := hk.slice
  obtain ⟨U, hU⟩ : ∃ U, ((w.alloc (.cells #[.pointer (some ⟨p, 0, none⟩)] 60)).alloc (.cells #[.int .i64 t.kind, .int .i64 t.at_, .string t.name, .int .u64 t.num, .string t.op, .slice A t.kids.length cap] 31)) = U := ⟨_, rfl⟩
  have W1 : Below w.heap.size w U := by rw [← hU]; exact below_alloc (below_alloc (Below.refl _ _))
  have h1 := h.fr W1
  have hkU := hk.under (W1.mono h.inn.sz)
  have hts := Tr.size_eq t
  have q33 : (t.kind == 33) = false := by simp [hkind]
  have q34 : (t.kind == 34) = false := by simp [hkind]
  have q35 : (t.kind == 35) = false := by simp [hkind]
  have q36 : (t.kind == 36) = false := by simp [hkind]
  have q37 : (t.kind == 37) = false := by simp [hkind]
  have q38 : (t.kind == 38) = false := by simp [hkind]
  have q39 : (t.kind == 39) = true := by simp [hkind]
  have q40 : (t.kind == 40) = false := by simp [hkind]
  have q41 : (t.kind == 41) = false := by simp [hkind]
  have q43 : (t.kind == 43) = false := by simp [hkind]
  have q44 : (t.kind == 44) = false := by simp [hkind]
  have CC : Calls Tryd.prog 43 #[.pointer (some ⟨p, 0, none⟩), .agg #[.int .i64 t.kind, .int .i64 t.at_, .string t.name, .int .u64 t.num, .string t.op, .slice A t.kids.length cap]] U (WP U p B ms E R ((jumpW E t) o)) := jump_calls U p B ms E o R t _ h1 (by unfold bnd at hbd; omega) hkU
  have HW := Lib.hid h
  have HW1 := Lib.hid W1
  subst hU
  clear h hne hbd hk hwf hd W1 h1 hkU hts hcl hcm hA G L hkind
  cases hr : (jumpW E t) o with
  | error cc =>
    have CC := Lib.hid (WP.errC CC hr)
    have HE := Lib.hid hr
    clear hr
    obtain ⟨c1, c2⟩ := cc
    unfold bad at CC
    go_enter Tryd.func28, Tryd.ntmps28
    go_wp2_with (first | (go_at_call 43; (with_reducible refine CC.out.mono ?_); rintro e v1 ⟨rfl, g1⟩; have G1 := Lib.hid g1; clear g1))
    exact ⟨rfl, WP.of_below HW1.out HW.out.inn.sz (WP.err rfl ⟨rfl, G1.out⟩)⟩
  | ok o1 =>
    have CC := Lib.hid (WP.okC CC hr)
    have HE := Lib.hid hr
    clear hr
    go_enter Tryd.func28, Tryd.ntmps28
    go_wp2_with (first | (go_at_call 43; (with_reducible refine CC.out.mono ?_); rintro e v1 ⟨⟨vv, rfl⟩, s1⟩; have S1 := Lib.hid s1; clear s1))
    first | go_end0 | go_ret | (refine bodyPost_ret (results_none rfl _ _ _) rfl ?_)
    obtain ⟨R9, w9, f9, q9⟩ := S1.out
    exact WP.of_below HW1.out HW.out.inn.sz (WP.ok rfl ⟨⟨_, rfl⟩, R9, w9, f9, q9⟩)
set_option maxRecDepth 100000 in
set_option maxHeartbeats 8000000 in
theorem ws40 {F : WF} {n : Nat} (G : GoodW F n) (L : LenW F) (w : World) (p B : Nat) (ms : List Nat) (E : Env) (o : Out) (R : Rw) (t : Tr) (kv : Value) (h : WAt w p B ms E o R) (hne : 0 < E.blocks.length) (hbd : bnd E o + 9 * t.size ≤ 2000000) (hk : KidsAt w B kv t.kids) (hwf : t.wf1) (hd : t.fitsD (n + 1) = true) (hkind : t.kind = 40) :
    WCall 28 w p B ms E R t kv (stW F E t o) := by
  have hgo : stW F E t o = (jumpW E t) o := by unfold stW; simp [hkind]
  unfold WCall
  rw [hgo]
  clear hgo
  obtain ⟨A, cap, rfl, hcl, hcm, hA⟩ := hk.slice
  obtain ⟨U, hU⟩ : ∃ U, ((w.alloc (.cells #[.pointer (some ⟨p, 0, none⟩)] 60)).alloc (.cells #[.int .i64 t.kind, .int .i64 t.at_, .string t.name, .int .u64 t.num, .string t.op, .slice A t.kids.length cap] 31)) = U := ⟨_, rfl⟩
  have W1 : Below w.heap.size w U := by rw [← hU]; exact below_alloc (below_alloc (Below.refl _ _))
  have h1 := h.fr W1
  have hkU := hk.under (W1.mono h.inn.sz)
  have hts := Tr.size_eq t
  have q33 : (t.kind == 33) = false := by simp [hkind]
  have q34 : (t.kind == 34) = false := by simp [hkind]
  have q35 : (t.kind == 35) = false := by simp [hkind]
  have q36 : (t.kind == 36) = false := by simp [hkind]
  have q37 : (t.kind == 37) = false := by simp [hkind]
  have q38 : (t.kind == 38) = false := by simp [hkind]
  have q39 : (t.kind == 39) = false := by simp [hkind]
  have q40 : (t.kind == 40) = true := by simp [hkind]
  have q41 : (t.kind == 41) = false := by simp [hkind]
  have q43 : (t.kind == 43) = false := by simp [hkind]
  have q44 : (t.kind == 44) = false := by simp [hkind]
  have CC : Calls Tryd.prog 43 #[.pointer (some ⟨p, 0, none⟩), .agg #[.int .i64 t.kind, .int .i64 t.at_, .string t.name, .int .u64 t.num, .string t.op, .slice A t.kids.length cap]] U (WP U p B ms E R ((jumpW E t) o)) := jump_calls U p B ms E o R t _ h1 (by unfold bnd at hbd; omega) hkU
  have HW := Lib.hid h
  have HW1 := Lib.hid W1
  subst hU
  clear h hne hbd hk hwf hd W1 h1 hkU hts hcl hcm hA G L hkind
  cases hr : (jumpW E t) o with
  | error cc =>
    have CC := Lib.hid (WP.errC CC hr)
    have HE := Lib.hid hr
    clear hr
    obtain ⟨c1, c2⟩ := cc
    unfold bad at CC
    go_enter Tryd.func28, Tryd.ntmps28
    go_wp2_with (first | (go_at_call 43; (with_reducible refine CC.out.mono ?_); rintro e v1 ⟨rfl, g1⟩; have G1 := Lib.hid g1; clear g1))
    exact ⟨rfl, WP.of_below HW1.out HW.out.inn.sz (WP.err rfl ⟨rfl, G1.out⟩)⟩
  | ok o1 =>
    have CC := Lib.hid (WP.okC CC hr)
    have HE := Lib.hid hr
    clear hr
    go_enter Tryd.func28, Tryd.ntmps28
    go_wp2_with (first | (go_at_call 43; (with_reducible refine CC.out.mono ?_); rintro e v1 ⟨⟨vv, rfl⟩, s1⟩; have S1 := Lib.hid s1; clear s1))
    first | go_end0 | go_ret | (refine bodyPost_ret (results_none rfl _ _ _) rfl ?_)
    obtain ⟨R9, w9, f9, q9⟩ := S1.out
    exact WP.of_below HW1.out HW.out.inn.sz (WP.ok rfl ⟨⟨_, rfl⟩, R9, w9, f9, q9⟩)
set_option maxRecDepth 100000 in
set_option maxHeartbeats 8000000 in
theorem ws41 {F : WF} {n : Nat} (G : GoodW F n) (L : LenW F) (hn300 : n ≤ 300) (w : World) (p B : Nat) (ms : List Nat) (E : Env) (o : Out) (R : Rw) (t : Tr) (kv : Value) (h : WAt w p B ms E o R) (hne : 0 < E.blocks.length) (hbd : bnd E o + 9 * t.size ≤ 2000000) (hk : KidsAt w B kv t.kids) (hwf : t.wf1) (hd : t.fitsD (n + 1) = true) (hkind : t.kind = 41) {ka : Tr} (hkids : t.kids = [ka]) (hok : OkS ka) :
    WCall 28 w p B ms E R t kv (stW F E t o) := by
  have hgo : stW F E t o = (labelledW F E t ka) o := by unfold stW; simp [hkind, hkids]
  unfold WCall
  rw [hgo]
  clear hgo
  obtain ⟨A, cap, rfl, hcl, hcm, hA⟩ := hk.slice
  obtain ⟨U, hU⟩ : ∃ U, ((w.alloc (.cells #[.pointer (some ⟨p, 0, none⟩)] 60)).alloc (.cells #[.int .i64 t.kind, .int .i64 t.at_, .string t.name, .int .u64 t.num, .string t.op, .slice A t.kids.length cap] 31)) = U := ⟨_, rfl⟩
  have W1 : Below w.heap.size w U := by rw [← hU]; exact below_alloc (below_alloc (Below.refl _ _))
  have h1 := h.fr W1
  have hkU := hk.under (W1.mono h.inn.sz)
  have hts := Tr.size_eq t
  have q33 : (t.kind == 33) = false := by simp [hkind]
  have q34 : (t.kind == 34) = false := by simp [hkind]
  have q35 : (t.kind == 35) = false := by simp [hkind]
  have q36 : (t.kind == 36) = false := by simp [hkind]
  have q37 : (t.kind == 37) = false := by simp [hkind]
  have q38 : (t.kind == 38) = false := by simp [hkind]
  have q39 : (t.kind == 39) = false := by simp [hkind]
  have q40 : (t.kind == 40) = false := by simp [hkind]
  have q41 : (t.kind == 41) = true := by simp [hkind]
  have q43 : (t.kind == 43) = false := by simp [hkind]
  have q44 : (t.kind == 44) = false := by simp [hkind]
  have CC : Calls Tryd.prog 44 #[.pointer (some ⟨p, 0, none⟩), .agg #[.int .i64 t.kind, .int .i64 t.at_, .string t.name, .int .u64 t.num, .string t.op, .slice A t.kids.length cap]] U (WP U p B ms E R ((labelledW F E t ka) o)) := labelled_calls G hn300 U p B ms E o R t ka _ h1 hne hbd hkU hwf hd hkids hok
  have HW := Lib.hid h
  have HW1 := Lib.hid W1
  subst hU
  clear h hne hbd hk hwf hd W1 h1 hkU hts hcl hcm hA G L hkind hkids hok hn300
  cases hr : (labelledW F E t ka) o with
  | error cc =>
    have CC := Lib.hid (WP.errC CC hr)
    have HE := Lib.hid hr
    clear hr
    obtain ⟨c1, c2⟩ := cc
    unfold bad at CC
    go_enter Tryd.func28, Tryd.ntmps28
    go_wp2_with (first | (go_at_call 44; (with_reducible refine CC.out.mono ?_); rintro e v1 ⟨rfl, g1⟩; have G1 := Lib.hid g1; clear g1))
    exact ⟨rfl, WP.of_below HW1.out HW.out.inn.sz (WP.err rfl ⟨rfl, G1.out⟩)⟩
  | ok o1 =>
    have CC := Lib.hid (WP.okC CC hr)
    have HE := Lib.hid hr
    clear hr
    go_enter Tryd.func28, Tryd.ntmps28
    go_wp2_with (first | (go_at_call 44; (with_reducible refine CC.out.mono ?_); rintro e v1 ⟨⟨vv, rfl⟩, s1⟩; have S1 := Lib.hid s1; clear s1))
    first | go_end0 | go_ret | (refine bodyPost_ret (results_none rfl _ _ _) rfl ?_)
    obtain ⟨R9, w9, f9, q9⟩ := S1.out
    exact WP.of_below HW1.out HW.out.inn.sz (WP.ok rfl ⟨⟨_, rfl⟩, R9, w9, f9, q9⟩)
set_option maxRecDepth 100000 in
set_option maxHeartbeats 8000000 in
theorem ws44 {F : WF} {n : Nat} (G : GoodW F n) (L : LenW F) (w : World) (p B : Nat) (ms : List Nat) (E : Env) (o : Out) (R : Rw) (t : Tr) (kv : Value) (h : WAt w p B ms E o R) (hne : 0 < E.blocks.length) (hbd : bnd E o + 9 * t.size ≤ 2000000) (hk : KidsAt w B kv t.kids) (hwf : t.wf1) (hd : t.fitsD (n + 1) = true) (hkind : t.kind = 44) (hok : ∀ k ∈ t.kids, OkS k) :
    WCall 28 w p B ms E R t kv (stW F E t o) := by
  have hgo : stW F E t o = (bodyW F E noD t.kids) o := by unfold stW; simp [hkind]
  unfold WCall
  rw [hgo]
  clear hgo
  obtain ⟨A, cap, rfl, hcl, hcm, hA⟩ := hk.slice
  obtain ⟨U, hU⟩ : ∃ U, ((w.alloc (.cells #[.pointer (some ⟨p, 0, none⟩)] 60)).alloc (.cells #[.int .i64 t.kind, .int .i64 t.at_, .string t.name, .int .u64 t.num, .string t.op, .slice A t.kids.length cap] 31)) = U := ⟨_, rfl⟩
  have W1 : Below w.heap.size w U := by rw [← hU]; exact below_alloc (below_alloc (Below.refl _ _))
  have h1 := h.fr W1
  have hkU := hk.under (W1.mono h.inn.sz)
  have hts := Tr.size_eq t
  have q33 : (t.kind == 33) = false := by simp [hkind]
  have q34 : (t.kind == 34) = false := by simp [hkind]
  have q35 : (t.kind == 35) = false := by simp [hkind]
  have q36 : (t.kind == 36) = false := by simp [hkind]
  have q37 : (t.kind == 37) = false := by simp [hkind]
  have q38 : (t.kind == 38) = false := by simp [hkind]
  have q39 : (t.kind == 39) = false := by simp [hkind]
  have q40 : (t.kind == 40) = false := by simp [hkind]
  have q41 : (t.kind == 41) = false := by simp [hkind]
  have q43 : (t.kind == 43) = false := by simp [hkind]
  have q44 : (t.kind == 44) = true := by simp [hkind]
  have CC : Calls Tryd.prog 22 #[.pointer (some ⟨p, 0, none⟩), .slice A t.kids.length cap, .nilFunc] U (WP U p B ms E R ((bodyW F E noD t.kids) o)) := body_nil G L U p B ms E o R t.kids A cap noD 0 h1 hkU (fun k hk => Tr.fitsD_kid hd hk) hok hkU.wf (by omega) (fun x hx => by injection hx with hx; subst hx; simp) rfl
  have HW := Lib.hid h
  have HW1 := Lib.hid W1
  subst hU
  clear h hne hbd hk hwf hd W1 h1 hkU hts hcl hcm hA G L hkind hok
  cases hr : (bodyW F E noD t.kids) o with
  | error cc =>
    have CC := Lib.hid (WP.errC CC hr)
    have HE := Lib.hid hr
    clear hr
    obtain ⟨c1, c2⟩ := cc
    unfold bad at CC
    go_enter Tryd.func28, Tryd.ntmps28
    go_wp2_with (first | (go_at_call 22; (with_reducible refine CC.out.mono ?_); rintro e v1 ⟨rfl, g1⟩; have G1 := Lib.hid g1; clear g1))
    exact ⟨rfl, WP.of_below HW1.out HW.out.inn.sz (WP.err rfl ⟨rfl, G1.out⟩)⟩
  | ok o1 =>
    have CC := Lib.hid (WP.okC CC hr)
    have HE := Lib.hid hr
    clear hr
    go_enter Tryd.func28, Tryd.ntmps28
    go_wp2_with (first | (go_at_call 22; (with_reducible refine CC.out.mono ?_); rintro e v1 ⟨⟨vv, rfl⟩, s1⟩; have S1 := Lib.hid s1; clear s1))
    first | go_end0 | go_ret | (refine bodyPost_ret (results_none rfl _ _ _) rfl ?_)
    obtain ⟨R9, w9, f9, q9⟩ := S1.out
    exact WP.of_below HW1.out HW.out.inn.sz (WP.ok rfl ⟨⟨_, rfl⟩, R9, w9, f9, q9⟩)
set_option maxRecDepth 100000 in
set_option maxHeartbeats 8000000 in
theorem stEach {F : WF} {n : Nat} (G : GoodW F n) (L : LenW F) (w : World) (p B : Nat) (ms : List Nat) (E : Env) (o : Out) (R : Rw) (t : Tr) (kv : Value) (h : WAt w p B ms E o R) (hne : 0 < E.blocks.length) (hbd : bnd E o + 9 * t.size ≤ 2000000) (hk : KidsAt w B kv t.kids) (hwf : t.wf1) (hd : t.fitsD (n + 1) = true) (h33 : ¬ t.kind = 33) (h34 : ¬ t.kind = 34) (h35 : ¬ t.kind = 35) (h36 : ¬ t.kind = 36) (h37 : ¬ t.kind = 37) (h38 : ¬ t.kind = 38) (h39 : ¬ t.kind = 39) (h40 : ¬ t.kind = 40) (h41 : ¬ t.kind = 41) (h43 : ¬ t.kind = 43) (h44 : ¬ t.kind = 44) (hok : ∀ k ∈ t.kids, OkX k) :
    WCall 28 w p B ms E R t kv (stW F E t o) := by
  have hgo : stW F E t o = eachM (F.ex E) t.kids o := by unfold stW; simp [h33, h34, h35, h36, h37, h38, h39, h40, h41, h43, h44]
  unfold WCall
  rw [hgo]
  clear hgo
  have q33 : (t.kind == 33) = false := by simp [h33]
  have q34 : (t.kind == 34) = false := by simp [h34]
  have q35 : (t.kind == 35) = false := by simp [h35]
  have q36 : (t.kind == 36) = false := by simp [h36]
  have q37 : (t.kind == 37) = false := by simp [h37]
  have q38 : (t.kind == 38) = false := by simp [h38]
  have q39 : (t.kind == 39) = false := by simp [h39]
  have q40 : (t.kind == 40) = false := by simp [h40]
  have q41 : (t.kind == 41) = false := by simp [h41]
  have q43 : (t.kind == 43) = false := by simp [h43]
  have q44 : (t.kind == 44) = false := by simp [h44]
  clear h33 h34 h35 h36 h37 h38 h39 h40 h41 h43 h44
  obtain ⟨A, cap, rfl, hcl, hcm, hA⟩ := hk.slice
  obtain ⟨U, hU⟩ : ∃ U, ((w.alloc (.cells #[.pointer (some ⟨p, 0, none⟩)] 60)).alloc (.cells #[.int .i64 t.kind, .int .i64 t.at_, .string t.name, .int .u64 t.num, .string t.op, .slice A t.kids.length cap] 31)) = U := ⟨_, rfl⟩
  have W1 : Below w.heap.size w U := by rw [← hU]; exact below_alloc (below_alloc (Below.refl _ _))
  have h1 := h.fr W1
  have b2 : Blk U w.heap.size 60 #[.pointer (some ⟨p, 0, none⟩)] := by rw [← hU]; exact (Blk.new _ _ _).alloc _
  have hts := Tr.size_eq t
  have hcap : (t.kids.length : Int) ≤ 9223372036854775807 := by simp [maxLen] at hcm; omega
  have KX := Lib.hid (fun (v : World) (ms' : List Nat) (E' : Env) (o' : Out) (s : Sq U p B ms' E' R v o') => show v.cell? ⟨w.heap.size, 0, none⟩ = some (.pointer (some ⟨p, 0, none⟩)) ∧ w.heap.size < v.heap.size from ⟨s.cel h1 b2 (by decide) 0 rfl, (s.blk h1 b2 (by decide)).lt⟩)
  have HW := Lib.hid h
  have HW1 := Lib.hid W1
  have HU := Lib.hid h1
  have HG := Lib.hid G
  have HLen := Lib.hid L
  have HNE := Lib.hid hne
  have HKT := Lib.hid (hk.under (W1.mono h.inn.sz))
  have HA := Lib.hid hA
  have HD := Lib.hid (show ∀ k ∈ t.kids, k.fitsD n = true from fun k hk => Tr.fitsD_kid hd hk)
  have HOK := Lib.hid hok
  have HBDL := Lib.hid (show bnd E o + 9 * Tr.sizes t.kids ≤ 2000000 from by omega)
  have S0 := Lib.hid (Sq.refl h1)
  have HLL := Lib.hid (rfl : t.kids.length = t.kids.length)
  clear h hne hbd hk hwf hd hok hts W1 h1 b2 hcl hcm hA G L
  generalize hl : t.kids = l at *
  subst hU
  go_enter Tryd.func28, Tryd.ntmps28
  go_wp2
  go_loopg [14] l.length (fun fu ix wr => ∃ (j : Nat) (o' : Out), ix = .int .i64 j ∧ j + fu = l.length ∧ Sq ((w.alloc (.cells #[.pointer (some ⟨p, 0, none⟩)] 60)).alloc (.cells #[.int .i64 t.kind, .int .i64 t.at_, .string t.name, .int .u64 t.num, .string t.op, .slice A l.length cap] 31)) p B ms E R wr o' ∧ eachM (F.ex E) l o = eachM (F.ex E) (l.drop j) o' ∧ o'.len + j ≤ o.len + 4 * Tr.sizes (l.take j))
  case atStart => exact ⟨0, o, rfl, by omega, S0.out, rfl, by simp [Tr.sizes_nil]⟩
  case round =>
    obtain ⟨j, o', rfl, hf, h1, h4, h5⟩ := hrel
    obtain ⟨x0, l2⟩ := KX.out _ _ _ _ h1
    have S1 := Lib.hid h1
    have H4 := Lib.hid h4
    have H5 := Lib.hid h5
    clear h1 h4 h5
    rcases Nat.lt_or_ge j l.length with hj | hj
    · obtain ⟨k, hkj⟩ : ∃ k, l[j]? = some k := ⟨_, List.getElem?_eq_getElem (by have := HLL.out; omega)⟩
      obtain ⟨bk, offk, hAeq, hbkB⟩ := HA.out (by omega)
      cases hAeq
      obtain ⟨_, hwf', kv', hN, hKk⟩ := (HKT.out).kid hkj
      obtain ⟨A', cap', rfl, _, _, _⟩ := hKk.slice
      obtain ⟨e0, e1, e2, e3, e4, e5⟩ := (show NodeAt wr bk (offk + j * 6) (k.cells (.slice A' k.kids.length cap')) from KidsAt.kid_at ((HKT.out).under (S1.out.below HU.out)) hkj hN (fun p hp => (S1.out.below HU.out).cell hp)).get
      have hj' : (j : Int) < (l.length : Int) := by omega
      have hj0 : (0 : Int) ≤ (j : Int) ∧ (j : Int) ≤ (l.length : Int) := by omega
      have hbkw : bk < wr.heap.size := Nat.lt_of_lt_of_le (Nat.lt_of_lt_of_le hbkB HU.out.inn.sz) S1.out.size
      have nk1 : wr.heap.size ≠ bk := by omega
      have nk2 : wr.heap.size ≠ w.heap.size := by omega
      obtain ⟨f', hf'⟩ : ∃ f', gk = f' + 1 := ⟨gk - 1, by omega⟩
      have HF := Lib.hid (And.intro hf hf')
      have HSt := Lib.hid (show eachM (F.ex E) l o = seqM (F.ex E k) (eachM (F.ex E) (l.drop (j + 1))) o' from by rw [H4.out, drop_at' hkj]; rfl)
      have hsz := sizes_at hkj
      have HT := Lib.hid (take_succ_at hkj)
      have CC := (S1.out.alloc (.cells #[.int .i64 k.kind, .int .i64 k.at_, .string k.name, .int .u64 k.num, .string k.op, .slice A' k.kids.length cap'] 31)).ex HG.out HU.out HNE.out (t := k) (kv := .slice A' k.kids.length cap') (by have := H5.out; have := HBDL.out; unfold bnd at *; omega) hKk hwf' (HD.out k (List.mem_of_getElem? hkj)) (HOK.out k (List.mem_of_getElem? hkj))
      clear hf hf' hkj hKk hN hwf'
      cases hr : F.ex E k o' with
      | error c =>
        have CC := Lib.hid (WP.errC CC hr)
        have HE := Lib.hid (HSt.out.trans (seqM_err hr))
        clear hr
        obtain ⟨c1, c2⟩ := c
        unfold bad at CC
        go_wp2_with (first | (go_at_call 41; (with_reducible refine CC.out.mono ?_); rintro e v1 ⟨rfl, g1⟩; have G1 := Lib.hid g1; clear g1))
        exact ⟨rfl, WP.of_below HW1.out HW.out.inn.sz (WP.err HE.out ⟨rfl, G1.out⟩)⟩
      | ok o1 =>
        have CC := Lib.hid (WP.okC CC hr)
        have HGL := Lib.hid (HLen.out.ex E k o' o1 hr)
        have HE := Lib.hid (HSt.out.trans (seqM_ok hr))
        clear hr
        go_wp2_with (first | (go_at_call 41; (with_reducible refine CC.out.mono ?_); rintro e v1 ⟨⟨vv, rfl⟩, s2⟩; have S2 := Lib.hid s2; clear s2))
        go_roundg f'
        case measure => have := HF.out; omega
        case rel => exact ⟨j + 1, o1, by simp, by have := HF.out; omega, S2.out, HE.out, by rw [HT.out, Tr.sizes_append, Tr.sizes_cons, Tr.sizes_nil]; have := H5.out; have := HGL.out; omega⟩
    · have hjl : j = l.length := by omega
      have hj' : ¬ (j : Int) < (l.length : Int) := by omega
      have HJ := Lib.hid (show l.drop j = [] from List.drop_eq_nil_of_le (by have := HLL.out; omega))
      have HEnd := Lib.hid (show eachM (F.ex E) l o = .ok o' from by rw [H4.out, HJ.out]; rfl)
      have HLE := Lib.hid (show o'.len + l.length ≤ o.len + 4 * Tr.sizes l from by have h1 := H5.out; rw [hjl, List.take_of_length_le (by have := HLL.out; omega)] at h1; exact h1)
      clear hf hjl
      go_wp2
      go_end0
      obtain ⟨R9, w9, f9, q9⟩ := S1.out
      exact WP.of_below HW1.out HW.out.inn.sz (WP.ok HEnd.out ⟨⟨_, rfl⟩, R9, w9, f9, q9⟩)
end Go.Proofs.YtlenhcmgcgccmaaDoor
