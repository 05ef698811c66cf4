/- Scope: statement, the other kinds. -/
import Derived.Test.YtlenhcmgcgccmaaDoorUx
namespace Go.Proofs.YtlenhcmgcgccmaaDoor
open Go.RowKit Go
set_option linter.unusedVariables false
set_option linter.unusedSimpArgs false
theorem seqM_skip (g : WM) : seqM skipM g = g := rfl
theorem each3_ok {f : Tr → WM} {a b c : Tr} {d : WM} {o o1 : Out} (h : eachM f [a, b, c] o = .ok o1) : seqM (f a) (seqM (f b) (seqM (f c) d)) o = d o1 := by
  simp only [eachM] at h
  cases h1 : f a o with
  | error e => rw [seqM_err h1] at h; cases h
  | ok x =>
    rw [seqM_ok h1] at h ⊢
    cases h2 : f b x with
    | error e => rw [seqM_err h2] at h; cases h
    | ok y =>
      rw [seqM_ok h2] at h ⊢
      cases h3 : f c y with
      | error e => rw [seqM_err h3] at h; cases h
      | ok z => rw [seqM_ok h3] at h ⊢; injection h with h; subst h; rfl
theorem each3_err {f : Tr → WM} {a b c : Tr} {d : WM} {o : Out} {e : Er} (h : eachM f [a, b, c] o = .error e) : seqM (f a) (seqM (f b) (seqM (f c) d)) o = .error e := by
  simp only [eachM] at h
  cases h1 : f a o with
  | error e => rw [seqM_err h1] at h ⊢; exact h
  | ok x =>
    rw [seqM_ok h1] at h ⊢
    cases h2 : f b x with
    | error e => rw [seqM_err h2] at h ⊢; exact h
    | ok y =>
      rw [seqM_ok h2] at h ⊢
      cases h3 : f c y with
      | error e => rw [seqM_err h3] at h ⊢; exact h
      | ok z => rw [seqM_ok h3] at h; cases h
set_option maxRecDepth 100000 in
set_option maxHeartbeats 4000000 in
theorem catch_calls (V : World) (p B m : Nat) (ms : List Nat) (E : Env) (o : Out) (R : Rw) (t : Tr) (kv : Value) (q1 q2 : Nat) (h : WAt V p B (ms ++ [m]) (E.push []) o R) (hlen : E.blocks.length ≤ 2000000) (hvl : o.vars.length ≤ 2000000) (hs : t.name.size ≤ maxLen) (b1 : Blk V q1 60 #[.pointer (some ⟨p, 0, none⟩)]) (b2 : Blk V q2 31 (t.cells kv)) :
    Calls Tryd.prog 45 #[.pointer (some ⟨q1, 0, none⟩), .pointer (some ⟨q2, 0, none⟩)] V (DP V p B ms m E E.blocks R (catchP E t [] o)) := by
  have DC := declare_calls (E := E.push []) (bs := E.blocks) (b := []) rfl h hlen hvl t.name hs t.at_ 6
  have c0 := b1.cell 0
  have e1 := b2.cell 1
  have e2 := b2.cell 2
  simp only [Tr.cells, List.getElem?_toArray, List.getElem?_cons_succ, List.getElem?_cons_zero] at c0 e1 e2
  clear h b1 b2 hs hlen hvl
  cases hr : declareP E.fn t.name t.at_ 6 [] o with
  | error cc =>
    have CC := Lib.hid (DC.mono (R' := fun e w' => e = bad cc ∧ Below B V w') fun e w' hh => hh.2 cc hr)
    have HE := Lib.hid (show catchP E t [] o = .error cc from hr)
    clear hr DC
    obtain ⟨c1, c2⟩ := cc
    unfold bad at CC
    go_enter Tryd.func45, Tryd.ntmps45
    go_wp2_with (first | (go_at_call 27; (with_reducible refine CC.out.mono ?_); rintro e v1 ⟨rfl, g1⟩; have G1 := Lib.hid g1; clear g1))
    exact ⟨rfl, DP.err HE.out ⟨rfl, G1.out⟩⟩
  | ok x1 =>
    have CC := Lib.hid (DC.mono (R' := fun e w' => (∃ v, e = .returned v) ∧ ∃ R', WAt w' p B (ms ++ [m]) (E.at (E.blocks ++ [x1.1])) x1.2 R' ∧ Fr (fun y => Ft p R y ∨ y = m) V w' ∧ Gr V.heap.size p R R') fun e w' hh => hh.1 x1 hr)
    have HE := Lib.hid (show catchP E t [] o = .ok x1 from hr)
    clear hr DC
    go_enter Tryd.func45, Tryd.ntmps45
    go_wp2_with (first | (go_at_call 27; (with_reducible refine CC.out.mono ?_); rintro e v1 ⟨⟨v, rfl⟩, R1, g1, g2, g3⟩; have G1 := Lib.hid g1; have G2 := Lib.hid g2; have G3 := Lib.hid g3; clear g1 g2 g3))
    first | go_end0 | go_ret | (refine bodyPost_ret (results_none rfl _ _ _) rfl ?_)
    exact DP.ok HE.out ⟨⟨_, rfl⟩, R1, G1.out, G2.out, G3.out⟩
theorem catchP_len {E : Env} {t : Tr} {o : Out} {x : Bk × Out} (h : catchP E t [] o = .ok x) : x.2.len ≤ o.len + 1 := declareP_len h
theorem bodyW_len {F : WF} (L : LenW F) {E : Env} {ah : DM} {l : List Tr} {o o' : Out} {na : Nat} (hah : ∀ x, ah [] o = .ok x → x.2.len ≤ o.len + na) (h : bodyW F E ah l o = .ok o') : o'.len ≤ o.len + na + 4 * Tr.sizes l := by
  unfold bodyW at h
  cases h1 : seqD ah (declsP E.fn l) [] o with
  | error e => rw [h1] at h; cases h
  | ok x =>
    obtain ⟨b, o1⟩ := x
    rw [h1] at h
    have h2 := eachM_len (F := F.st (E.push b)) (fun t _ o o' hh => L.st _ t o o' hh) o1 o' h
    cases h3 : ah [] o with
    | error e => rw [seqD_err h3] at h1; cases h1
    | ok y =>
      rw [seqD_ok h3] at h1
      have h4 := declsP_len _ _ _ _ h1
      have h5 := hah y h3
      simp only at h4
      omega
theorem LenW.catch_ {F : WF} (L : LenW F) {E : Env} {t kb : Tr} {o o' : Out} (h : bodyW F E (catchP E t) kb.kids o = .ok o') : o'.len + 1 ≤ o.len + 4 * kb.size := by
  have h1 := bodyW_len L (na := 1) (fun x hx => catchP_len hx) h
  rw [Tr.size_eq]
  omega
theorem Sq.catch_ {F : WF} {n : Nat} (G : GoodW F n) (L : LenW F) {U v : World} {p B : Nat} {ms ms0 : List Nat} {E E0 : Env} {o o0 : Out} {R : Rw} (h0 : WAt U p B ms0 E0 o0 R) (hs : Sq U p B ms E R v o) {t : Tr} {l : List Tr} {Ab : Option Addr} {cb q1 q2 : Nat} {kv : Value} (b1 : Blk U q1 60 #[.pointer (some ⟨p, 0, none⟩)]) (b2 : Blk U q2 31 (t.cells kv)) (hnm : t.name.size ≤ maxLen)
    (hk : KidsAt U B (.slice Ab l.length cb) l) (hd : ∀ k ∈ l, k.fitsD n = true) (hok : ∀ k ∈ l, OkS k) (hbd : bnd E o + 3 + 9 * Tr.sizes l ≤ 2000000) :
    Calls Tryd.prog 22 #[.pointer (some ⟨p, 0, none⟩), .slice Ab l.length cb, .func (.func 45) #[] #[.pointer (some ⟨q1, 0, none⟩), .pointer (some ⟨q2, 0, none⟩)]] v (WP U p B ms E R (bodyW F E (catchP E t) l o)) := by
  have c1 := Sq.blk h0 hs b1 (by decide)
  have c2 := Sq.blk h0 hs b2 (by decide)
  obtain ⟨R', a, f, g⟩ := hs
  refine (body_catch G L v p B ms E o R' l Ab cb (catchP E t) 1 q1 q2 a (hk.under (h0.under f)) hd hok hk.wf (by omega) (fun x hx => catchP_len hx) ?_).mono fun e w' hh => hh.trans (h0.under f) f g
  intro V R2 hV fV gV
  exact catch_calls V p B v.heap.size ms E o R2 t kv q1 q2 hV (by unfold bnd at hbd; omega) (by unfold bnd Out.len at hbd; omega) hnm (fV.blk c1 (a.not_ft c1 (by decide))) (fV.blk c2 (a.not_ft c2 (by decide)))
set_option maxRecDepth 100000 in
set_option maxHeartbeats 8000000 in
theorem ws34n {F : WF} {n : Nat} (G : GoodW F n) (L : LenW F) (w : World) (p B : Nat) (ms : List Nat) (E : Env) (o : Out) (R : Rw) (t : Tr) (kv : Value) (h : WAt w p B ms E o R) (hne : 0 < E.blocks.length) (hbd : bnd E o + 9 * t.size ≤ 2000000) (hk : KidsAt w B kv t.kids) (hwf : t.wf1) (hd : t.fitsD (n + 1) = true) (hkind : t.kind = 34) {ka : Tr} (hkids : t.kids = [ka]) (ho0 : OkX ka) (hfn : ¬ E.fn = 0) :
    WCall 28 w p B ms E R t kv (stW F E t o) := by
  have hgo : stW F E t o = (F.ex E ka) o := by unfold stW; simp [hkind, hkids, hfn]
  unfold WCall
  rw [hgo]
  clear hgo
  have hlen : t.kids.length = 1 := by rw [hkids]; rfl
  have hts := Tr.size_eq t
  rw [hkids] at hts
  simp only [Tr.sizes_cons, Tr.sizes_nil] at hts
  obtain ⟨A, cap, rfl, hcl, hcm, hA⟩ := hk.slice
  obtain ⟨b, off, rfl, hbB⟩ := hA (by omega)
  rw [hlen] at hk hcl ⊢
  rw [hkind]
  have hi0 : t.kids[0]? = some ka := by rw [hkids]; rfl
  have hd0 := Tr.fitsD_kid hd (List.mem_of_getElem? hi0)
  obtain ⟨_, hw0, kv0, hn0, hs0⟩ := hk.kid hi0
  obtain ⟨Aka, cka, rfl, _, _, _⟩ := hs0.slice
  obtain ⟨d00, d01, d02, d03, d04, d05⟩ := kcells hn0 (off) (by omega)
  have r4 := h.blk.cell 4
  simp only [List.getElem?_toArray, List.getElem?_cons_succ, List.getElem?_cons_zero] at r4
  have np1 : w.heap.size ≠ p := by have := h.blk.lt; omega
  have np2 : w.heap.size + 1 ≠ p := by have := h.blk.lt; omega
  have qf : ((E.fn : Int) == 0) = false := by simp [hfn]
  have qg : ¬ (E.fn : Int) = 0 := by simpa using hfn
  have hpl := h.blk.lt
  obtain ⟨U, hU⟩ : ∃ U, ((w.alloc (.cells #[.pointer (some ⟨p, 0, none⟩)] 60)).alloc (.cells #[.int .i64 34, .int .i64 t.at_, .string t.name, .int .u64 t.num, .string t.op, .slice (some ⟨b, off, none⟩) 1 cap] 31)) = U := ⟨_, rfl⟩
  have W1 : Below w.heap.size w U := by rw [← hU]; exact below_alloc (below_alloc (Below.refl _ _))
  have h1 := h.fr W1
  have b2 : Blk U w.heap.size 60 #[.pointer (some ⟨p, 0, none⟩)] := by rw [← hU]; exact (Blk.new _ _ _).alloc _
  have b3 : Blk U (w.heap.size + 1) 31 #[.int .i64 34, .int .i64 t.at_, .string t.name, .int .u64 t.num, .string t.op, .slice (some ⟨b, off, none⟩) 1 cap] := by rw [← hU]; have h1 := Blk.new (w.alloc (.cells #[.pointer (some ⟨p, 0, none⟩)] 60)) 31 #[.int .i64 34, .int .i64 t.at_, .string t.name, .int .u64 t.num, .string t.op, .slice (some ⟨b, off, none⟩) 1 cap]; rw [size_alloc] at h1; exact h1
  have hbw : b < U.heap.size := Nat.lt_of_lt_of_le (Nat.lt_of_lt_of_le hbB h.inn.sz) W1.size
  have KX := Lib.hid (fun (v : World) (ms' : List Nat) (E' : Env) (o' : Out) (s : Sq U p B ms' E' R v o') => show v.cell? ⟨w.heap.size, 0, none⟩ = some (.pointer (some ⟨p, 0, none⟩)) ∧ v.cell? ⟨w.heap.size + 1, 1, none⟩ = some (.int .i64 t.at_) ∧ v.cell? ⟨w.heap.size + 1, 2, none⟩ = some (.string t.name) ∧ v.cell? ⟨w.heap.size + 1, 4, none⟩ = some (.string t.op) ∧ v.cell? ⟨w.heap.size + 1, 5, none⟩ = some (.slice (some ⟨b, off, none⟩) 1 cap) ∧ v.cell? ⟨b, off, none⟩ = some (.int .i64 ka.kind) ∧ v.cell? ⟨b, off + 1, none⟩ = some (.int .i64 ka.at_) ∧ v.cell? ⟨b, off + 2, none⟩ = some (.string ka.name) ∧ v.cell? ⟨b, off + 3, none⟩ = some (.int .u64 ka.num) ∧ v.cell? ⟨b, off + 4, none⟩ = some (.string ka.op) ∧ v.cell? ⟨b, off + 5, none⟩ = some (.slice Aka ka.kids.length cka) ∧ b < v.heap.size ∧ w.heap.size < v.heap.size ∧ w.heap.size + 1 < v.heap.size ∧ p < v.heap.size from ⟨s.cel h1 b2 (by decide) 0 rfl, s.cel h1 b3 (by decide) 1 rfl, s.cel h1 b3 (by decide) 2 rfl, s.cel h1 b3 (by decide) 4 rfl, s.cel h1 b3 (by decide) 5 rfl, s.old h1 hbB (((W1.mono h.inn.sz).cell (p := ⟨b, off, none⟩) hbB).trans d00), s.old h1 hbB (((W1.mono h.inn.sz).cell (p := ⟨b, off + 1, none⟩) hbB).trans d01), s.old h1 hbB (((W1.mono h.inn.sz).cell (p := ⟨b, off + 2, none⟩) hbB).trans d02), s.old h1 hbB (((W1.mono h.inn.sz).cell (p := ⟨b, off + 3, none⟩) hbB).trans d03), s.old h1 hbB (((W1.mono h.inn.sz).cell (p := ⟨b, off + 4, none⟩) hbB).trans d04), s.old h1 hbB (((W1.mono h.inn.sz).cell (p := ⟨b, off + 5, none⟩) hbB).trans d05), Nat.lt_of_lt_of_le hbw s.size, (s.blk h1 b2 (by decide)).lt, (s.blk h1 b3 (by decide)).lt, Nat.lt_of_lt_of_le h1.blk.lt s.size⟩)
  have HU := Lib.hid h1
  have HW := Lib.hid h
  have HW1 := Lib.hid W1
  have S0 := Lib.hid (Sq.refl h1)
  have HNE := Lib.hid hne
  have HG := Lib.hid G
  have HLen := Lib.hid L
  have HBD := Lib.hid hbd
  have HTS := Lib.hid hts
  have HWFT := Lib.hid hwf
  have HKT := Lib.hid (hk.under (W1.mono h.inn.sz))
  have HS0 := Lib.hid (hs0.under (W1.mono h.inn.sz))
  have HWF0 := Lib.hid hw0
  have HD0 := Lib.hid hd0
  have HO0 := Lib.hid ho0
  have hq2 : w.heap.size ≠ b := by have := h.inn.sz; omega
  have hq3 : w.heap.size + 1 ≠ b := by have := h.inn.sz; omega
  have hcl' : (1 : Int) ≤ (cap : Int) := by omega
  have HB2 := Lib.hid b2
  have HB3 := Lib.hid b3
  clear h hne hbd hk hwf hd hkind hkids hlen hts hcm hA W1 h1 b2 b3 hbw G L hi0 hd0 hw0 hn0 hs0 ho0
  obtain ⟨x0, x1, x2, x4, x5, d00, d01, d02, d03, d04, d05, lb, l2, l3, lp⟩ := KX.out _ _ _ _ S0.out
  subst hU
  clear hfn
  go_enter Tryd.func28, Tryd.ntmps28
  go_wp2
  have CC := Lib.hid (S0.out.drew.ex HG.out HU.out HNE.out (by have h1 := HBD.out; have h2 := HTS.out; simp only [bnd] at h1 ⊢; omega) HS0.out HWF0.out HD0.out HO0.out)
  have hTr : True := trivial
  refine wp_region_held_drew (S := (fun w' => w'.cell? ⟨w.heap.size, 0, none⟩ = some (.pointer (some ⟨p, 0, none⟩)) ∧ w'.cell? ⟨w.heap.size + 1, 5, none⟩ = some (.slice (some ⟨b, off, none⟩) 1 cap) ∧ w'.cell? ⟨b, off, none⟩ = some (.int .i64 ka.kind) ∧ w'.cell? ⟨b, off + 1, none⟩ = some (.int .i64 ka.at_) ∧ w'.cell? ⟨b, off + 2, none⟩ = some (.string ka.name) ∧ w'.cell? ⟨b, off + 3, none⟩ = some (.int .u64 ka.num) ∧ w'.cell? ⟨b, off + 4, none⟩ = some (.string ka.op) ∧ w'.cell? ⟨b, off + 5, none⟩ = some (.slice Aka ka.kids.length cka))) (by kernel_rfl) ?_ (fun hHeld => ?_)
  · exact ⟨x0, x5, d00, d01, d02, d03, d04, d05⟩
  refine tk 0 ?_
  try simp only [Act.put, z1, z2, z3]
  refine tk 1 ?_
  try simp only [Act.put, z1, z2, z3]
  refine tk 2 ?_
  try simp only [Act.put, z1, z2, z3]
  refine tk 3 ?_
  try simp only [Act.put, z1, z2, z3]
  refine tk 4 ?_
  try simp only [Act.put, z1, z2, z3]
  refine wpAnyH_ready (rs := [5]) (by kernel_rfl) (by simp) ?_
  refine (AllReadyH.cons (i := 5) (o := ?o1) ?h1 (fun K hK => ?k1) AllReadyH.nil)
  case h1 => (simp only [List.getElem?_toArray, List.getElem?_cons_succ, List.getElem?_cons_zero]; try rfl)
  case k1 =>
    go_simp
    have CW := CC.out
    clear CC
    cases hr : (F.ex E ka) o with
    | error cc =>
      have CW := Lib.hid (WP.errC CW hr)
      have HE := Lib.hid (show (F.ex E ka) o = .error cc from hr)
      clear hr
      obtain ⟨c1, c2⟩ := cc
      unfold bad at CW
      go_at_call 41
      (with_reducible refine CW.out.mono ?_)
      rintro e v1 ⟨rfl, g1⟩
      go_wp2
      exact ⟨rfl, WP.of_below HW1.out HW.out.inn.sz (WP.err rfl ⟨rfl, g1⟩)⟩
    | ok o1 =>
      have CW := Lib.hid (WP.okC CW hr)
      have HQ1 := Lib.hid (show (F.ex E ka) o = .ok o1 from hr)
      have HL1 := Lib.hid (show o1.len + 1 ≤ o.len + 4 * (ka.size) from by have h1 := HLen.out.ex E ka o o1 hr; omega)
      clear hr
      go_at_call 41
      (with_reducible refine CW.out.mono ?_)
      rintro e v1 ⟨⟨vv, rfl⟩, s1⟩
      clear x0 x1 x2 x4 x5 d00 d01 d02 d03 d04 d05 lb l2 l3 lp
      obtain ⟨x0, x1, x2, x4, x5, d00, d01, d02, d03, d04, d05, lb, l2, l3, lp⟩ := KX.out _ _ _ _ s1
      have S1 := Lib.hid s1
      clear s1 CW
      try go_wp2_with fail
      refine hK.out _ _ ?_ (fun hHeld => ?_)
      · exact ⟨x0, x5, d00, d01, d02, d03, d04, d05⟩
      clear hK K
      try simp only [Act.put, z1, z2, z3]
      refine wpAnyH_done (by kernel_rfl) ?_ _
      go_wp2
      first | go_end0 | (refine bodyPost_ret (results_none rfl _ _ _) rfl ?_)
      obtain ⟨R9, w9, f9, q9⟩ := S1.out
      exact WP.of_below HW1.out HW.out.inn.sz (WP.ok HQ1.out ⟨⟨_, rfl⟩, R9, w9, f9, q9⟩)
set_option maxRecDepth 100000 in
set_option maxHeartbeats 8000000 in
theorem ws34f {F : WF} {n : Nat} (G : GoodW F n) (L : LenW F) (w : World) (p B : Nat) (ms : List Nat) (E : Env) (o : Out) (R : Rw) (t : Tr) (kv : Value) (h : WAt w p B ms E o R) (hne : 0 < E.blocks.length) (hbd : bnd E o + 9 * t.size ≤ 2000000) (hk : KidsAt w B kv t.kids) (hwf : t.wf1) (hd : t.fitsD (n + 1) = true) (hkind : t.kind = 34) {ka : Tr} (hkids : t.kids = [ka]) (ho0 : OkX ka) (hfn : E.fn = 0) :
    WCall 28 w p B ms E R t kv (stW F E t o) := by
  have hgo : stW F E t o = (failM t.at_ 76) o := by unfold stW; simp [hkind, hkids, hfn]
  unfold WCall
  rw [hgo]
  clear hgo
  have hlen : t.kids.length = 1 := by rw [hkids]; rfl
  have hts := Tr.size_eq t
  rw [hkids] at hts
  simp only [Tr.sizes_cons, Tr.sizes_nil] at hts
  obtain ⟨A, cap, rfl, hcl, hcm, hA⟩ := hk.slice
  obtain ⟨b, off, rfl, hbB⟩ := hA (by omega)
  rw [hlen] at hk hcl ⊢
  rw [hkind]
  have hi0 : t.kids[0]? = some ka := by rw [hkids]; rfl
  have hd0 := Tr.fitsD_kid hd (List.mem_of_getElem? hi0)
  obtain ⟨_, hw0, kv0, hn0, hs0⟩ := hk.kid hi0
  obtain ⟨Aka, cka, rfl, _, _, _⟩ := hs0.slice
  obtain ⟨d00, d01, d02, d03, d04, d05⟩ := kcells hn0 (off) (by omega)
  have r4 := h.blk.cell 4
  simp only [List.getElem?_toArray, List.getElem?_cons_succ, List.getElem?_cons_zero] at r4
  rw [hfn] at r4
  have hpl := h.blk.lt
  have np1 : w.heap.size ≠ p := by have := h.blk.lt; omega
  have np2 : w.heap.size + 1 ≠ p := by have := h.blk.lt; omega
  obtain ⟨U, hU⟩ : ∃ U, ((w.alloc (.cells #[.pointer (some ⟨p, 0, none⟩)] 60)).alloc (.cells #[.int .i64 34, .int .i64 t.at_, .string t.name, .int .u64 t.num, .string t.op, .slice (some ⟨b, off, none⟩) 1 cap] 31)) = U := ⟨_, rfl⟩
  have W1 : Below w.heap.size w U := by rw [← hU]; exact below_alloc (below_alloc (Below.refl _ _))
  have h1 := h.fr W1
  have b2 : Blk U w.heap.size 60 #[.pointer (some ⟨p, 0, none⟩)] := by rw [← hU]; exact (Blk.new _ _ _).alloc _
  have b3 : Blk U (w.heap.size + 1) 31 #[.int .i64 34, .int .i64 t.at_, .string t.name, .int .u64 t.num, .string t.op, .slice (some ⟨b, off, none⟩) 1 cap] := by rw [← hU]; have h1 := Blk.new (w.alloc (.cells #[.pointer (some ⟨p, 0, none⟩)] 60)) 31 #[.int .i64 34, .int .i64 t.at_, .string t.name, .int .u64 t.num, .string t.op, .slice (some ⟨b, off, none⟩) 1 cap]; rw [size_alloc] at h1; exact h1
  have hbw : b < U.heap.size := Nat.lt_of_lt_of_le (Nat.lt_of_lt_of_le hbB h.inn.sz) W1.size
  have KX := Lib.hid (fun (v : World) (ms' : List Nat) (E' : Env) (o' : Out) (s : Sq U p B ms' E' R v o') => show v.cell? ⟨w.heap.size, 0, none⟩ = some (.pointer (some ⟨p, 0, none⟩)) ∧ v.cell? ⟨w.heap.size + 1, 1, none⟩ = some (.int .i64 t.at_) ∧ v.cell? ⟨w.heap.size + 1, 2, none⟩ = some (.string t.name) ∧ v.cell? ⟨w.heap.size + 1, 4, none⟩ = some (.string t.op) ∧ v.cell? ⟨w.heap.size + 1, 5, none⟩ = some (.slice (some ⟨b, off, none⟩) 1 cap) ∧ v.cell? ⟨b, off, none⟩ = some (.int .i64 ka.kind) ∧ v.cell? ⟨b, off + 1, none⟩ = some (.int .i64 ka.at_) ∧ v.cell? ⟨b, off + 2, none⟩ = some (.string ka.name) ∧ v.cell? ⟨b, off + 3, none⟩ = some (.int .u64 ka.num) ∧ v.cell? ⟨b, off + 4, none⟩ = some (.string ka.op) ∧ v.cell? ⟨b, off + 5, none⟩ = some (.slice Aka ka.kids.length cka) ∧ b < v.heap.size ∧ w.heap.size < v.heap.size ∧ w.heap.size + 1 < v.heap.size ∧ p < v.heap.size from ⟨s.cel h1 b2 (by decide) 0 rfl, s.cel h1 b3 (by decide) 1 rfl, s.cel h1 b3 (by decide) 2 rfl, s.cel h1 b3 (by decide) 4 rfl, s.cel h1 b3 (by decide) 5 rfl, s.old h1 hbB (((W1.mono h.inn.sz).cell (p := ⟨b, off, none⟩) hbB).trans d00), s.old h1 hbB (((W1.mono h.inn.sz).cell (p := ⟨b, off + 1, none⟩) hbB).trans d01), s.old h1 hbB (((W1.mono h.inn.sz).cell (p := ⟨b, off + 2, none⟩) hbB).trans d02), s.old h1 hbB (((W1.mono h.inn.sz).cell (p := ⟨b, off + 3, none⟩) hbB).trans d03), s.old h1 hbB (((W1.mono h.inn.sz).cell (p := ⟨b, off + 4, none⟩) hbB).trans d04), s.old h1 hbB (((W1.mono h.inn.sz).cell (p := ⟨b, off + 5, none⟩) hbB).trans d05), Nat.lt_of_lt_of_le hbw s.size, (s.blk h1 b2 (by decide)).lt, (s.blk h1 b3 (by decide)).lt, Nat.lt_of_lt_of_le h1.blk.lt s.size⟩)
  have HU := Lib.hid h1
  have HW := Lib.hid h
  have HW1 := Lib.hid W1
  have S0 := Lib.hid (Sq.refl h1)
  have HNE := Lib.hid hne
  have HG := Lib.hid G
  have HLen := Lib.hid L
  have HBD := Lib.hid hbd
  have HTS := Lib.hid hts
  have HWFT := Lib.hid hwf
  have HKT := Lib.hid (hk.under (W1.mono h.inn.sz))
  have HS0 := Lib.hid (hs0.under (W1.mono h.inn.sz))
  have HWF0 := Lib.hid hw0
  have HD0 := Lib.hid hd0
  have HO0 := Lib.hid ho0
  have hq2 : w.heap.size ≠ b := by have := h.inn.sz; omega
  have hq3 : w.heap.size + 1 ≠ b := by have := h.inn.sz; omega
  have hcl' : (1 : Int) ≤ (cap : Int) := by omega
  have HB2 := Lib.hid b2
  have HB3 := Lib.hid b3
  clear h hne hbd hk hwf hd hkind hkids hlen hts hcm hA W1 h1 b2 b3 hbw G L hi0 hd0 hw0 hn0 hs0 ho0
  obtain ⟨x0, x1, x2, x4, x5, d00, d01, d02, d03, d04, d05, lb, l2, l3, lp⟩ := KX.out _ _ _ _ S0.out
  subst hU
  clear hfn
  have FC := Lib.hid fail_calls
  go_enter Tryd.func28, Tryd.ntmps28
  go_wp2_with (first | (go_at_call 39; (with_reducible refine (FC.out _ _ _).mono ?_); rintro e w2 ⟨rfl, rfl⟩; unfold bad))
  exact ⟨rfl, WP.of_below HW1.out HW.out.inn.sz (WP.err rfl ⟨rfl, Below.refl _ _⟩)⟩
set_option maxRecDepth 100000 in
set_option maxHeartbeats 8000000 in
theorem ws43n {F : WF} {n : Nat} (G : GoodW F n) (L : LenW F) (w : World) (p B : Nat) (ms : List Nat) (E : Env) (o : Out) (R : Rw) (t : Tr) (kv : Value) (h : WAt w p B ms E o R) (hne : 0 < E.blocks.length) (hbd : bnd E o + 9 * t.size ≤ 2000000) (hk : KidsAt w B kv t.kids) (hwf : t.wf1) (hd : t.fitsD (n + 1) = true) (hkind : t.kind = 43) {ka : Tr} {kb : Tr} {kc : Tr} (hkids : t.kids = [ka, kb, kc]) (ho0 : OkS ka) (ho1 : OkS kb) (ho2 : OkS kc) (hb0 : kb.kind = 0) :
    WCall 28 w p B ms E R t kv (stW F E t o) := by
  have hgo : stW F E t o = (seqM (F.st E ka) (F.st E kc)) o := by unfold stW; simp [hkind, hkids, hb0, seqM_skip]
  unfold WCall
  rw [hgo]
  clear hgo
  have hlen : t.kids.length = 3 := by rw [hkids]; rfl
  have hts := Tr.size_eq t
  rw [hkids] at hts
  simp only [Tr.sizes_cons, Tr.sizes_nil] at hts
  obtain ⟨A, cap, rfl, hcl, hcm, hA⟩ := hk.slice
  obtain ⟨b, off, rfl, hbB⟩ := hA (by omega)
  rw [hlen] at hk hcl ⊢
  rw [hkind]
  have hi0 : t.kids[0]? = some ka := by rw [hkids]; rfl
  have hd0 := Tr.fitsD_kid hd (List.mem_of_getElem? hi0)
  obtain ⟨_, hw0, kv0, hn0, hs0⟩ := hk.kid hi0
  obtain ⟨Aka, cka, rfl, _, _, _⟩ := hs0.slice
  obtain ⟨d00, d01, d02, d03, d04, d05⟩ := kcells hn0 (off) (by omega)
  have hi1 : t.kids[1]? = some kb := by rw [hkids]; rfl
  have hd1 := Tr.fitsD_kid hd (List.mem_of_getElem? hi1)
  obtain ⟨_, hw1, kv1, hn1, hs1⟩ := hk.kid hi1
  obtain ⟨Akb, ckb, rfl, _, _, _⟩ := hs1.slice
  obtain ⟨d10, d11, d12, d13, d14, d15⟩ := kcells hn1 (off + 6) (by omega)
  have hi2 : t.kids[2]? = some kc := by rw [hkids]; rfl
  have hd2 := Tr.fitsD_kid hd (List.mem_of_getElem? hi2)
  obtain ⟨_, hw2, kv2, hn2, hs2⟩ := hk.kid hi2
  obtain ⟨Akc, ckc, rfl, _, _, _⟩ := hs2.slice
  obtain ⟨d20, d21, d22, d23, d24, d25⟩ := kcells hn2 (off + 12) (by omega)
  have qb : (kb.kind != 0) = false := by simp [hb0]
  obtain ⟨U, hU⟩ : ∃ U, ((w.alloc (.cells #[.pointer (some ⟨p, 0, none⟩)] 60)).alloc (.cells #[.int .i64 43, .int .i64 t.at_, .string t.name, .int .u64 t.num, .string t.op, .slice (some ⟨b, off, none⟩) 3 cap] 31)) = U := ⟨_, rfl⟩
  have W1 : Below w.heap.size w U := by rw [← hU]; exact below_alloc (below_alloc (Below.refl _ _))
  have h1 := h.fr W1
  have b2 : Blk U w.heap.size 60 #[.pointer (some ⟨p, 0, none⟩)] := by rw [← hU]; exact (Blk.new _ _ _).alloc _
  have b3 : Blk U (w.heap.size + 1) 31 #[.int .i64 43, .int .i64 t.at_, .string t.name, .int .u64 t.num, .string t.op, .slice (some ⟨b, off, none⟩) 3 cap] := by rw [← hU]; have h1 := Blk.new (w.alloc (.cells #[.pointer (some ⟨p, 0, none⟩)] 60)) 31 #[.int .i64 43, .int .i64 t.at_, .string t.name, .int .u64 t.num, .string t.op, .slice (some ⟨b, off, none⟩) 3 cap]; rw [size_alloc] at h1; exact h1
  have hbw : b < U.heap.size := Nat.lt_of_lt_of_le (Nat.lt_of_lt_of_le hbB h.inn.sz) W1.size
  have KX := Lib.hid (fun (v : World) (ms' : List Nat) (E' : Env) (o' : Out) (s : Sq U p B ms' E' R v o') => show v.cell? ⟨w.heap.size, 0, none⟩ = some (.pointer (some ⟨p, 0, none⟩)) ∧ v.cell? ⟨w.heap.size + 1, 1, none⟩ = some (.int .i64 t.at_) ∧ v.cell? ⟨w.heap.size + 1, 2, none⟩ = some (.string t.name) ∧ v.cell? ⟨w.heap.size + 1, 4, none⟩ = some (.string t.op) ∧ v.cell? ⟨w.heap.size + 1, 5, none⟩ = some (.slice (some ⟨b, off, none⟩) 3 cap) ∧ v.cell? ⟨b, off, none⟩ = some (.int .i64 ka.kind) ∧ v.cell? ⟨b, off + 1, none⟩ = some (.int .i64 ka.at_) ∧ v.cell? ⟨b, off + 2, none⟩ = some (.string ka.name) ∧ v.cell? ⟨b, off + 3, none⟩ = some (.int .u64 ka.num) ∧ v.cell? ⟨b, off + 4, none⟩ = some (.string ka.op) ∧ v.cell? ⟨b, off + 5, none⟩ = some (.slice Aka ka.kids.length cka) ∧ v.cell? ⟨b, off + 6, none⟩ = some (.int .i64 kb.kind) ∧ v.cell? ⟨b, off + 7, none⟩ = some (.int .i64 kb.at_) ∧ v.cell? ⟨b, off + 8, none⟩ = some (.string kb.name) ∧ v.cell? ⟨b, off + 9, none⟩ = some (.int .u64 kb.num) ∧ v.cell? ⟨b, off + 10, none⟩ = some (.string kb.op) ∧ v.cell? ⟨b, off + 11, none⟩ = some (.slice Akb kb.kids.length ckb) ∧ v.cell? ⟨b, off + 12, none⟩ = some (.int .i64 kc.kind) ∧ v.cell? ⟨b, off + 13, none⟩ = some (.int .i64 kc.at_) ∧ v.cell? ⟨b, off + 14, none⟩ = some (.string kc.name) ∧ v.cell? ⟨b, off + 15, none⟩ = some (.int .u64 kc.num) ∧ v.cell? ⟨b, off + 16, none⟩ = some (.string kc.op) ∧ v.cell? ⟨b, off + 17, none⟩ = some (.slice Akc kc.kids.length ckc) ∧ b < v.heap.size ∧ w.heap.size < v.heap.size ∧ w.heap.size + 1 < v.heap.size ∧ p < v.heap.size from ⟨s.cel h1 b2 (by decide) 0 rfl, s.cel h1 b3 (by decide) 1 rfl, s.cel h1 b3 (by decide) 2 rfl, s.cel h1 b3 (by decide) 4 rfl, s.cel h1 b3 (by decide) 5 rfl, s.old h1 hbB (((W1.mono h.inn.sz).cell (p := ⟨b, off, none⟩) hbB).trans d00), s.old h1 hbB (((W1.mono h.inn.sz).cell (p := ⟨b, off + 1, none⟩) hbB).trans d01), s.old h1 hbB (((W1.mono h.inn.sz).cell (p := ⟨b, off + 2, none⟩) hbB).trans d02), s.old h1 hbB (((W1.mono h.inn.sz).cell (p := ⟨b, off + 3, none⟩) hbB).trans d03), s.old h1 hbB (((W1.mono h.inn.sz).cell (p := ⟨b, off + 4, none⟩) hbB).trans d04), s.old h1 hbB (((W1.mono h.inn.sz).cell (p := ⟨b, off + 5, none⟩) hbB).trans d05), s.old h1 hbB (((W1.mono h.inn.sz).cell (p := ⟨b, off + 6, none⟩) hbB).trans d10), s.old h1 hbB (((W1.mono h.inn.sz).cell (p := ⟨b, off + 7, none⟩) hbB).trans d11), s.old h1 hbB (((W1.mono h.inn.sz).cell (p := ⟨b, off + 8, none⟩) hbB).trans d12), s.old h1 hbB (((W1.mono h.inn.sz).cell (p := ⟨b, off + 9, none⟩) hbB).trans d13), s.old h1 hbB (((W1.mono h.inn.sz).cell (p := ⟨b, off + 10, none⟩) hbB).trans d14), s.old h1 hbB (((W1.mono h.inn.sz).cell (p := ⟨b, off + 11, none⟩) hbB).trans d15), s.old h1 hbB (((W1.mono h.inn.sz).cell (p := ⟨b, off + 12, none⟩) hbB).trans d20), s.old h1 hbB (((W1.mono h.inn.sz).cell (p := ⟨b, off + 13, none⟩) hbB).trans d21), s.old h1 hbB (((W1.mono h.inn.sz).cell (p := ⟨b, off + 14, none⟩) hbB).trans d22), s.old h1 hbB (((W1.mono h.inn.sz).cell (p := ⟨b, off + 15, none⟩) hbB).trans d23), s.old h1 hbB (((W1.mono h.inn.sz).cell (p := ⟨b, off + 16, none⟩) hbB).trans d24), s.old h1 hbB (((W1.mono h.inn.sz).cell (p := ⟨b, off + 17, none⟩) hbB).trans d25), Nat.lt_of_lt_of_le hbw s.size, (s.blk h1 b2 (by decide)).lt, (s.blk h1 b3 (by decide)).lt, Nat.lt_of_lt_of_le h1.blk.lt s.size⟩)
  have HU := Lib.hid h1
  have HW := Lib.hid h
  have HW1 := Lib.hid W1
  have S0 := Lib.hid (Sq.refl h1)
  have HNE := Lib.hid hne
  have HG := Lib.hid G
  have HLen := Lib.hid L
  have HBD := Lib.hid hbd
  have HTS := Lib.hid hts
  have HWFT := Lib.hid hwf
  have HKT := Lib.hid (hk.under (W1.mono h.inn.sz))
  have HS0 := Lib.hid (hs0.under (W1.mono h.inn.sz))
  have HWF0 := Lib.hid hw0
  have HD0 := Lib.hid hd0
  have HO0 := Lib.hid ho0
  have HS1 := Lib.hid (hs1.under (W1.mono h.inn.sz))
  have HWF1 := Lib.hid hw1
  have HD1 := Lib.hid hd1
  have HO1 := Lib.hid ho1
  have HS2 := Lib.hid (hs2.under (W1.mono h.inn.sz))
  have HWF2 := Lib.hid hw2
  have HD2 := Lib.hid hd2
  have HO2 := Lib.hid ho2
  have hq2 : w.heap.size ≠ b := by have := h.inn.sz; omega
  have hq3 : w.heap.size + 1 ≠ b := by have := h.inn.sz; omega
  have hcl' : (3 : Int) ≤ (cap : Int) := by omega
  have HB2 := Lib.hid b2
  have HB3 := Lib.hid b3
  clear h hne hbd hk hwf hd hkind hkids hlen hts hcm hA W1 h1 b2 b3 hbw G L hi0 hd0 hw0 hn0 hs0 ho0 hi1 hd1 hw1 hn1 hs1 ho1 hi2 hd2 hw2 hn2 hs2 ho2
  obtain ⟨x0, x1, x2, x4, x5, d00, d01, d02, d03, d04, d05, d10, d11, d12, d13, d14, d15, d20, d21, d22, d23, d24, d25, lb, l2, l3, lp⟩ := KX.out _ _ _ _ S0.out
  subst hU
  clear hb0
  go_enter Tryd.func28, Tryd.ntmps28
  go_wp2
  have CC := Lib.hid (S0.out.drew.st HG.out HU.out HNE.out (by have h1 := HBD.out; have h2 := HTS.out; simp only [bnd] at h1 ⊢; omega) HS0.out HWF0.out HD0.out HO0.out)
  have hTr : True := trivial
  refine wp_region_held_drew (S := (fun w' => w'.cell? ⟨w.heap.size, 0, none⟩ = some (.pointer (some ⟨p, 0, none⟩)) ∧ w'.cell? ⟨w.heap.size + 1, 5, none⟩ = some (.slice (some ⟨b, off, none⟩) 3 cap) ∧ w'.cell? ⟨b, off, none⟩ = some (.int .i64 ka.kind) ∧ w'.cell? ⟨b, off + 1, none⟩ = some (.int .i64 ka.at_) ∧ w'.cell? ⟨b, off + 2, none⟩ = some (.string ka.name) ∧ w'.cell? ⟨b, off + 3, none⟩ = some (.int .u64 ka.num) ∧ w'.cell? ⟨b, off + 4, none⟩ = some (.string ka.op) ∧ w'.cell? ⟨b, off + 5, none⟩ = some (.slice Aka ka.kids.length cka))) (by kernel_rfl) ?_ (fun hHeld => ?_)
  · exact ⟨x0, x5, d00, d01, d02, d03, d04, d05⟩
  refine tk 0 ?_
  try simp only [Act.put, z1, z2, z3]
  refine tk 1 ?_
  try simp only [Act.put, z1, z2, z3]
  refine tk 2 ?_
  try simp only [Act.put, z1, z2, z3]
  refine tk 3 ?_
  try simp only [Act.put, z1, z2, z3]
  refine tk 4 ?_
  try simp only [Act.put, z1, z2, z3]
  refine wpAnyH_ready (rs := [5]) (by kernel_rfl) (by simp) ?_
  refine (AllReadyH.cons (i := 5) (o := ?o3) ?h3 (fun K hK => ?k3) AllReadyH.nil)
  case h3 => (simp only [List.getElem?_toArray, List.getElem?_cons_succ, List.getElem?_cons_zero]; try rfl)
  case k3 =>
    go_simp
    have CW := CC.out
    clear CC
    cases hr : (F.st E ka) o with
    | error cc =>
      have CW := Lib.hid (WP.errC CW hr)
      have HE := Lib.hid (show (seqM (F.st E ka) (F.st E kc)) o = .error cc from (seqM_err hr))
      clear hr
      obtain ⟨c1, c2⟩ := cc
      unfold bad at CW
      go_at_call 28
      (with_reducible refine CW.out.mono ?_)
      rintro e v1 ⟨rfl, g1⟩
      go_wp2
      exact ⟨rfl, WP.of_below HW1.out HW.out.inn.sz (WP.err HE.out ⟨rfl, g1⟩)⟩
    | ok o1 =>
      have CW := Lib.hid (WP.okC CW hr)
      have HQ1 := Lib.hid (show (seqM (F.st E ka) (F.st E kc)) o = (F.st E kc) o1 from seqM_ok hr)
      have HL1 := Lib.hid (show o1.len + 1 ≤ o.len + 4 * (ka.size) from by have h1 := HLen.out.st E ka o o1 hr; omega)
      clear hr
      go_at_call 28
      (with_reducible refine CW.out.mono ?_)
      rintro e v1 ⟨⟨vv, rfl⟩, s1⟩
      clear x0 x1 x2 x4 x5 d00 d01 d02 d03 d04 d05 d10 d11 d12 d13 d14 d15 d20 d21 d22 d23 d24 d25 lb l2 l3 lp
      obtain ⟨x0, x1, x2, x4, x5, d00, d01, d02, d03, d04, d05, d10, d11, d12, d13, d14, d15, d20, d21, d22, d23, d24, d25, lb, l2, l3, lp⟩ := KX.out _ _ _ _ s1
      have S1 := Lib.hid s1
      clear s1 CW
      try go_wp2_with fail
      refine hK.out _ _ ?_ (fun hHeld => ?_)
      · exact ⟨x0, x5, d00, d01, d02, d03, d04, d05⟩
      clear hK K
      try simp only [Act.put, z1, z2, z3]
      refine wpAnyH_done (by kernel_rfl) ?_ _
      go_wp2
      have CC := Lib.hid (S1.out.drew.st HG.out HU.out HNE.out (by have h1 := HBD.out; have h2 := HTS.out; simp only [bnd] at h1 ⊢; have l1 := HL1.out; omega) HS2.out HWF2.out HD2.out HO2.out)
      have hTr : True := trivial
      refine wp_region_held_drew (S := (fun w' => w'.cell? ⟨w.heap.size, 0, none⟩ = some (.pointer (some ⟨p, 0, none⟩)) ∧ w'.cell? ⟨w.heap.size + 1, 5, none⟩ = some (.slice (some ⟨b, off, none⟩) 3 cap) ∧ w'.cell? ⟨b, off + 12, none⟩ = some (.int .i64 kc.kind) ∧ w'.cell? ⟨b, off + 13, none⟩ = some (.int .i64 kc.at_) ∧ w'.cell? ⟨b, off + 14, none⟩ = some (.string kc.name) ∧ w'.cell? ⟨b, off + 15, none⟩ = some (.int .u64 kc.num) ∧ w'.cell? ⟨b, off + 16, none⟩ = some (.string kc.op) ∧ w'.cell? ⟨b, off + 17, none⟩ = some (.slice Akc kc.kids.length ckc))) (by kernel_rfl) ?_ (fun hHeld => ?_)
      · exact ⟨x0, x5, d20, d21, d22, d23, d24, d25⟩
      refine tk 0 ?_
      try simp only [Act.put, z1, z2, z3]
      refine tk 1 ?_
      try simp only [Act.put, z1, z2, z3]
      refine tk 2 ?_
      try simp only [Act.put, z1, z2, z3]
      refine tk 3 ?_
      try simp only [Act.put, z1, z2, z3]
      refine tk 4 ?_
      try simp only [Act.put, z1, z2, z3]
      refine wpAnyH_ready (rs := [5]) (by kernel_rfl) (by simp) ?_
      refine (AllReadyH.cons (i := 5) (o := ?o2) ?h2 (fun K hK => ?k2) AllReadyH.nil)
      case h2 => (simp only [List.getElem?_toArray, List.getElem?_cons_succ, List.getElem?_cons_zero]; try rfl)
      case k2 =>
        go_simp
        have CW := CC.out
        clear CC
        cases hr : (F.st E kc) o1 with
        | error cc =>
          have CW := Lib.hid (WP.errC CW hr)
          have HE := Lib.hid (show (seqM (F.st E ka) (F.st E kc)) o = .error cc from (HQ1.out.trans (hr)))
          clear hr
          obtain ⟨c1, c2⟩ := cc
          unfold bad at CW
          go_at_call 28
          (with_reducible refine CW.out.mono ?_)
          rintro e v2 ⟨rfl, g1⟩
          go_wp2
          exact ⟨rfl, WP.of_below HW1.out HW.out.inn.sz (WP.err HE.out ⟨rfl, g1⟩)⟩
        | ok o2 =>
          have CW := Lib.hid (WP.okC CW hr)
          have HQ2 := Lib.hid (show (seqM (F.st E ka) (F.st E kc)) o = .ok o2 from HQ1.out.trans hr)
          have HL2 := Lib.hid (show o2.len + 2 ≤ o.len + 4 * (ka.size + kc.size) from by have h1 := HLen.out.st E kc o1 o2 hr; have h2 := HL1.out; omega)
          clear hr
          go_at_call 28
          (with_reducible refine CW.out.mono ?_)
          rintro e v2 ⟨⟨vv, rfl⟩, s2⟩
          clear x0 x1 x2 x4 x5 d00 d01 d02 d03 d04 d05 d10 d11 d12 d13 d14 d15 d20 d21 d22 d23 d24 d25 lb l2 l3 lp
          obtain ⟨x0, x1, x2, x4, x5, d00, d01, d02, d03, d04, d05, d10, d11, d12, d13, d14, d15, d20, d21, d22, d23, d24, d25, lb, l2, l3, lp⟩ := KX.out _ _ _ _ s2
          have S2 := Lib.hid s2
          clear s2 CW
          try go_wp2_with fail
          refine hK.out _ _ ?_ (fun hHeld => ?_)
          · exact ⟨x0, x5, d20, d21, d22, d23, d24, d25⟩
          clear hK K
          try simp only [Act.put, z1, z2, z3]
          refine wpAnyH_done (by kernel_rfl) ?_ _
          go_wp2
          first | go_end0 | (refine bodyPost_ret (results_none rfl _ _ _) rfl ?_)
          obtain ⟨R9, w9, f9, q9⟩ := S2.out
          exact WP.of_below HW1.out HW.out.inn.sz (WP.ok HQ2.out ⟨⟨_, rfl⟩, R9, w9, f9, q9⟩)
set_option maxRecDepth 100000 in
set_option maxHeartbeats 8000000 in
theorem ws43b {F : WF} {n : Nat} (G : GoodW F n) (L : LenW F) (w : World) (p B : Nat) (ms : List Nat) (E : Env) (o : Out) (R : Rw) (t : Tr) (kv : Value) (h : WAt w p B ms E o R) (hne : 0 < E.blocks.length) (hbd : bnd E o + 9 * t.size ≤ 2000000) (hk : KidsAt w B kv t.kids) (hwf : t.wf1) (hd : t.fitsD (n + 1) = true) (hkind : t.kind = 43) {ka : Tr} {kb : Tr} {kc : Tr} (hkids : t.kids = [ka, kb, kc]) (ho0 : OkS ka) (ho1 : OkS kb) (ho2 : OkS kc) (hb44 : kb.kind = 44) (hobk : ∀ k ∈ kb.kids, OkS k) :
    WCall 28 w p B ms E R t kv (stW F E t o) := by
  have hgo : stW F E t o = (seqM (F.st E ka) (seqM (bodyW F E (catchP E t) kb.kids) (F.st E kc))) o := by unfold stW; simp [hkind, hkids, hb44]
  unfold WCall
  rw [hgo]
  clear hgo
  have hlen : t.kids.length = 3 := by rw [hkids]; rfl
  have hts := Tr.size_eq t
  rw [hkids] at hts
  simp only [Tr.sizes_cons, Tr.sizes_nil] at hts
  obtain ⟨A, cap, rfl, hcl, hcm, hA⟩ := hk.slice
  obtain ⟨b, off, rfl, hbB⟩ := hA (by omega)
  rw [hlen] at hk hcl ⊢
  rw [hkind]
  have hi0 : t.kids[0]? = some ka := by rw [hkids]; rfl
  have hd0 := Tr.fitsD_kid hd (List.mem_of_getElem? hi0)
  obtain ⟨_, hw0, kv0, hn0, hs0⟩ := hk.kid hi0
  obtain ⟨Aka, cka, rfl, _, _, _⟩ := hs0.slice
  obtain ⟨d00, d01, d02, d03, d04, d05⟩ := kcells hn0 (off) (by omega)
  have hi1 : t.kids[1]? = some kb := by rw [hkids]; rfl
  have hd1 := Tr.fitsD_kid hd (List.mem_of_getElem? hi1)
  obtain ⟨_, hw1, kv1, hn1, hs1⟩ := hk.kid hi1
  obtain ⟨Akb, ckb, rfl, _, _, _⟩ := hs1.slice
  obtain ⟨d10, d11, d12, d13, d14, d15⟩ := kcells hn1 (off + 6) (by omega)
  have hi2 : t.kids[2]? = some kc := by rw [hkids]; rfl
  have hd2 := Tr.fitsD_kid hd (List.mem_of_getElem? hi2)
  obtain ⟨_, hw2, kv2, hn2, hs2⟩ := hk.kid hi2
  obtain ⟨Akc, ckc, rfl, _, _, _⟩ := hs2.slice
  obtain ⟨d20, d21, d22, d23, d24, d25⟩ := kcells hn2 (off + 12) (by omega)
  have qb : (kb.kind != 0) = true := by simp [hb44]
  have HOBK := Lib.hid hobk
  have hdd : ∀ k ∈ kb.kids, k.fitsD n = true := fun k hk => Tr.fitsD_kid (Tr.fitsD_mono (Nat.le_succ n) hd1) hk
  have HDD := Lib.hid hdd
  have hsz1 := Tr.size_eq kb
  have HSZ1 := Lib.hid hsz1
  have HKD := Lib.hid hkind
  obtain ⟨U, hU⟩ : ∃ U, ((w.alloc (.cells #[.pointer (some ⟨p, 0, none⟩)] 60)).alloc (.cells #[.int .i64 43, .int .i64 t.at_, .string t.name, .int .u64 t.num, .string t.op, .slice (some ⟨b, off, none⟩) 3 cap] 31)) = U := ⟨_, rfl⟩
  have W1 : Below w.heap.size w U := by rw [← hU]; exact below_alloc (below_alloc (Below.refl _ _))
  have h1 := h.fr W1
  have b2 : Blk U w.heap.size 60 #[.pointer (some ⟨p, 0, none⟩)] := by rw [← hU]; exact (Blk.new _ _ _).alloc _
  have b3 : Blk U (w.heap.size + 1) 31 #[.int .i64 43, .int .i64 t.at_, .string t.name, .int .u64 t.num, .string t.op, .slice (some ⟨b, off, none⟩) 3 cap] := by rw [← hU]; have h1 := Blk.new (w.alloc (.cells #[.pointer (some ⟨p, 0, none⟩)] 60)) 31 #[.int .i64 43, .int .i64 t.at_, .string t.name, .int .u64 t.num, .string t.op, .slice (some ⟨b, off, none⟩) 3 cap]; rw [size_alloc] at h1; exact h1
  have hbw : b < U.heap.size := Nat.lt_of_lt_of_le (Nat.lt_of_lt_of_le hbB h.inn.sz) W1.size
  have KX := Lib.hid (fun (v : World) (ms' : List Nat) (E' : Env) (o' : Out) (s : Sq U p B ms' E' R v o') => show v.cell? ⟨w.heap.size, 0, none⟩ = some (.pointer (some ⟨p, 0, none⟩)) ∧ v.cell? ⟨w.heap.size + 1, 1, none⟩ = some (.int .i64 t.at_) ∧ v.cell? ⟨w.heap.size + 1, 2, none⟩ = some (.string t.name) ∧ v.cell? ⟨w.heap.size + 1, 4, none⟩ = some (.string t.op) ∧ v.cell? ⟨w.heap.size + 1, 5, none⟩ = some (.slice (some ⟨b, off, none⟩) 3 cap) ∧ v.cell? ⟨b, off, none⟩ = some (.int .i64 ka.kind) ∧ v.cell? ⟨b, off + 1, none⟩ = some (.int .i64 ka.at_) ∧ v.cell? ⟨b, off + 2, none⟩ = some (.string ka.name) ∧ v.cell? ⟨b, off + 3, none⟩ = some (.int .u64 ka.num) ∧ v.cell? ⟨b, off + 4, none⟩ = some (.string ka.op) ∧ v.cell? ⟨b, off + 5, none⟩ = some (.slice Aka ka.kids.length cka) ∧ v.cell? ⟨b, off + 6, none⟩ = some (.int .i64 kb.kind) ∧ v.cell? ⟨b, off + 7, none⟩ = some (.int .i64 kb.at_) ∧ v.cell? ⟨b, off + 8, none⟩ = some (.string kb.name) ∧ v.cell? ⟨b, off + 9, none⟩ = some (.int .u64 kb.num) ∧ v.cell? ⟨b, off + 10, none⟩ = some (.string kb.op) ∧ v.cell? ⟨b, off + 11, none⟩ = some (.slice Akb kb.kids.length ckb) ∧ v.cell? ⟨b, off + 12, none⟩ = some (.int .i64 kc.kind) ∧ v.cell? ⟨b, off + 13, none⟩ = some (.int .i64 kc.at_) ∧ v.cell? ⟨b, off + 14, none⟩ = some (.string kc.name) ∧ v.cell? ⟨b, off + 15, none⟩ = some (.int .u64 kc.num) ∧ v.cell? ⟨b, off + 16, none⟩ = some (.string kc.op) ∧ v.cell? ⟨b, off + 17, none⟩ = some (.slice Akc kc.kids.length ckc) ∧ b < v.heap.size ∧ w.heap.size < v.heap.size ∧ w.heap.size + 1 < v.heap.size ∧ p < v.heap.size from ⟨s.cel h1 b2 (by decide) 0 rfl, s.cel h1 b3 (by decide) 1 rfl, s.cel h1 b3 (by decide) 2 rfl, s.cel h1 b3 (by decide) 4 rfl, s.cel h1 b3 (by decide) 5 rfl, s.old h1 hbB (((W1.mono h.inn.sz).cell (p := ⟨b, off, none⟩) hbB).trans d00), s.old h1 hbB (((W1.mono h.inn.sz).cell (p := ⟨b, off + 1, none⟩) hbB).trans d01), s.old h1 hbB (((W1.mono h.inn.sz).cell (p := ⟨b, off + 2, none⟩) hbB).trans d02), s.old h1 hbB (((W1.mono h.inn.sz).cell (p := ⟨b, off + 3, none⟩) hbB).trans d03), s.old h1 hbB (((W1.mono h.inn.sz).cell (p := ⟨b, off + 4, none⟩) hbB).trans d04), s.old h1 hbB (((W1.mono h.inn.sz).cell (p := ⟨b, off + 5, none⟩) hbB).trans d05), s.old h1 hbB (((W1.mono h.inn.sz).cell (p := ⟨b, off + 6, none⟩) hbB).trans d10), s.old h1 hbB (((W1.mono h.inn.sz).cell (p := ⟨b, off + 7, none⟩) hbB).trans d11), s.old h1 hbB (((W1.mono h.inn.sz).cell (p := ⟨b, off + 8, none⟩) hbB).trans d12), s.old h1 hbB (((W1.mono h.inn.sz).cell (p := ⟨b, off + 9, none⟩) hbB).trans d13), s.old h1 hbB (((W1.mono h.inn.sz).cell (p := ⟨b, off + 10, none⟩) hbB).trans d14), s.old h1 hbB (((W1.mono h.inn.sz).cell (p := ⟨b, off + 11, none⟩) hbB).trans d15), s.old h1 hbB (((W1.mono h.inn.sz).cell (p := ⟨b, off + 12, none⟩) hbB).trans d20), s.old h1 hbB (((W1.mono h.inn.sz).cell (p := ⟨b, off + 13, none⟩) hbB).trans d21), s.old h1 hbB (((W1.mono h.inn.sz).cell (p := ⟨b, off + 14, none⟩) hbB).trans d22), s.old h1 hbB (((W1.mono h.inn.sz).cell (p := ⟨b, off + 15, none⟩) hbB).trans d23), s.old h1 hbB (((W1.mono h.inn.sz).cell (p := ⟨b, off + 16, none⟩) hbB).trans d24), s.old h1 hbB (((W1.mono h.inn.sz).cell (p := ⟨b, off + 17, none⟩) hbB).trans d25), Nat.lt_of_lt_of_le hbw s.size, (s.blk h1 b2 (by decide)).lt, (s.blk h1 b3 (by decide)).lt, Nat.lt_of_lt_of_le h1.blk.lt s.size⟩)
  have HU := Lib.hid h1
  have HW := Lib.hid h
  have HW1 := Lib.hid W1
  have S0 := Lib.hid (Sq.refl h1)
  have HNE := Lib.hid hne
  have HG := Lib.hid G
  have HLen := Lib.hid L
  have HBD := Lib.hid hbd
  have HTS := Lib.hid hts
  have HWFT := Lib.hid hwf
  have HKT := Lib.hid (hk.under (W1.mono h.inn.sz))
  have HS0 := Lib.hid (hs0.under (W1.mono h.inn.sz))
  have HWF0 := Lib.hid hw0
  have HD0 := Lib.hid hd0
  have HO0 := Lib.hid ho0
  have HS1 := Lib.hid (hs1.under (W1.mono h.inn.sz))
  have HWF1 := Lib.hid hw1
  have HD1 := Lib.hid hd1
  have HO1 := Lib.hid ho1
  have HS2 := Lib.hid (hs2.under (W1.mono h.inn.sz))
  have HWF2 := Lib.hid hw2
  have HD2 := Lib.hid hd2
  have HO2 := Lib.hid ho2
  have hq2 : w.heap.size ≠ b := by have := h.inn.sz; omega
  have hq3 : w.heap.size + 1 ≠ b := by have := h.inn.sz; omega
  have hcl' : (3 : Int) ≤ (cap : Int) := by omega
  have HB2 := Lib.hid b2
  have HB3 := Lib.hid b3
  clear h hne hbd hk hwf hd hkind hkids hlen hts hcm hA W1 h1 b2 b3 hbw G L hi0 hd0 hw0 hn0 hs0 ho0 hi1 hd1 hw1 hn1 hs1 ho1 hi2 hd2 hw2 hn2 hs2 ho2
  obtain ⟨x0, x1, x2, x4, x5, d00, d01, d02, d03, d04, d05, d10, d11, d12, d13, d14, d15, d20, d21, d22, d23, d24, d25, lb, l2, l3, lp⟩ := KX.out _ _ _ _ S0.out
  subst hU
  clear hb44 hobk hdd hsz1
  go_enter Tryd.func28, Tryd.ntmps28
  go_wp2
  have CC := Lib.hid (S0.out.drew.st HG.out HU.out HNE.out (by have h1 := HBD.out; have h2 := HTS.out; simp only [bnd] at h1 ⊢; omega) HS0.out HWF0.out HD0.out HO0.out)
  have hTr : True := trivial
  refine wp_region_held_drew (S := (fun w' => w'.cell? ⟨w.heap.size, 0, none⟩ = some (.pointer (some ⟨p, 0, none⟩)) ∧ w'.cell? ⟨w.heap.size + 1, 5, none⟩ = some (.slice (some ⟨b, off, none⟩) 3 cap) ∧ w'.cell? ⟨b, off, none⟩ = some (.int .i64 ka.kind) ∧ w'.cell? ⟨b, off + 1, none⟩ = some (.int .i64 ka.at_) ∧ w'.cell? ⟨b, off + 2, none⟩ = some (.string ka.name) ∧ w'.cell? ⟨b, off + 3, none⟩ = some (.int .u64 ka.num) ∧ w'.cell? ⟨b, off + 4, none⟩ = some (.string ka.op) ∧ w'.cell? ⟨b, off + 5, none⟩ = some (.slice Aka ka.kids.length cka))) (by kernel_rfl) ?_ (fun hHeld => ?_)
  · exact ⟨x0, x5, d00, d01, d02, d03, d04, d05⟩
  refine tk 0 ?_
  try simp only [Act.put, z1, z2, z3]
  refine tk 1 ?_
  try simp only [Act.put, z1, z2, z3]
  refine tk 2 ?_
  try simp only [Act.put, z1, z2, z3]
  refine tk 3 ?_
  try simp only [Act.put, z1, z2, z3]
  refine tk 4 ?_
  try simp only [Act.put, z1, z2, z3]
  refine wpAnyH_ready (rs := [5]) (by kernel_rfl) (by simp) ?_
  refine (AllReadyH.cons (i := 5) (o := ?o6) ?h6 (fun K hK => ?k6) AllReadyH.nil)
  case h6 => (simp only [List.getElem?_toArray, List.getElem?_cons_succ, List.getElem?_cons_zero]; try rfl)
  case k6 =>
    go_simp
    have CW := CC.out
    clear CC
    cases hr : (F.st E ka) o with
    | error cc =>
      have CW := Lib.hid (WP.errC CW hr)
      have HE := Lib.hid (show (seqM (F.st E ka) (seqM (bodyW F E (catchP E t) kb.kids) (F.st E kc))) o = .error cc from (seqM_err hr))
      clear hr
      obtain ⟨c1, c2⟩ := cc
      unfold bad at CW
      go_at_call 28
      (with_reducible refine CW.out.mono ?_)
      rintro e v1 ⟨rfl, g1⟩
      go_wp2
      exact ⟨rfl, WP.of_below HW1.out HW.out.inn.sz (WP.err HE.out ⟨rfl, g1⟩)⟩
    | ok o1 =>
      have CW := Lib.hid (WP.okC CW hr)
      have HQ1 := Lib.hid (show (seqM (F.st E ka) (seqM (bodyW F E (catchP E t) kb.kids) (F.st E kc))) o = (seqM (bodyW F E (catchP E t) kb.kids) (F.st E kc)) o1 from seqM_ok hr)
      have HL1 := Lib.hid (show o1.len + 1 ≤ o.len + 4 * (ka.size) from by have h1 := HLen.out.st E ka o o1 hr; omega)
      clear hr
      go_at_call 28
      (with_reducible refine CW.out.mono ?_)
      rintro e v1 ⟨⟨vv, rfl⟩, s1⟩
      clear x0 x1 x2 x4 x5 d00 d01 d02 d03 d04 d05 d10 d11 d12 d13 d14 d15 d20 d21 d22 d23 d24 d25 lb l2 l3 lp
      obtain ⟨x0, x1, x2, x4, x5, d00, d01, d02, d03, d04, d05, d10, d11, d12, d13, d14, d15, d20, d21, d22, d23, d24, d25, lb, l2, l3, lp⟩ := KX.out _ _ _ _ s1
      have S1 := Lib.hid s1
      clear s1 CW
      try go_wp2_with fail
      refine hK.out _ _ ?_ (fun hHeld => ?_)
      · exact ⟨x0, x5, d00, d01, d02, d03, d04, d05⟩
      clear hK K
      try simp only [Act.put, z1, z2, z3]
      refine wpAnyH_done (by kernel_rfl) ?_ _
      go_wp2
      have CC := Lib.hid (S1.out.drew.catch_ HG.out HLen.out HU.out (t := t) (kv := .slice (some ⟨b, off, none⟩) 3 cap) HB2.out (by unfold Tr.cells; rw [HKD.out]; exact HB3.out) HWFT.out.2 HS1.out HDD.out HOBK.out (by have h1 := HBD.out; have h2 := HTS.out; have h3 := HSZ1.out; simp only [bnd] at h1 ⊢; have l1 := HL1.out; omega))
      have hTr : True := trivial
      refine wp_region_held_drew (S := (fun w' => w'.cell? ⟨w.heap.size, 0, none⟩ = some (.pointer (some ⟨p, 0, none⟩)) ∧ w'.cell? ⟨w.heap.size + 1, 5, none⟩ = some (.slice (some ⟨b, off, none⟩) 3 cap) ∧ w'.cell? ⟨b, off + 6, none⟩ = some (.int .i64 kb.kind) ∧ w'.cell? ⟨b, off + 7, none⟩ = some (.int .i64 kb.at_) ∧ w'.cell? ⟨b, off + 8, none⟩ = some (.string kb.name) ∧ w'.cell? ⟨b, off + 9, none⟩ = some (.int .u64 kb.num) ∧ w'.cell? ⟨b, off + 10, none⟩ = some (.string kb.op) ∧ w'.cell? ⟨b, off + 11, none⟩ = some (.slice Akb kb.kids.length ckb))) (by kernel_rfl) ?_ (fun hHeld => ?_)
      · exact ⟨x0, x5, d10, d11, d12, d13, d14, d15⟩
      refine tk 0 ?_
      try simp only [Act.put, z1, z2, z3]
      refine tk 1 ?_
      try simp only [Act.put, z1, z2, z3]
      refine tk 2 ?_
      try simp only [Act.put, z1, z2, z3]
      refine tk 3 ?_
      try simp only [Act.put, z1, z2, z3]
      refine tk 4 ?_
      try simp only [Act.put, z1, z2, z3]
      refine tk 5 ?_
      try simp only [Act.put, z1, z2, z3]
      refine tk 6 ?_
      try simp only [Act.put, z1, z2, z3]
      refine wpAnyH_ready (rs := [7]) (by kernel_rfl) (by simp) ?_
      refine (AllReadyH.cons (i := 7) (o := ?o5) ?h5 (fun K hK => ?k5) AllReadyH.nil)
      case h5 => (simp only [List.getElem?_toArray, List.getElem?_cons_succ, List.getElem?_cons_zero]; try rfl)
      case k5 =>
        go_simp
        have CW := CC.out
        clear CC
        cases hr : (bodyW F E (catchP E t) kb.kids) o1 with
        | error cc =>
          have CW := Lib.hid (WP.errC CW hr)
          have HE := Lib.hid (show (seqM (F.st E ka) (seqM (bodyW F E (catchP E t) kb.kids) (F.st E kc))) o = .error cc from (HQ1.out.trans (seqM_err hr)))
          clear hr
          obtain ⟨c1, c2⟩ := cc
          unfold bad at CW
          go_at_call 22
          (with_reducible refine CW.out.mono ?_)
          rintro e v2 ⟨rfl, g1⟩
          go_wp2
          exact ⟨rfl, WP.of_below HW1.out HW.out.inn.sz (WP.err HE.out ⟨rfl, g1⟩)⟩
        | ok o2 =>
          have CW := Lib.hid (WP.okC CW hr)
          have HQ2 := Lib.hid (show (seqM (F.st E ka) (seqM (bodyW F E (catchP E t) kb.kids) (F.st E kc))) o = (F.st E kc) o2 from HQ1.out.trans (seqM_ok hr))
          have HL2 := Lib.hid (show o2.len + 2 ≤ o.len + 4 * (ka.size + kb.size) from by have h1 := HLen.out.catch_ hr; have h2 := HL1.out; omega)
          clear hr
          go_at_call 22
          (with_reducible refine CW.out.mono ?_)
          rintro e v2 ⟨⟨vv, rfl⟩, s2⟩
          clear x0 x1 x2 x4 x5 d00 d01 d02 d03 d04 d05 d10 d11 d12 d13 d14 d15 d20 d21 d22 d23 d24 d25 lb l2 l3 lp
          obtain ⟨x0, x1, x2, x4, x5, d00, d01, d02, d03, d04, d05, d10, d11, d12, d13, d14, d15, d20, d21, d22, d23, d24, d25, lb, l2, l3, lp⟩ := KX.out _ _ _ _ s2
          have S2 := Lib.hid s2
          clear s2 CW
          try go_wp2_with fail
          refine hK.out _ _ ?_ (fun hHeld => ?_)
          · exact ⟨x0, x5, d10, d11, d12, d13, d14, d15⟩
          clear hK K
          try simp only [Act.put, z1, z2, z3]
          refine wpAnyH_done (by kernel_rfl) ?_ _
          go_wp2
          have CC := Lib.hid (S2.out.drew.st HG.out HU.out HNE.out (by have h1 := HBD.out; have h2 := HTS.out; simp only [bnd] at h1 ⊢; have l1 := HL1.out; have l2 := HL2.out; omega) HS2.out HWF2.out HD2.out HO2.out)
          have hTr : True := trivial
          refine wp_region_held_drew (S := (fun w' => w'.cell? ⟨w.heap.size, 0, none⟩ = some (.pointer (some ⟨p, 0, none⟩)) ∧ w'.cell? ⟨w.heap.size + 1, 5, none⟩ = some (.slice (some ⟨b, off, none⟩) 3 cap) ∧ w'.cell? ⟨b, off + 12, none⟩ = some (.int .i64 kc.kind) ∧ w'.cell? ⟨b, off + 13, none⟩ = some (.int .i64 kc.at_) ∧ w'.cell? ⟨b, off + 14, none⟩ = some (.string kc.name) ∧ w'.cell? ⟨b, off + 15, none⟩ = some (.int .u64 kc.num) ∧ w'.cell? ⟨b, off + 16, none⟩ = some (.string kc.op) ∧ w'.cell? ⟨b, off + 17, none⟩ = some (.slice Akc kc.kids.length ckc))) (by kernel_rfl) ?_ (fun hHeld => ?_)
          · exact ⟨x0, x5, d20, d21, d22, d23, d24, d25⟩
          refine tk 0 ?_
          try simp only [Act.put, z1, z2, z3]
          refine tk 1 ?_
          try simp only [Act.put, z1, z2, z3]
          refine tk 2 ?_
          try simp only [Act.put, z1, z2, z3]
          refine tk 3 ?_
          try simp only [Act.put, z1, z2, z3]
          refine tk 4 ?_
          try simp only [Act.put, z1, z2, z3]
          refine wpAnyH_ready (rs := [5]) (by kernel_rfl) (by simp) ?_
          refine (AllReadyH.cons (i := 5) (o := ?o4) ?h4 (fun K hK => ?k4) AllReadyH.nil)
          case h4 => (simp only [List.getElem?_toArray, List.getElem?_cons_succ, List.getElem?_cons_zero]; try rfl)
          case k4 =>
            go_simp
            have CW := CC.out
            clear CC
            cases hr : (F.st E kc) o2 with
            | error cc =>
              have CW := Lib.hid (WP.errC CW hr)
              have HE := Lib.hid (show (seqM (F.st E ka) (seqM (bodyW F E (catchP E t) kb.kids) (F.st E kc))) o = .error cc from (HQ2.out.trans (hr)))
              clear hr
              obtain ⟨c1, c2⟩ := cc
              unfold bad at CW
              go_at_call 28
              (with_reducible refine CW.out.mono ?_)
              rintro e v3 ⟨rfl, g1⟩
              go_wp2
              exact ⟨rfl, WP.of_below HW1.out HW.out.inn.sz (WP.err HE.out ⟨rfl, g1⟩)⟩
            | ok o3 =>
              have CW := Lib.hid (WP.okC CW hr)
              have HQ3 := Lib.hid (show (seqM (F.st E ka) (seqM (bodyW F E (catchP E t) kb.kids) (F.st E kc))) o = .ok o3 from HQ2.out.trans hr)
              have HL3 := Lib.hid (show o3.len + 3 ≤ o.len + 4 * (ka.size + kb.size + kc.size) from by have h1 := HLen.out.st E kc o2 o3 hr; have h2 := HL2.out; omega)
              clear hr
              go_at_call 28
              (with_reducible refine CW.out.mono ?_)
              rintro e v3 ⟨⟨vv, rfl⟩, s3⟩
              clear x0 x1 x2 x4 x5 d00 d01 d02 d03 d04 d05 d10 d11 d12 d13 d14 d15 d20 d21 d22 d23 d24 d25 lb l2 l3 lp
              obtain ⟨x0, x1, x2, x4, x5, d00, d01, d02, d03, d04, d05, d10, d11, d12, d13, d14, d15, d20, d21, d22, d23, d24, d25, lb, l2, l3, lp⟩ := KX.out _ _ _ _ s3
              have S3 := Lib.hid s3
              clear s3 CW
              try go_wp2_with fail
              refine hK.out _ _ ?_ (fun hHeld => ?_)
              · exact ⟨x0, x5, d20, d21, d22, d23, d24, d25⟩
              clear hK K
              try simp only [Act.put, z1, z2, z3]
              refine wpAnyH_done (by kernel_rfl) ?_ _
              go_wp2
              first | go_end0 | (refine bodyPost_ret (results_none rfl _ _ _) rfl ?_)
              obtain ⟨R9, w9, f9, q9⟩ := S3.out
              exact WP.of_below HW1.out HW.out.inn.sz (WP.ok HQ3.out ⟨⟨_, rfl⟩, R9, w9, f9, q9⟩)
set_option maxRecDepth 100000 in
set_option maxHeartbeats 8000000 in
theorem ws37 {F : WF} {n : Nat} (G : GoodW F n) (L : LenW F) (w : World) (p B : Nat) (ms : List Nat) (E : Env) (o : Out) (R : Rw) (t : Tr) (kv : Value) (h : WAt w p B ms E o R) (hne : 0 < E.blocks.length) (hbd : bnd E o + 9 * t.size ≤ 2000000) (hk : KidsAt w B kv t.kids) (hwf : t.wf1) (hd : t.fitsD (n + 1) = true) (hkind : t.kind = 37) {ka : Tr} {kb : Tr} {kc : Tr} {kd : Tr} (hkids : t.kids = [ka, kb, kc, kd]) (ho0 : OkX ka) (ho1 : OkX kb) (ho2 : OkX kc) (ho3 : OkS kd) :
    WCall 28 w p B ms E R t kv (stW F E t o) := by
  have hgo : stW F E t o = (seqM (F.ex E ka) (seqM (F.ex E kb) (seqM (F.ex E kc) (F.st E.inc kd)))) o := by unfold stW; simp [hkind, hkids]
  unfold WCall
  rw [hgo]
  clear hgo
  have hlen : t.kids.length = 4 := by rw [hkids]; rfl
  have hts := Tr.size_eq t
  rw [hkids] at hts
  simp only [Tr.sizes_cons, Tr.sizes_nil] at hts
  obtain ⟨A, cap, rfl, hcl, hcm, hA⟩ := hk.slice
  obtain ⟨b, off, rfl, hbB⟩ := hA (by omega)
  rw [hlen] at hk hcl ⊢
  rw [hkind]
  have hi0 : t.kids[0]? = some ka := by rw [hkids]; rfl
  have hd0 := Tr.fitsD_kid hd (List.mem_of_getElem? hi0)
  obtain ⟨_, hw0, kv0, hn0, hs0⟩ := hk.kid hi0
  obtain ⟨Aka, cka, rfl, _, _, _⟩ := hs0.slice
  obtain ⟨d00, d01, d02, d03, d04, d05⟩ := kcells hn0 (off) (by omega)
  have hi1 : t.kids[1]? = some kb := by rw [hkids]; rfl
  have hd1 := Tr.fitsD_kid hd (List.mem_of_getElem? hi1)
  obtain ⟨_, hw1, kv1, hn1, hs1⟩ := hk.kid hi1
  obtain ⟨Akb, ckb, rfl, _, _, _⟩ := hs1.slice
  obtain ⟨d10, d11, d12, d13, d14, d15⟩ := kcells hn1 (off + 6) (by omega)
  have hi2 : t.kids[2]? = some kc := by rw [hkids]; rfl
  have hd2 := Tr.fitsD_kid hd (List.mem_of_getElem? hi2)
  obtain ⟨_, hw2, kv2, hn2, hs2⟩ := hk.kid hi2
  obtain ⟨Akc, ckc, rfl, _, _, _⟩ := hs2.slice
  obtain ⟨d20, d21, d22, d23, d24, d25⟩ := kcells hn2 (off + 12) (by omega)
  have hi3 : t.kids[3]? = some kd := by rw [hkids]; rfl
  have hd3 := Tr.fitsD_kid hd (List.mem_of_getElem? hi3)
  obtain ⟨_, hw3, kv3, hn3, hs3⟩ := hk.kid hi3
  obtain ⟨Akd, ckd, rfl, _, _, _⟩ := hs3.slice
  obtain ⟨d30, d31, d32, d33, d34, d35⟩ := kcells hn3 (off + 18) (by omega)
  have HK3 := Lib.hid (show KidsAt w B (.slice (some ⟨b, off, none⟩) 3 cap) [ka, kb, kc] from by have h3 := hk.front 3 (by omega); rw [hkids] at h3; exact h3)
  have HK3' := Lib.hid (h.inn.sz)
  have HD := Lib.hid (show ∀ k ∈ [ka, kb, kc], k.fitsD n = true from fun k hk => by simp only [List.mem_cons, List.not_mem_nil, or_false] at hk; rcases hk with rfl | rfl | rfl <;> assumption)
  have HOK := Lib.hid (show ∀ k ∈ [ka, kb, kc], OkX k from fun k hk => by simp only [List.mem_cons, List.not_mem_nil, or_false] at hk; rcases hk with rfl | rfl | rfl <;> assumption)
  have HA := Lib.hid (show 0 < 3 → ∃ b' off', (some ⟨b, off, none⟩ : Option Addr) = some ⟨b', off', none⟩ ∧ b' < B from fun _ => ⟨b, off, rfl, hbB⟩)
  have HLL := Lib.hid (show [ka, kb, kc].length = 3 from rfl)
  have hs3 : Tr.sizes [ka, kb, kc] = ka.size + (kb.size + kc.size) := by simp only [Tr.sizes_cons, Tr.sizes_nil]; omega
  have HBDL := Lib.hid (show bnd E o + 9 * Tr.sizes [ka, kb, kc] ≤ 2000000 from by rw [hs3]; omega)
  have HSZ3 := Lib.hid hs3
  have hcm' : (cap : Int) ≤ 9223372036854775807 := by simp [maxLen] at hcm; omega
  have hc3 : (3 : Int) ≤ (cap : Int) ∧ (0 : Int) ≤ 3 ∧ (3 : Int) ≤ 4 := by omega
  clear hs3
  obtain ⟨U, hU⟩ : ∃ U, ((w.alloc (.cells #[.pointer (some ⟨p, 0, none⟩)] 60)).alloc (.cells #[.int .i64 37, .int .i64 t.at_, .string t.name, .int .u64 t.num, .string t.op, .slice (some ⟨b, off, none⟩) 4 cap] 31)) = U := ⟨_, rfl⟩
  have W1 : Below w.heap.size w U := by rw [← hU]; exact below_alloc (below_alloc (Below.refl _ _))
  have h1 := h.fr W1
  have b2 : Blk U w.heap.size 60 #[.pointer (some ⟨p, 0, none⟩)] := by rw [← hU]; exact (Blk.new _ _ _).alloc _
  have b3 : Blk U (w.heap.size + 1) 31 #[.int .i64 37, .int .i64 t.at_, .string t.name, .int .u64 t.num, .string t.op, .slice (some ⟨b, off, none⟩) 4 cap] := by rw [← hU]; have h1 := Blk.new (w.alloc (.cells #[.pointer (some ⟨p, 0, none⟩)] 60)) 31 #[.int .i64 37, .int .i64 t.at_, .string t.name, .int .u64 t.num, .string t.op, .slice (some ⟨b, off, none⟩) 4 cap]; rw [size_alloc] at h1; exact h1
  have hbw : b < U.heap.size := Nat.lt_of_lt_of_le (Nat.lt_of_lt_of_le hbB h.inn.sz) W1.size
  have KX := Lib.hid (fun (v : World) (ms' : List Nat) (E' : Env) (o' : Out) (s : Sq U p B ms' E' R v o') => show v.cell? ⟨w.heap.size, 0, none⟩ = some (.pointer (some ⟨p, 0, none⟩)) ∧ v.cell? ⟨w.heap.size + 1, 1, none⟩ = some (.int .i64 t.at_) ∧ v.cell? ⟨w.heap.size + 1, 2, none⟩ = some (.string t.name) ∧ v.cell? ⟨w.heap.size + 1, 4, none⟩ = some (.string t.op) ∧ v.cell? ⟨w.heap.size + 1, 5, none⟩ = some (.slice (some ⟨b, off, none⟩) 4 cap) ∧ v.cell? ⟨b, off, none⟩ = some (.int .i64 ka.kind) ∧ v.cell? ⟨b, off + 1, none⟩ = some (.int .i64 ka.at_) ∧ v.cell? ⟨b, off + 2, none⟩ = some (.string ka.name) ∧ v.cell? ⟨b, off + 3, none⟩ = some (.int .u64 ka.num) ∧ v.cell? ⟨b, off + 4, none⟩ = some (.string ka.op) ∧ v.cell? ⟨b, off + 5, none⟩ = some (.slice Aka ka.kids.length cka) ∧ v.cell? ⟨b, off + 6, none⟩ = some (.int .i64 kb.kind) ∧ v.cell? ⟨b, off + 7, none⟩ = some (.int .i64 kb.at_) ∧ v.cell? ⟨b, off + 8, none⟩ = some (.string kb.name) ∧ v.cell? ⟨b, off + 9, none⟩ = some (.int .u64 kb.num) ∧ v.cell? ⟨b, off + 10, none⟩ = some (.string kb.op) ∧ v.cell? ⟨b, off + 11, none⟩ = some (.slice Akb kb.kids.length ckb) ∧ v.cell? ⟨b, off + 12, none⟩ = some (.int .i64 kc.kind) ∧ v.cell? ⟨b, off + 13, none⟩ = some (.int .i64 kc.at_) ∧ v.cell? ⟨b, off + 14, none⟩ = some (.string kc.name) ∧ v.cell? ⟨b, off + 15, none⟩ = some (.int .u64 kc.num) ∧ v.cell? ⟨b, off + 16, none⟩ = some (.string kc.op) ∧ v.cell? ⟨b, off + 17, none⟩ = some (.slice Akc kc.kids.length ckc) ∧ v.cell? ⟨b, off + 18, none⟩ = some (.int .i64 kd.kind) ∧ v.cell? ⟨b, off + 19, none⟩ = some (.int .i64 kd.at_) ∧ v.cell? ⟨b, off + 20, none⟩ = some (.string kd.name) ∧ v.cell? ⟨b, off + 21, none⟩ = some (.int .u64 kd.num) ∧ v.cell? ⟨b, off + 22, none⟩ = some (.string kd.op) ∧ v.cell? ⟨b, off + 23, none⟩ = some (.slice Akd kd.kids.length ckd) ∧ b < v.heap.size ∧ w.heap.size < v.heap.size ∧ w.heap.size + 1 < v.heap.size ∧ p < v.heap.size from ⟨s.cel h1 b2 (by decide) 0 rfl, s.cel h1 b3 (by decide) 1 rfl, s.cel h1 b3 (by decide) 2 rfl, s.cel h1 b3 (by decide) 4 rfl, s.cel h1 b3 (by decide) 5 rfl, s.old h1 hbB (((W1.mono h.inn.sz).cell (p := ⟨b, off, none⟩) hbB).trans d00), s.old h1 hbB (((W1.mono h.inn.sz).cell (p := ⟨b, off + 1, none⟩) hbB).trans d01), s.old h1 hbB (((W1.mono h.inn.sz).cell (p := ⟨b, off + 2, none⟩) hbB).trans d02), s.old h1 hbB (((W1.mono h.inn.sz).cell (p := ⟨b, off + 3, none⟩) hbB).trans d03), s.old h1 hbB (((W1.mono h.inn.sz).cell (p := ⟨b, off + 4, none⟩) hbB).trans d04), s.old h1 hbB (((W1.mono h.inn.sz).cell (p := ⟨b, off + 5, none⟩) hbB).trans d05), s.old h1 hbB (((W1.mono h.inn.sz).cell (p := ⟨b, off + 6, none⟩) hbB).trans d10), s.old h1 hbB (((W1.mono h.inn.sz).cell (p := ⟨b, off + 7, none⟩) hbB).trans d11), s.old h1 hbB (((W1.mono h.inn.sz).cell (p := ⟨b, off + 8, none⟩) hbB).trans d12), s.old h1 hbB (((W1.mono h.inn.sz).cell (p := ⟨b, off + 9, none⟩) hbB).trans d13), s.old h1 hbB (((W1.mono h.inn.sz).cell (p := ⟨b, off + 10, none⟩) hbB).trans d14), s.old h1 hbB (((W1.mono h.inn.sz).cell (p := ⟨b, off + 11, none⟩) hbB).trans d15), s.old h1 hbB (((W1.mono h.inn.sz).cell (p := ⟨b, off + 12, none⟩) hbB).trans d20), s.old h1 hbB (((W1.mono h.inn.sz).cell (p := ⟨b, off + 13, none⟩) hbB).trans d21), s.old h1 hbB (((W1.mono h.inn.sz).cell (p := ⟨b, off + 14, none⟩) hbB).trans d22), s.old h1 hbB (((W1.mono h.inn.sz).cell (p := ⟨b, off + 15, none⟩) hbB).trans d23), s.old h1 hbB (((W1.mono h.inn.sz).cell (p := ⟨b, off + 16, none⟩) hbB).trans d24), s.old h1 hbB (((W1.mono h.inn.sz).cell (p := ⟨b, off + 17, none⟩) hbB).trans d25), s.old h1 hbB (((W1.mono h.inn.sz).cell (p := ⟨b, off + 18, none⟩) hbB).trans d30), s.old h1 hbB (((W1.mono h.inn.sz).cell (p := ⟨b, off + 19, none⟩) hbB).trans d31), s.old h1 hbB (((W1.mono h.inn.sz).cell (p := ⟨b, off + 20, none⟩) hbB).trans d32), s.old h1 hbB (((W1.mono h.inn.sz).cell (p := ⟨b, off + 21, none⟩) hbB).trans d33), s.old h1 hbB (((W1.mono h.inn.sz).cell (p := ⟨b, off + 22, none⟩) hbB).trans d34), s.old h1 hbB (((W1.mono h.inn.sz).cell (p := ⟨b, off + 23, none⟩) hbB).trans d35), Nat.lt_of_lt_of_le hbw s.size, (s.blk h1 b2 (by decide)).lt, (s.blk h1 b3 (by decide)).lt, Nat.lt_of_lt_of_le h1.blk.lt s.size⟩)
  have HU := Lib.hid h1
  have HW := Lib.hid h
  have HW1 := Lib.hid W1
  have S0 := Lib.hid (Sq.refl h1)
  have HNE := Lib.hid hne
  have HG := Lib.hid G
  have HLen := Lib.hid L
  have HBD := Lib.hid hbd
  have HTS := Lib.hid hts
  have HWFT := Lib.hid hwf
  have HKT := Lib.hid (hk.under (W1.mono h.inn.sz))
  have HS0 := Lib.hid (hs0.under (W1.mono h.inn.sz))
  have HWF0 := Lib.hid hw0
  have HD0 := Lib.hid hd0
  have HO0 := Lib.hid ho0
  have HS1 := Lib.hid (hs1.under (W1.mono h.inn.sz))
  have HWF1 := Lib.hid hw1
  have HD1 := Lib.hid hd1
  have HO1 := Lib.hid ho1
  have HS2 := Lib.hid (hs2.under (W1.mono h.inn.sz))
  have HWF2 := Lib.hid hw2
  have HD2 := Lib.hid hd2
  have HO2 := Lib.hid ho2
  have HS3 := Lib.hid (hs3.under (W1.mono h.inn.sz))
  have HWF3 := Lib.hid hw3
  have HD3 := Lib.hid hd3
  have HO3 := Lib.hid ho3
  have hq2 : w.heap.size ≠ b := by have := h.inn.sz; omega
  have hq3 : w.heap.size + 1 ≠ b := by have := h.inn.sz; omega
  have hcl' : (4 : Int) ≤ (cap : Int) := by omega
  have HB2 := Lib.hid b2
  have HB3 := Lib.hid b3
  clear h hne hbd hk hwf hd hkind hkids hlen hts hcm hA W1 h1 b2 b3 hbw G L hi0 hd0 hw0 hn0 hs0 ho0 hi1 hd1 hw1 hn1 hs1 ho1 hi2 hd2 hw2 hn2 hs2 ho2 hi3 hd3 hw3 hn3 hs3 ho3
  have HK3U := Lib.hid (HK3.out.under (HW1.out.mono HK3'.out))
  subst hU
  go_enter Tryd.func28, Tryd.ntmps28
  go_wp2
  go_loopg [83] 3 (fun fu ix wr => ∃ (j : Nat) (o' : Out), ix = .int .i64 j ∧ j + fu = 3 ∧ Sq ((w.alloc (.cells #[.pointer (some ⟨p, 0, none⟩)] 60)).alloc (.cells #[.int .i64 37, .int .i64 t.at_, .string t.name, .int .u64 t.num, .string t.op, .slice (some ⟨b, off, none⟩) 4 cap] 31)) p B ms E R wr o' ∧ eachM (F.ex E) [ka, kb, kc] o = eachM (F.ex E) ([ka, kb, kc].drop j) o' ∧ o'.len + j ≤ o.len + 4 * Tr.sizes ([ka, kb, kc].take j))
  case atStart => exact ⟨0, o, rfl, by omega, S0.out, rfl, by simp [Tr.sizes_nil]⟩
  case round =>
    obtain ⟨j, o', rfl, hf, h1, h4, h5⟩ := hrel
    obtain ⟨x0, x1, x2, x4, x5, d00, d01, d02, d03, d04, d05, d10, d11, d12, d13, d14, d15, d20, d21, d22, d23, d24, d25, d30, d31, d32, d33, d34, d35, lb, l2, l3, lp⟩ := KX.out _ _ _ _ h1
    have S1 := Lib.hid h1
    have H4 := Lib.hid h4
    have H5 := Lib.hid h5
    clear h1 h4 h5
    rcases Nat.lt_or_ge j 3 with hj | hj
    · obtain ⟨k, hkj⟩ : ∃ k, [ka, kb, kc][j]? = some k := ⟨_, List.getElem?_eq_getElem (by have := HLL.out; omega)⟩
      obtain ⟨bk, offk, hAeq, hbkB⟩ := HA.out (by omega)
      cases hAeq
      obtain ⟨_, hwf', kv', hN, hKk⟩ := (HK3U.out).kid hkj
      obtain ⟨A', cap', rfl, _, _, _⟩ := hKk.slice
      obtain ⟨e0, e1, e2, e3, e4, e5⟩ := (show NodeAt wr b (off + j * 6) (k.cells (.slice A' k.kids.length cap')) from KidsAt.kid_at ((HK3U.out).under (S1.out.below HU.out)) hkj hN (fun p hp => (S1.out.below HU.out).cell hp)).get
      have hj' : (j : Int) < (3 : Int) := by omega
      have hj0 : (0 : Int) ≤ (j : Int) ∧ (j : Int) ≤ (3 : Int) := by omega
      have hbkw : b < wr.heap.size := Nat.lt_of_lt_of_le (Nat.lt_of_lt_of_le hbkB HU.out.inn.sz) S1.out.size
      have nk1 : wr.heap.size ≠ b := by omega
      have nk2 : wr.heap.size ≠ w.heap.size := by omega
      have nk3 : wr.heap.size ≠ w.heap.size + 1 := by omega
      obtain ⟨f', hf'⟩ : ∃ f', gk = f' + 1 := ⟨gk - 1, by omega⟩
      have HF := Lib.hid (And.intro hf hf')
      have HSt := Lib.hid (show eachM (F.ex E) [ka, kb, kc] o = seqM (F.ex E k) (eachM (F.ex E) ([ka, kb, kc].drop (j + 1))) o' from by rw [H4.out, drop_at' hkj]; rfl)
      have hsz := sizes_at hkj
      have HT := Lib.hid (take_succ_at hkj)
      have CC := (S1.out.alloc (.cells #[.int .i64 k.kind, .int .i64 k.at_, .string k.name, .int .u64 k.num, .string k.op, .slice A' k.kids.length cap'] 31)).ex HG.out HU.out HNE.out (t := k) (kv := .slice A' k.kids.length cap') (by have := H5.out; have := HBDL.out; unfold bnd at *; omega) hKk hwf' (HD.out k (List.mem_of_getElem? hkj)) (HOK.out k (List.mem_of_getElem? hkj))
      clear hf hf' hkj hKk hN hwf'
      cases hr : F.ex E k o' with
      | error c =>
        have CC := Lib.hid (WP.errC CC hr)
        have HE := Lib.hid (HSt.out.trans (seqM_err hr))
        clear hr
        obtain ⟨c1, c2⟩ := c
        unfold bad at CC
        go_wp2_with (first | (go_at_call 41; (with_reducible refine CC.out.mono ?_); rintro e v1 ⟨rfl, g1⟩; have G1 := Lib.hid g1; clear g1))
        exact ⟨rfl, WP.of_below HW1.out HW.out.inn.sz (WP.err (each3_err HE.out) ⟨rfl, G1.out⟩)⟩
      | ok o1 =>
        have CC := Lib.hid (WP.okC CC hr)
        have HGL := Lib.hid (HLen.out.ex E k o' o1 hr)
        have HE := Lib.hid (HSt.out.trans (seqM_ok hr))
        clear hr
        go_wp2_with (first | (go_at_call 41; (with_reducible refine CC.out.mono ?_); rintro e v1 ⟨⟨vv, rfl⟩, s2⟩; have S2 := Lib.hid s2; clear s2))
        go_roundg f'
        case measure => have := HF.out; omega
        case rel => exact ⟨j + 1, o1, by simp, by have := HF.out; omega, S2.out, HE.out, by rw [HT.out, Tr.sizes_append, Tr.sizes_cons, Tr.sizes_nil]; have := H5.out; have := HGL.out; omega⟩
    · have hjl : j = 3 := by omega
      have hj' : ¬ (j : Int) < (3 : Int) := by omega
      have HJ := Lib.hid (show [ka, kb, kc].drop j = [] from List.drop_eq_nil_of_le (by have := HLL.out; omega))
      have HEnd := Lib.hid (show eachM (F.ex E) [ka, kb, kc] o = .ok o' from by rw [H4.out, HJ.out]; rfl)
      have HLE := Lib.hid (show o'.len + 3 ≤ o.len + 4 * Tr.sizes [ka, kb, kc] from by have h1 := H5.out; rw [hjl, List.take_of_length_le (by have := HLL.out; omega)] at h1; exact h1)
      clear hf hjl
      go_wp2
      obtain ⟨o1, rfl⟩ : ∃ o1 : Out, o1 = o' := ⟨_, rfl⟩
      have HQ1 := Lib.hid (show (seqM (F.ex E ka) (seqM (F.ex E kb) (seqM (F.ex E kc) (F.st E.inc kd)))) o = (F.st E.inc kd) o1 from each3_ok HEnd.out)
      have HL1 := Lib.hid (show o1.len + 3 ≤ o.len + 4 * (ka.size + (kb.size + kc.size)) from by have h1 := HLE.out; rw [HSZ3.out] at h1; exact h1)
      clear H4 H5 HJ HEnd HLE
      have CC := Lib.hid (S1.out.drew.loop HG.out HU.out HNE.out (by have h1 := HBD.out; have h2 := HTS.out; simp only [bnd] at h1 ⊢; have l1 := HL1.out; omega) HS3.out HWF3.out HD3.out HO3.out)
      have hTr : True := trivial
      refine wp_region_held_drew (S := (fun w' => w'.cell? ⟨w.heap.size, 0, none⟩ = some (.pointer (some ⟨p, 0, none⟩)) ∧ w'.cell? ⟨w.heap.size + 1, 5, none⟩ = some (.slice (some ⟨b, off, none⟩) 4 cap) ∧ w'.cell? ⟨b, off + 18, none⟩ = some (.int .i64 kd.kind) ∧ w'.cell? ⟨b, off + 19, none⟩ = some (.int .i64 kd.at_) ∧ w'.cell? ⟨b, off + 20, none⟩ = some (.string kd.name) ∧ w'.cell? ⟨b, off + 21, none⟩ = some (.int .u64 kd.num) ∧ w'.cell? ⟨b, off + 22, none⟩ = some (.string kd.op) ∧ w'.cell? ⟨b, off + 23, none⟩ = some (.slice Akd kd.kids.length ckd))) (by kernel_rfl) ?_ (fun hHeld => ?_)
      · exact ⟨x0, x5, d30, d31, d32, d33, d34, d35⟩
      refine tk 0 ?_
      try simp only [Act.put, z1, z2, z3]
      refine tk 1 ?_
      try simp only [Act.put, z1, z2, z3]
      refine tk 2 ?_
      try simp only [Act.put, z1, z2, z3]
      refine tk 3 ?_
      try simp only [Act.put, z1, z2, z3]
      refine tk 4 ?_
      try simp only [Act.put, z1, z2, z3]
      refine wpAnyH_ready (rs := [5]) (by kernel_rfl) (by simp) ?_
      refine (AllReadyH.cons (i := 5) (o := ?o7) ?h7 (fun K hK => ?k7) AllReadyH.nil)
      case h7 => (simp only [List.getElem?_toArray, List.getElem?_cons_succ, List.getElem?_cons_zero]; try rfl)
      case k7 =>
        go_simp
        have CW := CC.out
        clear CC
        cases hr : (F.st E.inc kd) o1 with
        | error cc =>
          have CW := Lib.hid (WP.errC CW hr)
          have HE := Lib.hid (show (seqM (F.ex E ka) (seqM (F.ex E kb) (seqM (F.ex E kc) (F.st E.inc kd)))) o = .error cc from (HQ1.out.trans (hr)))
          clear hr
          obtain ⟨c1, c2⟩ := cc
          unfold bad at CW
          go_at_call 42
          (with_reducible refine CW.out.mono ?_)
          rintro e v2 ⟨rfl, g1⟩
          go_wp2
          exact ⟨rfl, WP.of_below HW1.out HW.out.inn.sz (WP.err HE.out ⟨rfl, g1⟩)⟩
        | ok o2 =>
          have CW := Lib.hid (WP.okC CW hr)
          have HQ2 := Lib.hid (show (seqM (F.ex E ka) (seqM (F.ex E kb) (seqM (F.ex E kc) (F.st E.inc kd)))) o = .ok o2 from HQ1.out.trans hr)
          clear hr
          go_at_call 42
          (with_reducible refine CW.out.mono ?_)
          rintro e v2 ⟨⟨vv, rfl⟩, s2⟩
          clear x0 x1 x2 x4 x5 d00 d01 d02 d03 d04 d05 d10 d11 d12 d13 d14 d15 d20 d21 d22 d23 d24 d25 d30 d31 d32 d33 d34 d35 lb l2 l3 lp
          obtain ⟨x0, x1, x2, x4, x5, d00, d01, d02, d03, d04, d05, d10, d11, d12, d13, d14, d15, d20, d21, d22, d23, d24, d25, d30, d31, d32, d33, d34, d35, lb, l2, l3, lp⟩ := KX.out _ _ _ _ s2
          have S2 := Lib.hid s2
          clear s2 CW
          try go_wp2_with fail
          refine hK.out _ _ ?_ (fun hHeld => ?_)
          · exact ⟨x0, x5, d30, d31, d32, d33, d34, d35⟩
          clear hK K
          try simp only [Act.put, z1, z2, z3]
          refine wpAnyH_done (by kernel_rfl) ?_ _
          go_wp2
          first | go_end0 | (refine bodyPost_ret (results_none rfl _ _ _) rfl ?_)
          obtain ⟨R9, w9, f9, q9⟩ := S2.out
          exact WP.of_below HW1.out HW.out.inn.sz (WP.ok HQ2.out ⟨⟨_, rfl⟩, R9, w9, f9, q9⟩)
end Go.Proofs.YtlenhcmgcgccmaaDoor
