/- Scope: expression. -/
import Derived.Test.YtlenhcmgcgccmaaDoorUg
namespace Go.Proofs.YtlenhcmgcgccmaaDoor
open Go.RowKit Go
set_option linter.unusedVariables false
set_option linter.unusedSimpArgs false
set_option maxRecDepth 100000 in
set_option maxHeartbeats 8000000 in
theorem exName {F : WF} {n : Nat} (G : GoodW F n) (L : LenW F) (w : World) (p B : Nat) (ms : List Nat) (E : Env) (o : Out) (R : Rw) (t : Tr) (kv : Value) (h : WAt w p B ms E o R) (hne : 0 < E.blocks.length) (hbd : bnd E o + 9 * t.size ≤ 2000000) (hk : KidsAt w B kv t.kids) (hwf : t.wf1) (hd : t.fitsD (n + 1) = true) (hkind : t.kind = 3) :
    WCall 41 w p B ms E R t kv (exW F E t o) := by
  have hgo : exW F E t o = useP E t.name t.at_ false o := by unfold exW; rw [hkind]; rfl
  unfold WCall
  rw [hgo]
  obtain ⟨A, cap, rfl, hcl, hcm, hA⟩ := hk.slice
  have W1 : Below w.heap.size w (w.alloc (.cells #[.int .i64 t.kind, .int .i64 t.at_, .string t.name, .int .u64 t.num, .string t.op, .slice A t.kids.length cap] 31)) := below_alloc (Below.refl _ _)
  have HW := Lib.hid h
  have q3 : (t.kind == 3) = true := by simp [hkind]
  have CC := useW_calls (h.fr W1) hne (by unfold bnd at hbd; omega) (by unfold bnd Out.len at hbd; omega) t.kind t.name hwf.2 t.at_ (.int .u64 t.num) (.string t.op) (.slice A t.kids.length cap) rfl rfl rfl false
  cases hr : useP E t.name t.at_ false o with
  | error c =>
    have CC := Lib.hid (CC.mono (R' := fun e w' => e = bad c ∧ Below B w w') fun e w' hh => ⟨(hh.2 c hr).1, (W1.mono HW.out.inn.sz).trans (hh.2 c hr).2⟩)
    have HE := Lib.hid hr
    clear hr h hne hbd hk hwf hd W1 hgo hkind hcl hcm hA G L
    obtain ⟨c1, c2⟩ := c
    unfold bad at CC
    go_enter Tryd.func41, Tryd.ntmps41
    go_wp2_with (first | (go_at_call 62; (with_reducible refine CC.out.mono ?_); rintro e v1 ⟨rfl, g1⟩; have G1 := Lib.hid g1; clear g1))
    exact ⟨rfl, WP.err rfl ⟨rfl, G1.out⟩⟩
  | ok o1 =>
    have CC := Lib.hid (CC.mono (R' := fun e w' => (∃ v, e = .returned v) ∧ ∃ R'', WAt w' p B ms E o1 R'' ∧ Fr (Ft p R) w w' ∧ Gr w.heap.size p R R'') fun e w' hh => by
      obtain ⟨h1, R'', h2, h3, h4⟩ := hh.1 o1 hr
      exact ⟨h1, R'', h2, (Fr.of_below W1).tr h3, h4.mono W1.size⟩)
    have HE := Lib.hid hr
    clear hr h hne hbd hk hwf hd W1 hgo hkind hcl hcm hA G L
    go_enter Tryd.func41, Tryd.ntmps41
    go_wp2_with (first | (go_at_call 62; (with_reducible refine CC.out.mono ?_); rintro e v1 ⟨⟨v, rfl⟩, R'', g1, g2, g3⟩; have G1 := Lib.hid g1; have G2 := Lib.hid g2; have G3 := Lib.hid g3; clear g1 g2 g3))
    first | go_end0 | (refine bodyPost_ret (results_none rfl _ _ _) rfl ?_)
    exact WP.ok rfl ⟨⟨_, rfl⟩, R'', G1.out, G2.out, G3.out⟩
set_option maxRecDepth 100000 in
set_option maxHeartbeats 8000000 in
theorem exFn {F : WF} {n : Nat} (G : GoodW F n) (L : LenW F) (FN : GoodFn F n) (w : World) (p B : Nat) (ms : List Nat) (E : Env) (o : Out) (R : Rw) (t : Tr) (kv : Value) (h : WAt w p B ms E o R) (hne : 0 < E.blocks.length) (hbd : bnd E o + 9 * t.size ≤ 2000000) (hk : KidsAt w B kv t.kids) (hwf : t.wf1) (hd : t.fitsD (n + 1) = true) (hkind : t.kind = 12) (hok : ∃ body, t.kids.getLast? = some body ∧ body.kind = 44 ∧ (∀ k ∈ body.kids, OkS k) ∧ ∀ k ∈ t.kids.dropLast, k.kind = 3 ∧ k.kids = []) :
    WCall 41 w p B ms E R t kv (exW F E t o) := by
  have hgo : exW F E t o = functionW F E t o := by unfold exW; rw [hkind]; rfl
  unfold WCall
  rw [hgo]
  obtain ⟨A, cap, rfl, hcl, hcm, hA⟩ := hk.slice
  have W1 : Below w.heap.size w (w.alloc (.cells #[.int .i64 t.kind, .int .i64 t.at_, .string t.name, .int .u64 t.num, .string t.op, .slice A t.kids.length cap] 31)) := below_alloc (Below.refl _ _)
  have HW := Lib.hid h
  have q3 : (t.kind == 3) = false := by simp [hkind]
  have q12 : (t.kind == 12) = true := by simp [hkind]
  have CC := FN _ p B ms E o R t _ (h.fr W1) hne hbd (hk.under (W1.mono h.inn.sz)) hwf hd hok
  cases hr : functionW F E t o with
  | error c =>
    have CC := Lib.hid (CC.mono (R' := fun e w' => e = bad c ∧ Below B w w') fun e w' hh => ⟨(hh.2 c hr).1, (W1.mono HW.out.inn.sz).trans (hh.2 c hr).2⟩)
    have HE := Lib.hid hr
    clear hr h hne hbd hk hwf hd W1 hgo hkind hcl hcm hA G L FN hok
    obtain ⟨c1, c2⟩ := c
    unfold bad at CC
    go_enter Tryd.func41, Tryd.ntmps41
    go_wp2_with (first | (go_at_call 40; (with_reducible refine CC.out.mono ?_); rintro e v1 ⟨rfl, g1⟩; have G1 := Lib.hid g1; clear g1))
    exact ⟨rfl, WP.err rfl ⟨rfl, G1.out⟩⟩
  | ok o1 =>
    have CC := Lib.hid (CC.mono (R' := fun e w' => (∃ v, e = .returned v) ∧ ∃ R'', WAt w' p B ms E o1 R'' ∧ Fr (Ft p R) w w' ∧ Gr w.heap.size p R R'') fun e w' hh => by
      obtain ⟨h1, R'', h2, h3, h4⟩ := hh.1 o1 hr
      exact ⟨h1, R'', h2, (Fr.of_below W1).tr h3, h4.mono W1.size⟩)
    have HE := Lib.hid hr
    clear hr h hne hbd hk hwf hd W1 hgo hkind hcl hcm hA G L FN hok
    go_enter Tryd.func41, Tryd.ntmps41
    go_wp2_with (first | (go_at_call 40; (with_reducible refine CC.out.mono ?_); rintro e v1 ⟨⟨v, rfl⟩, R'', g1, g2, g3⟩; have G1 := Lib.hid g1; have G2 := Lib.hid g2; have G3 := Lib.hid g3; clear g1 g2 g3))
    first | go_end0 | (refine bodyPost_ret (results_none rfl _ _ _) rfl ?_)
    exact WP.ok rfl ⟨⟨_, rfl⟩, R'', G1.out, G2.out, G3.out⟩
theorem Fr.cel {S : Nat → Prop} {w w' : World} (h : Fr S w w') {b : Nat} {t : TypeId} {cs : Array Value} (hb : Blk w b t cs) (hn : ¬ S b) (j : Nat) {u : Value} (hj : cs[j]? = some u) : w'.cell? ⟨b, j, none⟩ = some u := ((h.blk hb hn).cell j).trans hj
theorem kcells {w : World} {b o : Nat} {t : Tr} {kv : Value} (h : NodeAt w b o (t.cells kv)) (o' : Nat) (ho : o = o') :
    w.cell? ⟨b, o', none⟩ = some (.int .i64 t.kind) ∧ w.cell? ⟨b, o' + 1, none⟩ = some (.int .i64 t.at_) ∧ w.cell? ⟨b, o' + 2, none⟩ = some (.string t.name) ∧
      w.cell? ⟨b, o' + 3, none⟩ = some (.int .u64 t.num) ∧ w.cell? ⟨b, o' + 4, none⟩ = some (.string t.op) ∧ w.cell? ⟨b, o' + 5, none⟩ = some kv := by subst ho; exact h.get
theorem useP_len {E : Env} {nm : ByteArray} {a : Int} {wr : Bool} {o o1 : Out} (h : useP E nm a wr o = .ok o1) {s : Nat} (hs : 1 ≤ s) : o1.len + 1 ≤ o.len + 4 * s := by
  unfold useP at h
  cases hf : findP E.blocks nm a with
  | error c => rw [hf] at h; cases h
  | ok v =>
    rw [hf] at h
    have h2 : (if (wr && constP o v) = true then (Except.error (a, 74) : Except Er Out) else .ok { o with vars := if capP E o v = true then o.vars.modify v.toNat (fun x => { x with cap := true }) else o.vars, uses := o.uses ++ [⟨a, v⟩] }) = .ok o1 := h
    split at h2
    · cases h2
    · injection h2 with h2
      subst h2
      unfold Out.len
      simp only [List.length_append, List.length_singleton]
      split <;> simp <;> omega
set_option maxRecDepth 100000 in
set_option maxHeartbeats 8000000 in
theorem exU17n {F : WF} {n : Nat} (G : GoodW F n) (L : LenW F) (w : World) (p B : Nat) (ms : List Nat) (E : Env) (o : Out) (R : Rw) (t : Tr) (kv : Value) (h : WAt w p B ms E o R) (hne : 0 < E.blocks.length) (hbd : bnd E o + 9 * t.size ≤ 2000000) (hk : KidsAt w B kv t.kids) (hwf : t.wf1) (hd : t.fitsD (n + 1) = true) (hkind : t.kind = 17) {a : Tr} (hkids : t.kids = [a]) (ha3 : a.kind = 3) :
    WCall 41 w p B ms E R t kv (exW F E t o) := by
  have hgo : exW F E t o = seqM (useP E a.name a.at_ true) (eachM (F.ex E) []) o := by
    unfold exW; rw [hkind, hkids]; simp [ha3]
  unfold WCall
  rw [hgo]
  have hlen : t.kids.length = 1 := by rw [hkids]; rfl
  have hts := Tr.size_eq t
  rw [hkids, Tr.sizes_cons] at hts
  obtain ⟨A, cap, rfl, hcl, hcm, hA⟩ := hk.slice
  obtain ⟨b, off, rfl, hbB⟩ := hA (by omega)
  rw [hlen] at hk hcl ⊢
  have W1 : Below w.heap.size w (w.alloc (.cells #[.int .i64 t.kind, .int .i64 t.at_, .string t.name, .int .u64 t.num, .string t.op, .slice (some ⟨b, off, none⟩) 1 cap] 31)) := below_alloc (Below.refl _ _)
  have HW := Lib.hid h
  have HG := Lib.hid G
  have HLen := Lib.hid L
  have HNE := Lib.hid hne
  have hi0 : t.kids[0]? = some a := by rw [hkids]; rfl
  obtain ⟨_, hwa, kva, hna, hka⟩ := hk.kid hi0
  obtain ⟨Aa, ca, rfl, _, _, _⟩ := hka.slice
  obtain ⟨d0, d1, d2, d3, d4, d5⟩ := kcells hna off (by omega)
  have hda := Tr.fitsD_kid hd (List.mem_of_getElem? hi0)
  have hbw : b < w.heap.size := Nat.lt_of_lt_of_le hbB h.inn.sz
  have hn1 : w.heap.size ≠ b := by omega
  have hpl := h.blk.lt
  have hb3 : Blk (w.alloc (.cells #[.int .i64 t.kind, .int .i64 t.at_, .string t.name, .int .u64 t.num, .string t.op, .slice (some ⟨b, off, none⟩) 1 cap] 31)) w.heap.size 31 #[.int .i64 t.kind, .int .i64 t.at_, .string t.name, .int .u64 t.num, .string t.op, .slice (some ⟨b, off, none⟩) 1 cap] := Blk.new _ _ _
  have KX := Lib.hid (fun v1 (f : Fr (Ft p R) w v1) (f' : Fr (Ft p R) (w.alloc (.cells #[.int .i64 t.kind, .int .i64 t.at_, .string t.name, .int .u64 t.num, .string t.op, .slice (some ⟨b, off, none⟩) 1 cap] 31)) v1) => show v1.cell? ⟨w.heap.size, 5, none⟩ = some (.slice (some ⟨b, off, none⟩) 1 cap) from f'.cel hb3 ((h.fr W1).not_ft hb3 (by decide)) 5 rfl)
  have HK0 := Lib.hid hk
  have hci : (0 : Int) ≤ 1 ∧ (1 : Int) ≤ (cap : Int) := by omega
  have hcl' := hcl
  have CC := useW_calls (h.fr W1) hne (by unfold bnd at hbd; omega) (by unfold bnd Out.len at hbd; omega) a.kind a.name hwa.2 a.at_ (.int .u64 a.num) (.string a.op) (.slice Aa a.kids.length ca) rfl rfl rfl true
  have q3 : (t.kind == 3) = false := by simp [hkind]
  have q12 : (t.kind == 12) = false := by simp [hkind]
  have q21 : (t.kind == 21) = false := by simp [hkind]
  have q17 : (t.kind == 17) = true := by simp [hkind]
  have qa : (a.kind == 3) = true := by simp [ha3]
  have hln : ∀ o1, (useP E a.name a.at_ true) o = .ok o1 → o1.len + 1 ≤ o.len + 4 * a.size := fun o1 h1 => useP_len h1 (Tr.size_pos a)
  cases hr : (useP E a.name a.at_ true) o with
  | error c =>
    have CC := Lib.hid (CC.mono (R' := fun e w' => e = bad c ∧ Below B w w') fun e w' hh => ⟨(hh.2 c hr).1, (W1.mono h.inn.sz).trans (hh.2 c hr).2⟩)
    have HE := Lib.hid (seqM_err (g := eachM (F.ex E) []) hr)
    clear hr h hne hk hwf hd W1 hgo hkind hkids hlen hcl hcm hA G L ha3 hi0 hna hka hda hwa hb3 hln hbd
    obtain ⟨c1, c2⟩ := c
    unfold bad at CC
    go_enter Tryd.func41, Tryd.ntmps41
    go_wp2_with (first | (go_at_call 62; (with_reducible refine CC.out.mono ?_); rintro e v1 ⟨rfl, g1⟩; have G1 := Lib.hid g1; clear g1))
    exact ⟨rfl, WP.err HE.out ⟨rfl, G1.out⟩⟩
  | ok o1 =>
    have CC := Lib.hid (CC.mono (R' := fun e w' => (∃ v, e = .returned v) ∧ ∃ R'', WAt w' p B ms E o1 R'' ∧ Fr (Ft p R) w w' ∧ Gr w.heap.size p R R'' ∧ Fr (Ft p R) (w.alloc (.cells #[.int .i64 t.kind, .int .i64 t.at_, .string t.name, .int .u64 t.num, .string t.op, .slice (some ⟨b, off, none⟩) 1 cap] 31)) w') fun e w' hh => by
      obtain ⟨h1, R'', h2, h3, h4⟩ := hh.1 o1 hr
      exact ⟨h1, R'', h2, (Fr.of_below W1).tr h3, h4.mono W1.size, h3⟩)
    have HSEQ := Lib.hid (seqM_ok (g := eachM (F.ex E) []) hr)
    have hl1 := hln o1 hr
    clear hr h hne hk hwf hd W1 hgo hkind hkids hlen hcl hcm hA G L ha3 hi0 hna hka hda hwa hb3 hln hbd
    rcases Nat.eq_or_lt_of_le hcl' with hc1 | hc1
    all_goals first | (subst hc1) | (have hc2 : ¬ cap = 1 := by omega)
    all_goals
      go_enter Tryd.func41, Tryd.ntmps41
      go_wp2_with (first | (go_at_call 62; (with_reducible refine CC.out.mono ?_); rintro e v1 ⟨⟨v, rfl⟩, R1, g1, g2, g3, g4⟩; have x5 := KX.out _ g2 g4; have H0 := Lib.hid g1; have F0 := Lib.hid g2; have G0 := Lib.hid g3; clear g1 g2 g3 g4))
      go_loopg [45] 0 (fun fu ix wr => ix = .int .i64 0 ∧ fu = 0 ∧ wr = v1)
      case atStart => exact ⟨rfl, rfl, rfl⟩
      case round =>
        obtain ⟨rfl, rfl, rfl⟩ := hrel
        go_wp2
        first | go_end0 | (refine bodyPost_ret (results_none rfl _ _ _) rfl ?_)
        exact WP.ok (HSEQ.out.trans rfl) ⟨⟨_, rfl⟩, R1, H0.out, F0.out, G0.out⟩
set_option maxRecDepth 100000 in
set_option maxHeartbeats 8000000 in
theorem exU17e {F : WF} {n : Nat} (G : GoodW F n) (L : LenW F) (w : World) (p B : Nat) (ms : List Nat) (E : Env) (o : Out) (R : Rw) (t : Tr) (kv : Value) (h : WAt w p B ms E o R) (hne : 0 < E.blocks.length) (hbd : bnd E o + 9 * t.size ≤ 2000000) (hk : KidsAt w B kv t.kids) (hwf : t.wf1) (hd : t.fitsD (n + 1) = true) (hkind : t.kind = 17) {a : Tr} (hkids : t.kids = [a]) (ha3 : ¬ a.kind = 3) (hoa : OkX a) :
    WCall 41 w p B ms E R t kv (exW F E t o) := by
  have hgo : exW F E t o = seqM (F.ex E a) (eachM (F.ex E) []) o := by
    unfold exW; rw [hkind, hkids]; simp [ha3]
  unfold WCall
  rw [hgo]
  have hlen : t.kids.length = 1 := by rw [hkids]; rfl
  have hts := Tr.size_eq t
  rw [hkids, Tr.sizes_cons] at hts
  obtain ⟨A, cap, rfl, hcl, hcm, hA⟩ := hk.slice
  obtain ⟨b, off, rfl, hbB⟩ := hA (by omega)
  rw [hlen] at hk hcl ⊢
  have W1 : Below w.heap.size w (w.alloc (.cells #[.int .i64 t.kind, .int .i64 t.at_, .string t.name, .int .u64 t.num, .string t.op, .slice (some ⟨b, off, none⟩) 1 cap] 31)) := below_alloc (Below.refl _ _)
  have HW := Lib.hid h
  have HG := Lib.hid G
  have HLen := Lib.hid L
  have HNE := Lib.hid hne
  have hi0 : t.kids[0]? = some a := by rw [hkids]; rfl
  obtain ⟨_, hwa, kva, hna, hka⟩ := hk.kid hi0
  obtain ⟨Aa, ca, rfl, _, _, _⟩ := hka.slice
  obtain ⟨d0, d1, d2, d3, d4, d5⟩ := kcells hna off (by omega)
  have hda := Tr.fitsD_kid hd (List.mem_of_getElem? hi0)
  have hbw : b < w.heap.size := Nat.lt_of_lt_of_le hbB h.inn.sz
  have hn1 : w.heap.size ≠ b := by omega
  have hpl := h.blk.lt
  have hb3 : Blk (w.alloc (.cells #[.int .i64 t.kind, .int .i64 t.at_, .string t.name, .int .u64 t.num, .string t.op, .slice (some ⟨b, off, none⟩) 1 cap] 31)) w.heap.size 31 #[.int .i64 t.kind, .int .i64 t.at_, .string t.name, .int .u64 t.num, .string t.op, .slice (some ⟨b, off, none⟩) 1 cap] := Blk.new _ _ _
  have KX := Lib.hid (fun v1 (f : Fr (Ft p R) w v1) (f' : Fr (Ft p R) (w.alloc (.cells #[.int .i64 t.kind, .int .i64 t.at_, .string t.name, .int .u64 t.num, .string t.op, .slice (some ⟨b, off, none⟩) 1 cap] 31)) v1) => show v1.cell? ⟨w.heap.size, 5, none⟩ = some (.slice (some ⟨b, off, none⟩) 1 cap) from f'.cel hb3 ((h.fr W1).not_ft hb3 (by decide)) 5 rfl)
  have HK0 := Lib.hid hk
  have hci : (0 : Int) ≤ 1 ∧ (1 : Int) ≤ (cap : Int) := by omega
  have hcl' := hcl
  have CC := G.ex _ p B ms E o R a _ (h.fr W1) hne (by omega) (hka.under (W1.mono h.inn.sz)) hwa hda hoa
  have q3 : (t.kind == 3) = false := by simp [hkind]
  have q12 : (t.kind == 12) = false := by simp [hkind]
  have q21 : (t.kind == 21) = false := by simp [hkind]
  have q17 : (t.kind == 17) = true := by simp [hkind]
  have qa : (a.kind == 3) = false := by simp [ha3]
  have hln : ∀ o1, (F.ex E a) o = .ok o1 → o1.len + 1 ≤ o.len + 4 * a.size := fun o1 h1 => L.ex E a o o1 h1
  cases hr : (F.ex E a) o with
  | error c =>
    have CC := Lib.hid (CC.mono (R' := fun e w' => e = bad c ∧ Below B w w') fun e w' hh => ⟨(hh.2 c hr).1, (W1.mono h.inn.sz).trans (hh.2 c hr).2⟩)
    have HE := Lib.hid (seqM_err (g := eachM (F.ex E) []) hr)
    clear hr h hne hk hwf hd W1 hgo hkind hkids hlen hcl hcm hA G L ha3 hi0 hna hka hda hwa hb3 hoa hln hbd
    obtain ⟨c1, c2⟩ := c
    unfold bad at CC
    go_enter Tryd.func41, Tryd.ntmps41
    go_wp2_with (first | (go_at_call 41; (with_reducible refine CC.out.mono ?_); rintro e v1 ⟨rfl, g1⟩; have G1 := Lib.hid g1; clear g1))
    exact ⟨rfl, WP.err HE.out ⟨rfl, G1.out⟩⟩
  | ok o1 =>
    have CC := Lib.hid (CC.mono (R' := fun e w' => (∃ v, e = .returned v) ∧ ∃ R'', WAt w' p B ms E o1 R'' ∧ Fr (Ft p R) w w' ∧ Gr w.heap.size p R R'' ∧ Fr (Ft p R) (w.alloc (.cells #[.int .i64 t.kind, .int .i64 t.at_, .string t.name, .int .u64 t.num, .string t.op, .slice (some ⟨b, off, none⟩) 1 cap] 31)) w') fun e w' hh => by
      obtain ⟨h1, R'', h2, h3, h4⟩ := hh.1 o1 hr
      exact ⟨h1, R'', h2, (Fr.of_below W1).tr h3, h4.mono W1.size, h3⟩)
    have HSEQ := Lib.hid (seqM_ok (g := eachM (F.ex E) []) hr)
    have hl1 := hln o1 hr
    clear hr h hne hk hwf hd W1 hgo hkind hkids hlen hcl hcm hA G L ha3 hi0 hna hka hda hwa hb3 hoa hln hbd
    rcases Nat.eq_or_lt_of_le hcl' with hc1 | hc1
    all_goals first | (subst hc1) | (have hc2 : ¬ cap = 1 := by omega)
    all_goals
      go_enter Tryd.func41, Tryd.ntmps41
      go_wp2_with (first | (go_at_call 41; (with_reducible refine CC.out.mono ?_); rintro e v1 ⟨⟨v, rfl⟩, R1, g1, g2, g3, g4⟩; have x5 := KX.out _ g2 g4; have H0 := Lib.hid g1; have F0 := Lib.hid g2; have G0 := Lib.hid g3; clear g1 g2 g3 g4))
      go_loopg [45] 0 (fun fu ix wr => ix = .int .i64 0 ∧ fu = 0 ∧ wr = v1)
      case atStart => exact ⟨rfl, rfl, rfl⟩
      case round =>
        obtain ⟨rfl, rfl, rfl⟩ := hrel
        go_wp2
        first | go_end0 | (refine bodyPost_ret (results_none rfl _ _ _) rfl ?_)
        exact WP.ok (HSEQ.out.trans rfl) ⟨⟨_, rfl⟩, R1, H0.out, F0.out, G0.out⟩
set_option maxRecDepth 100000 in
set_option maxHeartbeats 8000000 in
theorem exU21n {F : WF} {n : Nat} (G : GoodW F n) (L : LenW F) (w : World) (p B : Nat) (ms : List Nat) (E : Env) (o : Out) (R : Rw) (t : Tr) (kv : Value) (h : WAt w p B ms E o R) (hne : 0 < E.blocks.length) (hbd : bnd E o + 9 * t.size ≤ 2000000) (hk : KidsAt w B kv t.kids) (hwf : t.wf1) (hd : t.fitsD (n + 1) = true) (hkind : t.kind = 21) {a x : Tr} (hkids : t.kids = [a, x]) (ha3 : a.kind = 3) (hox : OkX x) :
    WCall 41 w p B ms E R t kv (exW F E t o) := by
  have hgo : exW F E t o = seqM (useP E a.name a.at_ true) (eachM (F.ex E) [x]) o := by
    unfold exW; rw [hkind, hkids]; simp [ha3]
  unfold WCall
  rw [hgo]
  have hlen : t.kids.length = 2 := by rw [hkids]; rfl
  have hts := Tr.size_eq t
  rw [hkids, Tr.sizes_cons] at hts
  obtain ⟨A, cap, rfl, hcl, hcm, hA⟩ := hk.slice
  obtain ⟨b, off, rfl, hbB⟩ := hA (by omega)
  rw [hlen] at hk hcl ⊢
  have W1 : Below w.heap.size w (w.alloc (.cells #[.int .i64 t.kind, .int .i64 t.at_, .string t.name, .int .u64 t.num, .string t.op, .slice (some ⟨b, off, none⟩) 2 cap] 31)) := below_alloc (Below.refl _ _)
  have HW := Lib.hid h
  have HG := Lib.hid G
  have HLen := Lib.hid L
  have HNE := Lib.hid hne
  have hi0 : t.kids[0]? = some a := by rw [hkids]; rfl
  obtain ⟨_, hwa, kva, hna, hka⟩ := hk.kid hi0
  obtain ⟨Aa, ca, rfl, _, _, _⟩ := hka.slice
  obtain ⟨d0, d1, d2, d3, d4, d5⟩ := kcells hna off (by omega)
  have hda := Tr.fitsD_kid hd (List.mem_of_getElem? hi0)
  have hbw : b < w.heap.size := Nat.lt_of_lt_of_le hbB h.inn.sz
  have hn1 : w.heap.size ≠ b := by omega
  have hpl := h.blk.lt
  have hb3 : Blk (w.alloc (.cells #[.int .i64 t.kind, .int .i64 t.at_, .string t.name, .int .u64 t.num, .string t.op, .slice (some ⟨b, off, none⟩) 2 cap] 31)) w.heap.size 31 #[.int .i64 t.kind, .int .i64 t.at_, .string t.name, .int .u64 t.num, .string t.op, .slice (some ⟨b, off, none⟩) 2 cap] := Blk.new _ _ _
  have KX := Lib.hid (fun v1 (f : Fr (Ft p R) w v1) (f' : Fr (Ft p R) (w.alloc (.cells #[.int .i64 t.kind, .int .i64 t.at_, .string t.name, .int .u64 t.num, .string t.op, .slice (some ⟨b, off, none⟩) 2 cap] 31)) v1) => show v1.cell? ⟨w.heap.size, 5, none⟩ = some (.slice (some ⟨b, off, none⟩) 2 cap) from f'.cel hb3 ((h.fr W1).not_ft hb3 (by decide)) 5 rfl)
  have HK0 := Lib.hid hk
  have hi1 : t.kids[1]? = some x := by rw [hkids]; rfl
  have hdx := Tr.fitsD_kid hd (List.mem_of_getElem? hi1)
  have HK := Lib.hid (show KidsAt w B (.slice (some ⟨b, off + 6, none⟩) 1 (cap - 1)) [x] from by
    have h1 := hk; rw [hkids] at h1
    exact h1.rest _ (fun _ => rfl))
  have HA := Lib.hid (show 0 < 1 → ∃ b' off', (some ⟨b, off + 6, none⟩ : Option Addr) = some ⟨b', off', none⟩ ∧ b' < B from fun _ => ⟨b, off + 6, rfl, hbB⟩)
  have HD := Lib.hid (show ∀ k ∈ [x], k.fitsD n = true from fun k hk => by rw [List.mem_singleton.1 hk]; exact hdx)
  have HOK := Lib.hid (show ∀ k ∈ [x], OkX k from fun k hk => by rw [List.mem_singleton.1 hk]; exact hox)
  have HLL := Lib.hid (show [x].length = 1 from rfl)
  have hc1 : ¬ cap = 1 := by omega
  have hci : (0 : Int) ≤ 1 ∧ (1 : Int) ≤ 2 ∧ (2 : Int) ≤ (cap : Int) := by omega
  have CC := useW_calls (h.fr W1) hne (by unfold bnd at hbd; omega) (by unfold bnd Out.len at hbd; omega) a.kind a.name hwa.2 a.at_ (.int .u64 a.num) (.string a.op) (.slice Aa a.kids.length ca) rfl rfl rfl true
  have q3 : (t.kind == 3) = false := by simp [hkind]
  have q12 : (t.kind == 12) = false := by simp [hkind]
  have q21 : (t.kind == 21) = true := by simp [hkind]
  have qa : (a.kind == 3) = true := by simp [ha3]
  have hln : ∀ o1, (useP E a.name a.at_ true) o = .ok o1 → o1.len + 1 ≤ o.len + 4 * a.size := fun o1 h1 => useP_len h1 (Tr.size_pos a)
  cases hr : (useP E a.name a.at_ true) o with
  | error c =>
    have CC := Lib.hid (CC.mono (R' := fun e w' => e = bad c ∧ Below B w w') fun e w' hh => ⟨(hh.2 c hr).1, (W1.mono h.inn.sz).trans (hh.2 c hr).2⟩)
    have HE := Lib.hid (seqM_err (g := eachM (F.ex E) [x]) hr)
    clear hr h hne hk hwf hd W1 hgo hkind hkids hlen hcl hcm hA G L ha3 hi0 hna hka hda hwa hb3 hi1 hdx hox hln hbd
    obtain ⟨c1, c2⟩ := c
    unfold bad at CC
    go_enter Tryd.func41, Tryd.ntmps41
    go_wp2_with (first | (go_at_call 62; (with_reducible refine CC.out.mono ?_); rintro e v1 ⟨rfl, g1⟩; have G1 := Lib.hid g1; clear g1))
    exact ⟨rfl, WP.err HE.out ⟨rfl, G1.out⟩⟩
  | ok o1 =>
    have CC := Lib.hid (CC.mono (R' := fun e w' => (∃ v, e = .returned v) ∧ ∃ R'', WAt w' p B ms E o1 R'' ∧ Fr (Ft p R) w w' ∧ Gr w.heap.size p R R'' ∧ Fr (Ft p R) (w.alloc (.cells #[.int .i64 t.kind, .int .i64 t.at_, .string t.name, .int .u64 t.num, .string t.op, .slice (some ⟨b, off, none⟩) 2 cap] 31)) w') fun e w' hh => by
      obtain ⟨h1, R'', h2, h3, h4⟩ := hh.1 o1 hr
      exact ⟨h1, R'', h2, (Fr.of_below W1).tr h3, h4.mono W1.size, h3⟩)
    have HSEQ := Lib.hid (seqM_ok (g := eachM (F.ex E) [x]) hr)
    have hl1 := hln o1 hr
    have HBD := Lib.hid (show bnd E o1 + 9 * Tr.sizes [x] ≤ 2000000 from by unfold bnd at hbd ⊢; omega)
    clear hr h hne hk hwf hd W1 hgo hkind hkids hlen hcl hcm hA G L ha3 hi0 hna hka hda hwa hb3 hi1 hdx hox hln hbd
    go_enter Tryd.func41, Tryd.ntmps41
    go_wp2_with (first | (go_at_call 62; (with_reducible refine CC.out.mono ?_); rintro e v1 ⟨⟨v, rfl⟩, R1, g1, g2, g3, g4⟩; have x5 := KX.out _ g2 g4; have H0 := Lib.hid g1; have F0 := Lib.hid g2; have G0 := Lib.hid g3; clear g1 g2 g3 g4))
    go_loopg [45] 1 (fun fu ix wr => ∃ (j : Nat) (o' : Out) (R' : Rw), ix = .int .i64 j ∧ j + fu = 1 ∧ WAt wr p B ms E o' R' ∧ Fr (Ft p R) w wr ∧ Gr w.heap.size p R R' ∧ eachM (F.ex E) [x] o1 = eachM (F.ex E) ([x].drop j) o' ∧ o'.len + j ≤ o1.len + 4 * Tr.sizes ([x].take j))
    case atStart => exact ⟨0, o1, R1, rfl, by omega, H0.out, F0.out, G0.out, rfl, by simp [Tr.sizes_nil]⟩
    case round =>
      obtain ⟨j, o', R', rfl, hf, h1, h2, h3, h4, h5⟩ := hrel
      have H1 := Lib.hid h1
      have H2 := Lib.hid h2
      have H3 := Lib.hid h3
      have H4 := Lib.hid h4
      have H5 := Lib.hid h5
      clear h1 h2 h3 h4 h5
      rcases Nat.lt_or_ge j 1 with hj | hj
      · obtain ⟨k, hkj⟩ : ∃ k, [x][j]? = some k := ⟨_, List.getElem?_eq_getElem (by have := HLL.out; omega)⟩
        obtain ⟨b, off, hAeq, hbB⟩ := HA.out (by omega)
        cases hAeq
        obtain ⟨_, hwf', kv', hN, hKk⟩ := (HK.out.under (HW.out.under H2.out)).kid hkj
        obtain ⟨d0, d1, d2, d3, d4, d5⟩ := hN.get
        obtain ⟨A', cap', rfl, _, _, _⟩ := hKk.slice
        have hj' : (j : Int) < (1 : Int) := by omega
        obtain ⟨f', hf'⟩ : ∃ f', gk = f' + 1 := ⟨gk - 1, by omega⟩
        have HF := Lib.hid (And.intro hf hf')
        have hU : Below wr.heap.size wr (wr.alloc (.cells #[.int .i64 k.kind, .int .i64 k.at_, .string k.name, .int .u64 k.num, .string k.op, .slice A' k.kids.length cap'] 31)) := below_alloc (Below.refl _ _)
        have HSt := Lib.hid (show eachM (F.ex E) [x] o1 = seqM (F.ex E k) (eachM (F.ex E) ([x].drop (j + 1))) o' from by rw [H4.out, drop_at' hkj]; rfl)
        have hsz := sizes_at hkj
        have HT := Lib.hid (take_succ_at hkj)
        have CC := (HG.out.ex _ p B ms E o' R' k _ (H1.out.fr hU) HNE.out (by have := H5.out; have := HBD.out; unfold bnd at *; omega) (hKk.under (hU.mono H1.out.inn.sz)) hwf' (HD.out k (List.mem_of_getElem? hkj)) (HOK.out k (List.mem_of_getElem? hkj)))
        clear hf hf' hkj hKk hN hwf'
        cases hr : F.ex E k o' with
        | error c =>
          have CC := Lib.hid (CC.mono (R' := fun e w' => e = bad c ∧ Below B w w') fun e w' hh => ⟨(hh.2 c hr).1, ((HW.out.under H2.out).trans (hU.mono H1.out.inn.sz)).trans (hh.2 c hr).2⟩)
          have HE := Lib.hid (HSt.out.trans (seqM_err hr))
          clear hr hU
          obtain ⟨c1, c2⟩ := c
          unfold bad at CC
          go_wp2_with (first | (go_at_call 41; (with_reducible refine CC.out.mono ?_); rintro e v1 ⟨rfl, g1⟩; have G1 := Lib.hid g1; clear g1))
          exact ⟨rfl, WP.err (HSEQ.out.trans HE.out) ⟨rfl, G1.out⟩⟩
        | ok o2 =>
          have CC := Lib.hid (CC.mono (R' := fun e w' => (∃ v, e = .returned v) ∧ ∃ R'', WAt w' p B ms E o2 R'' ∧ Fr (Ft p R) w w' ∧ Gr w.heap.size p R R'') fun e w' hh => by
            obtain ⟨h1, R'', h2, h3, h4⟩ := hh.1 o2 hr
            exact ⟨h1, R'', h2, (H2.out.tr (Fr.of_below hU)).trans h3 H3.out, H3.out.trans h4 (Nat.le_trans H2.out.size hU.size)⟩)
          have hgl := HLen.out.ex E k o' o2 hr
          have HGL := Lib.hid hgl
          have HE := Lib.hid (HSt.out.trans (seqM_ok hr))
          clear hr hU hgl
          go_wp2_with (first | (go_at_call 41; (with_reducible refine CC.out.mono ?_); rintro e v1 ⟨⟨v, rfl⟩, R'', g1, g2, g3⟩; have G1 := Lib.hid g1; have G2 := Lib.hid g2; have G3 := Lib.hid g3; clear g1 g2 g3))
          go_roundg f'
          case measure => have := HF.out; omega
          case rel => exact ⟨j + 1, o2, R'', by simp, by have := HF.out; omega, G1.out, G2.out, G3.out, HE.out, by rw [HT.out, Tr.sizes_append, Tr.sizes_cons, Tr.sizes_nil]; have := H5.out; have := HGL.out; omega⟩
      · have hjl : j = 1 := by omega
        have hj' : ¬ (j : Int) < (1 : Int) := by omega
        have HJ := Lib.hid (show [x].drop j = [] from List.drop_eq_nil_of_le (by have := HLL.out; omega))
        have HEnd := Lib.hid (show eachM (F.ex E) [x] o1 = .ok o' from by rw [H4.out, HJ.out]; rfl)
        clear hf hjl
        go_wp2
        first | go_end0 | (refine bodyPost_ret (results_none rfl _ _ _) rfl ?_)
        exact WP.ok (HSEQ.out.trans HEnd.out) ⟨⟨_, rfl⟩, R', H1.out, H2.out, H3.out⟩
set_option maxRecDepth 100000 in
set_option maxHeartbeats 8000000 in
theorem exU21e {F : WF} {n : Nat} (G : GoodW F n) (L : LenW F) (w : World) (p B : Nat) (ms : List Nat) (E : Env) (o : Out) (R : Rw) (t : Tr) (kv : Value) (h : WAt w p B ms E o R) (hne : 0 < E.blocks.length) (hbd : bnd E o + 9 * t.size ≤ 2000000) (hk : KidsAt w B kv t.kids) (hwf : t.wf1) (hd : t.fitsD (n + 1) = true) (hkind : t.kind = 21) {a x : Tr} (hkids : t.kids = [a, x]) (ha3 : ¬ a.kind = 3) (hoa : OkX a) (hox : OkX x) :
    WCall 41 w p B ms E R t kv (exW F E t o) := by
  have hgo : exW F E t o = seqM (F.ex E a) (eachM (F.ex E) [x]) o := by
    unfold exW; rw [hkind, hkids]; simp [ha3]
  unfold WCall
  rw [hgo]
  have hlen : t.kids.length = 2 := by rw [hkids]; rfl
  have hts := Tr.size_eq t
  rw [hkids, Tr.sizes_cons] at hts
  obtain ⟨A, cap, rfl, hcl, hcm, hA⟩ := hk.slice
  obtain ⟨b, off, rfl, hbB⟩ := hA (by omega)
  rw [hlen] at hk hcl ⊢
  have W1 : Below w.heap.size w (w.alloc (.cells #[.int .i64 t.kind, .int .i64 t.at_, .string t.name, .int .u64 t.num, .string t.op, .slice (some ⟨b, off, none⟩) 2 cap] 31)) := below_alloc (Below.refl _ _)
  have HW := Lib.hid h
  have HG := Lib.hid G
  have HLen := Lib.hid L
  have HNE := Lib.hid hne
  have hi0 : t.kids[0]? = some a := by rw [hkids]; rfl
  obtain ⟨_, hwa, kva, hna, hka⟩ := hk.kid hi0
  obtain ⟨Aa, ca, rfl, _, _, _⟩ := hka.slice
  obtain ⟨d0, d1, d2, d3, d4, d5⟩ := kcells hna off (by omega)
  have hda := Tr.fitsD_kid hd (List.mem_of_getElem? hi0)
  have hbw : b < w.heap.size := Nat.lt_of_lt_of_le hbB h.inn.sz
  have hn1 : w.heap.size ≠ b := by omega
  have hpl := h.blk.lt
  have hb3 : Blk (w.alloc (.cells #[.int .i64 t.kind, .int .i64 t.at_, .string t.name, .int .u64 t.num, .string t.op, .slice (some ⟨b, off, none⟩) 2 cap] 31)) w.heap.size 31 #[.int .i64 t.kind, .int .i64 t.at_, .string t.name, .int .u64 t.num, .string t.op, .slice (some ⟨b, off, none⟩) 2 cap] := Blk.new _ _ _
  have KX := Lib.hid (fun v1 (f : Fr (Ft p R) w v1) (f' : Fr (Ft p R) (w.alloc (.cells #[.int .i64 t.kind, .int .i64 t.at_, .string t.name, .int .u64 t.num, .string t.op, .slice (some ⟨b, off, none⟩) 2 cap] 31)) v1) => show v1.cell? ⟨w.heap.size, 5, none⟩ = some (.slice (some ⟨b, off, none⟩) 2 cap) from f'.cel hb3 ((h.fr W1).not_ft hb3 (by decide)) 5 rfl)
  have HK0 := Lib.hid hk
  have hi1 : t.kids[1]? = some x := by rw [hkids]; rfl
  have hdx := Tr.fitsD_kid hd (List.mem_of_getElem? hi1)
  have HK := Lib.hid (show KidsAt w B (.slice (some ⟨b, off + 6, none⟩) 1 (cap - 1)) [x] from by
    have h1 := hk; rw [hkids] at h1
    exact h1.rest _ (fun _ => rfl))
  have HA := Lib.hid (show 0 < 1 → ∃ b' off', (some ⟨b, off + 6, none⟩ : Option Addr) = some ⟨b', off', none⟩ ∧ b' < B from fun _ => ⟨b, off + 6, rfl, hbB⟩)
  have HD := Lib.hid (show ∀ k ∈ [x], k.fitsD n = true from fun k hk => by rw [List.mem_singleton.1 hk]; exact hdx)
  have HOK := Lib.hid (show ∀ k ∈ [x], OkX k from fun k hk => by rw [List.mem_singleton.1 hk]; exact hox)
  have HLL := Lib.hid (show [x].length = 1 from rfl)
  have hc1 : ¬ cap = 1 := by omega
  have hci : (0 : Int) ≤ 1 ∧ (1 : Int) ≤ 2 ∧ (2 : Int) ≤ (cap : Int) := by omega
  have CC := G.ex _ p B ms E o R a _ (h.fr W1) hne (by omega) (hka.under (W1.mono h.inn.sz)) hwa hda hoa
  have q3 : (t.kind == 3) = false := by simp [hkind]
  have q12 : (t.kind == 12) = false := by simp [hkind]
  have q21 : (t.kind == 21) = true := by simp [hkind]
  have qa : (a.kind == 3) = false := by simp [ha3]
  have hln : ∀ o1, (F.ex E a) o = .ok o1 → o1.len + 1 ≤ o.len + 4 * a.size := fun o1 h1 => L.ex E a o o1 h1
  cases hr : (F.ex E a) o with
  | error c =>
    have CC := Lib.hid (CC.mono (R' := fun e w' => e = bad c ∧ Below B w w') fun e w' hh => ⟨(hh.2 c hr).1, (W1.mono h.inn.sz).trans (hh.2 c hr).2⟩)
    have HE := Lib.hid (seqM_err (g := eachM (F.ex E) [x]) hr)
    clear hr h hne hk hwf hd W1 hgo hkind hkids hlen hcl hcm hA G L ha3 hi0 hna hka hda hwa hb3 hoa hi1 hdx hox hln hbd
    obtain ⟨c1, c2⟩ := c
    unfold bad at CC
    go_enter Tryd.func41, Tryd.ntmps41
    go_wp2_with (first | (go_at_call 41; (with_reducible refine CC.out.mono ?_); rintro e v1 ⟨rfl, g1⟩; have G1 := Lib.hid g1; clear g1))
    exact ⟨rfl, WP.err HE.out ⟨rfl, G1.out⟩⟩
  | ok o1 =>
    have CC := Lib.hid (CC.mono (R' := fun e w' => (∃ v, e = .returned v) ∧ ∃ R'', WAt w' p B ms E o1 R'' ∧ Fr (Ft p R) w w' ∧ Gr w.heap.size p R R'' ∧ Fr (Ft p R) (w.alloc (.cells #[.int .i64 t.kind, .int .i64 t.at_, .string t.name, .int .u64 t.num, .string t.op, .slice (some ⟨b, off, none⟩) 2 cap] 31)) w') fun e w' hh => by
      obtain ⟨h1, R'', h2, h3, h4⟩ := hh.1 o1 hr
      exact ⟨h1, R'', h2, (Fr.of_below W1).tr h3, h4.mono W1.size, h3⟩)
    have HSEQ := Lib.hid (seqM_ok (g := eachM (F.ex E) [x]) hr)
    have hl1 := hln o1 hr
    have HBD := Lib.hid (show bnd E o1 + 9 * Tr.sizes [x] ≤ 2000000 from by unfold bnd at hbd ⊢; omega)
    clear hr h hne hk hwf hd W1 hgo hkind hkids hlen hcl hcm hA G L ha3 hi0 hna hka hda hwa hb3 hoa hi1 hdx hox hln hbd
    go_enter Tryd.func41, Tryd.ntmps41
    go_wp2_with (first | (go_at_call 41; (with_reducible refine CC.out.mono ?_); rintro e v1 ⟨⟨v, rfl⟩, R1, g1, g2, g3, g4⟩; have x5 := KX.out _ g2 g4; have H0 := Lib.hid g1; have F0 := Lib.hid g2; have G0 := Lib.hid g3; clear g1 g2 g3 g4))
    go_loopg [45] 1 (fun fu ix wr => ∃ (j : Nat) (o' : Out) (R' : Rw), ix = .int .i64 j ∧ j + fu = 1 ∧ WAt wr p B ms E o' R' ∧ Fr (Ft p R) w wr ∧ Gr w.heap.size p R R' ∧ eachM (F.ex E) [x] o1 = eachM (F.ex E) ([x].drop j) o' ∧ o'.len + j ≤ o1.len + 4 * Tr.sizes ([x].take j))
    case atStart => exact ⟨0, o1, R1, rfl, by omega, H0.out, F0.out, G0.out, rfl, by simp [Tr.sizes_nil]⟩
    case round =>
      obtain ⟨j, o', R', rfl, hf, h1, h2, h3, h4, h5⟩ := hrel
      have H1 := Lib.hid h1
      have H2 := Lib.hid h2
      have H3 := Lib.hid h3
      have H4 := Lib.hid h4
      have H5 := Lib.hid h5
      clear h1 h2 h3 h4 h5
      rcases Nat.lt_or_ge j 1 with hj | hj
      · obtain ⟨k, hkj⟩ : ∃ k, [x][j]? = some k := ⟨_, List.getElem?_eq_getElem (by have := HLL.out; omega)⟩
        obtain ⟨b, off, hAeq, hbB⟩ := HA.out (by omega)
        cases hAeq
        obtain ⟨_, hwf', kv', hN, hKk⟩ := (HK.out.under (HW.out.under H2.out)).kid hkj
        obtain ⟨d0, d1, d2, d3, d4, d5⟩ := hN.get
        obtain ⟨A', cap', rfl, _, _, _⟩ := hKk.slice
        have hj' : (j : Int) < (1 : Int) := by omega
        obtain ⟨f', hf'⟩ : ∃ f', gk = f' + 1 := ⟨gk - 1, by omega⟩
        have HF := Lib.hid (And.intro hf hf')
        have hU : Below wr.heap.size wr (wr.alloc (.cells #[.int .i64 k.kind, .int .i64 k.at_, .string k.name, .int .u64 k.num, .string k.op, .slice A' k.kids.length cap'] 31)) := below_alloc (Below.refl _ _)
        have HSt := Lib.hid (show eachM (F.ex E) [x] o1 = seqM (F.ex E k) (eachM (F.ex E) ([x].drop (j + 1))) o' from by rw [H4.out, drop_at' hkj]; rfl)
        have hsz := sizes_at hkj
        have HT := Lib.hid (take_succ_at hkj)
        have CC := (HG.out.ex _ p B ms E o' R' k _ (H1.out.fr hU) HNE.out (by have := H5.out; have := HBD.out; unfold bnd at *; omega) (hKk.under (hU.mono H1.out.inn.sz)) hwf' (HD.out k (List.mem_of_getElem? hkj)) (HOK.out k (List.mem_of_getElem? hkj)))
        clear hf hf' hkj hKk hN hwf'
        cases hr : F.ex E k o' with
        | error c =>
          have CC := Lib.hid (CC.mono (R' := fun e w' => e = bad c ∧ Below B w w') fun e w' hh => ⟨(hh.2 c hr).1, ((HW.out.under H2.out).trans (hU.mono H1.out.inn.sz)).trans (hh.2 c hr).2⟩)
          have HE := Lib.hid (HSt.out.trans (seqM_err hr))
          clear hr hU
          obtain ⟨c1, c2⟩ := c
          unfold bad at CC
          go_wp2_with (first | (go_at_call 41; (with_reducible refine CC.out.mono ?_); rintro e v1 ⟨rfl, g1⟩; have G1 := Lib.hid g1; clear g1))
          exact ⟨rfl, WP.err (HSEQ.out.trans HE.out) ⟨rfl, G1.out⟩⟩
        | ok o2 =>
          have CC := Lib.hid (CC.mono (R' := fun e w' => (∃ v, e = .returned v) ∧ ∃ R'', WAt w' p B ms E o2 R'' ∧ Fr (Ft p R) w w' ∧ Gr w.heap.size p R R'') fun e w' hh => by
            obtain ⟨h1, R'', h2, h3, h4⟩ := hh.1 o2 hr
            exact ⟨h1, R'', h2, (H2.out.tr (Fr.of_below hU)).trans h3 H3.out, H3.out.trans h4 (Nat.le_trans H2.out.size hU.size)⟩)
          have hgl := HLen.out.ex E k o' o2 hr
          have HGL := Lib.hid hgl
          have HE := Lib.hid (HSt.out.trans (seqM_ok hr))
          clear hr hU hgl
          go_wp2_with (first | (go_at_call 41; (with_reducible refine CC.out.mono ?_); rintro e v1 ⟨⟨v, rfl⟩, R'', g1, g2, g3⟩; have G1 := Lib.hid g1; have G2 := Lib.hid g2; have G3 := Lib.hid g3; clear g1 g2 g3))
          go_roundg f'
          case measure => have := HF.out; omega
          case rel => exact ⟨j + 1, o2, R'', by simp, by have := HF.out; omega, G1.out, G2.out, G3.out, HE.out, by rw [HT.out, Tr.sizes_append, Tr.sizes_cons, Tr.sizes_nil]; have := H5.out; have := HGL.out; omega⟩
      · have hjl : j = 1 := by omega
        have hj' : ¬ (j : Int) < (1 : Int) := by omega
        have HJ := Lib.hid (show [x].drop j = [] from List.drop_eq_nil_of_le (by have := HLL.out; omega))
        have HEnd := Lib.hid (show eachM (F.ex E) [x] o1 = .ok o' from by rw [H4.out, HJ.out]; rfl)
        clear hf hjl
        go_wp2
        first | go_end0 | (refine bodyPost_ret (results_none rfl _ _ _) rfl ?_)
        exact WP.ok (HSEQ.out.trans HEnd.out) ⟨⟨_, rfl⟩, R', H1.out, H2.out, H3.out⟩
end Go.Proofs.YtlenhcmgcgccmaaDoor
