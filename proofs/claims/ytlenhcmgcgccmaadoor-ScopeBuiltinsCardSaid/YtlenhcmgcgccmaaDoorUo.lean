/- Scope: function's body is called. -/
import Derived.Test.YtlenhcmgcgccmaaDoorUm
import Derived.Test.YtlenhcmgcgccmaaDoorUb
namespace Go.Proofs.YtlenhcmgcgccmaaDoor
open Go.RowKit Go
set_option linter.unusedVariables false
set_option linter.unusedSimpArgs false
theorem aheadP_len {own : Bool} {fn : Nat} {l : List Tr} {b : Bk} {o : Out} {x : Bk × Out} (h : aheadP own fn l b o = .ok x) : x.2.len ≤ o.len + l.length := by
  unfold aheadP seqD at h
  split at h
  · rename_i y hy
    injection h with h
    subst h
    have h1 := paramsP_len _ _ _ _ hy
    split
    · simpa [incV, Out.len] using h1
    · exact h1
  · cases h
theorem fn_body {F : WF} {n : Nat} (G : GoodW F n) (L : LenW F) {X : World} {p B : Nat} {ms : List Nat} {E : Env} {o : Out} {R : Rw} (h : WAt X p B ms E o R) {l fr : List Tr} {A Ab : Option Addr} {cap cb : Nat} {own : Bool} {q7 q2 q9 q10 : Nat}
    (hkb : KidsAt X B (.slice Ab l.length cb) l) (hd : ∀ k ∈ l, k.fitsD n = true) (hok : ∀ k ∈ l, OkS k) (hwf : ∀ k ∈ l, k.wf1) (hkf : KidsAt X B (.slice A fr.length cap) fr)
    (hbd : bnd E o + fr.length + 2 + 9 * Tr.sizes l ≤ 2000000) (hv : (o.scp E.fn).vars ≤ 200)
    (b7 : Blk X q7 29 #[.slice A fr.length cap]) (b2 : Blk X q2 60 #[.pointer (some ⟨p, 0, none⟩)]) (b9 : Blk X q9 1 #[.func (.func 60) #[] #[.pointer (some ⟨q7, 0, none⟩), .pointer (some ⟨q2, 0, none⟩)]]) (b10 : Blk X q10 4 #[.bool own]) :
    Calls Tryd.prog 22 #[.pointer (some ⟨p, 0, none⟩), .slice Ab l.length cb, .func (.func 61) #[] #[.pointer (some ⟨q9, 0, none⟩), .pointer (some ⟨q10, 0, none⟩), .pointer (some ⟨q2, 0, none⟩)]] X (WP X p B ms E R (bodyW F E (aheadP own E.fn fr) l o)) := by
  refine body_fn G L X p B ms E o R l Ab cb (aheadP own E.fn fr) fr.length q9 q10 q2 h hkb hd hok hwf hbd (fun x hx => aheadP_len hx) ?_
  intro V R2 hV f g
  have nf : ∀ {q : Nat} {t : TypeId} {cs : Array Value}, Blk X q t cs → (t ≠ 64 ∧ t ≠ 41 ∧ t ≠ 44 ∧ t ≠ 46 ∧ t ≠ 78 ∧ t ≠ 99) → Blk V q t cs := fun hb ht => f.blk hb (h.not_ft hb ht)
  exact ahead_calls V p B X.heap.size ms E E.blocks o R2 fr A cap hV (by unfold bnd at hbd; omega) (hkf.under (h.under f)) (by unfold bnd at hbd; omega) hv own q7 q2 q9 q10 (nf b7 (by decide)) (nf b2 (by decide)) (nf b9 (by decide)) (nf b10 (by decide))
end Go.Proofs.YtlenhcmgcgccmaaDoor
namespace Go.Proofs.YtlenhcmgcgccmaaDoor
open Go.RowKit Go
set_option linter.unusedVariables false
set_option linter.unusedSimpArgs false
def lidx : List (ByteArray × Bool) → ByteArray → Nat → Int
  | [], _, _ => -1
  | x :: l, nm, k => if x.1 = nm then (k : Int) else lidx l nm (k + 1)
theorem lidx_none {nm : ByteArray} : ∀ (l : List (ByteArray × Bool)) (k : Nat), l.find? (fun x => decide (x.1 = nm)) = none → lidx l nm k = -1
  | [], _, _ => rfl
  | x :: l, k, h => by
    rw [List.find?_cons] at h
    split at h
    · cases h
    · rename_i hx
      have hx : ¬ x.1 = nm := by simpa using hx
      rw [lidx, if_neg hx]; exact lidx_none l _ h
theorem lidx_some {nm : ByteArray} {y : ByteArray × Bool} : ∀ (l : List (ByteArray × Bool)) (k : Nat), l.find? (fun x => decide (x.1 = nm)) = some y → ∃ j : Nat, lidx l nm k = (k : Int) + j ∧ l[j]? = some y
  | [], _, h => by cases h
  | x :: l, k, h => by
    rw [List.find?_cons] at h
    split at h
    · rename_i hx
      have hx : x.1 = nm := by simpa using hx
      injection h with h
      subst h
      exact ⟨0, by rw [lidx, if_pos hx]; omega, rfl⟩
    · rename_i hx
      have hx : ¬ x.1 = nm := by simpa using hx
      obtain ⟨j, h1, h2⟩ := lidx_some l (k + 1) h
      exact ⟨j + 1, by rw [lidx, if_neg hx, h1]; omega, h2⟩
theorem lname64 (W : World) (x nm : ByteArray) (b : Bool) (q : Nat) (hq : q < W.heap.size) (hc : W.cell? ⟨q, 2, none⟩ = some (.string nm)) :
    Calls Tryd.prog 64 #[.agg #[.string x, .bool b], .pointer (some ⟨q, 0, none⟩)] W fun e w' => e = .returned (.bool (decide (x = nm))) ∧ Below W.heap.size W w' := by
  have hn : W.heap.size ≠ q := by omega
  go_enter Tryd.func64, Tryd.ntmps64
  go_wp2
  go_ret
  refine ⟨?_, below_alloc (Below.refl _ _)⟩
  simp [str_eq]
set_option maxRecDepth 100000 in
set_option maxHeartbeats 4000000 in
theorem lindex64 (W : World) (B q : Nat) (lv : Value) (ls : List (ByteArray × Bool)) (nm : ByteArray) (hr : W.ownsRow B 99 2 lv ls.length (ls.flatMap lcells)) (hl : ls.length ≤ 2000000) (hq : q < W.heap.size) (hc : W.cell? ⟨q, 2, none⟩ = some (.string nm)) :
    Calls Tryd.prog 63 #[lv, .func (.func 64) #[] #[.pointer (some ⟨q, 0, none⟩)]] W fun e w' => e = .returned (.int .i64 (lidx ls nm 0)) ∧ Below W.heap.size W w' := by
  obtain ⟨A, c, rfl⟩ := own_is_slice hr
  have HR := Lib.hid hr
  have HC := Lib.hid hc
  have HQ := Lib.hid hq
  have hll : (ls.length : Int) ≤ 2000000 := by omega
  clear hr hc hq
  go_enter Tryd.func63, Tryd.ntmps63
  go_wp2
  go_loopg [8] ls.length (fun fu ix wr => ∃ j : Nat, ix = .int .i64 j ∧ j + fu = ls.length ∧ Below W.heap.size W wr ∧ lidx ls nm 0 = lidx (ls.drop j) nm j)
  case atStart => exact ⟨0, rfl, by omega, Below.refl _ _, rfl⟩
  case round =>
    obtain ⟨j, rfl, hf, h1, h2⟩ := hrel
    have H1 := Lib.hid h1
    have H2 := Lib.hid h2
    clear h1 h2
    rcases Nat.lt_or_ge j ls.length with hj | hj
    · obtain ⟨x, hx⟩ : ∃ x, ls[j]? = some x := ⟨_, List.getElem?_eq_getElem hj⟩
      obtain ⟨g, c', e, _, hg, _, _⟩ := own_some HR.out (by omega)
      injection e with e1 _ e2
      subst e1; subst e2
      have hrow := HR.out
      have e0 := flat_get (f := lcells) (s := 2) (fun _ => rfl) ls j 0 x hx (by omega)
      have e1 := flat_get (f := lcells) (s := 2) (fun _ => rfl) ls j 1 x hx (by omega)
      have a0 := (H1.out.cell (p := ⟨g, j * 2, none⟩) hg).trans (own_cell hrow (k := j * 2) (u := .string x.1) e0).1
      have a1 := (H1.out.cell (p := ⟨g, j * 2 + 1, none⟩) hg).trans (own_cell hrow (k := j * 2 + 1) (u := .bool x.2) e1).1
      have hgw := Nat.lt_of_lt_of_le hg H1.out.size
      have hj' : (0 : Int) ≤ (j : Int) ∧ (j : Int) < (ls.length : Int) := by omega
      obtain ⟨f', hf'⟩ : ∃ f', gk = f' + 1 := ⟨gk - 1, by omega⟩
      have HF := Lib.hid (And.intro hf hf')
      have HX := Lib.hid (show ls.drop j = x :: ls.drop (j + 1) from drop_at' hx)
      have NC := lname64 wr x.1 nm x.2 q (Nat.lt_of_lt_of_le HQ.out H1.out.size) ((H1.out.cell (p := ⟨q, 2, none⟩) HQ.out).trans HC.out)
      clear hf hf' hx hrow e0 e1 hg
      by_cases hn : x.1 = nm
      · rw [show decide (x.1 = nm) = true by simp [hn]] at NC
        have NC := Lib.hid NC
        have HN := Lib.hid hn
        clear hn
        go_wp2_with (first | (go_at_call 64; (with_reducible refine NC.out.mono ?_); rintro e v1 ⟨rfl, g1⟩; have G1 := Lib.hid g1; clear g1))
        go_ret
        refine ⟨?_, H1.out.trans (G1.out.mono H1.out.size)⟩
        rw [H2.out, HX.out, lidx, if_pos HN.out]; rfl
      · rw [show decide (x.1 = nm) = false by simp [hn]] at NC
        have NC := Lib.hid NC
        have HN := Lib.hid hn
        clear hn
        go_wp2_with (first | (go_at_call 64; (with_reducible refine NC.out.mono ?_); rintro e v1 ⟨rfl, g1⟩; have G1 := Lib.hid g1; clear g1))
        go_roundg f'
        case measure => have := HF.out; omega
        case rel => exact ⟨j + 1, by simp, by have := HF.out; omega, H1.out.trans (G1.out.mono H1.out.size), by rw [H2.out, HX.out, lidx, if_neg HN.out]⟩
    · have hj' : ¬ (j : Int) < (ls.length : Int) := by omega
      have HJ := Lib.hid (show ls.drop j = [] from List.drop_eq_nil_of_le hj)
      clear hf
      go_wp2
      go_ret
      exact ⟨by rw [H2.out, HJ.out]; rfl, H1.out⟩
theorem lname66 (W : World) (x nm : ByteArray) (b : Bool) (q : Nat) (hq : q < W.heap.size) (hc : W.cell? ⟨q, 2, none⟩ = some (.string nm)) :
    Calls Tryd.prog 66 #[.agg #[.string x, .bool b], .pointer (some ⟨q, 0, none⟩)] W fun e w' => e = .returned (.bool (decide (x = nm))) ∧ Below W.heap.size W w' := by
  have hn : W.heap.size ≠ q := by omega
  go_enter Tryd.func66, Tryd.ntmps66
  go_wp2
  go_ret
  refine ⟨?_, below_alloc (Below.refl _ _)⟩
  simp [str_eq]
set_option maxRecDepth 100000 in
set_option maxHeartbeats 4000000 in
theorem lindex66 (W : World) (B q : Nat) (lv : Value) (ls : List (ByteArray × Bool)) (nm : ByteArray) (hr : W.ownsRow B 99 2 lv ls.length (ls.flatMap lcells)) (hl : ls.length ≤ 2000000) (hq : q < W.heap.size) (hc : W.cell? ⟨q, 2, none⟩ = some (.string nm)) :
    Calls Tryd.prog 63 #[lv, .func (.func 66) #[] #[.pointer (some ⟨q, 0, none⟩)]] W fun e w' => e = .returned (.int .i64 (lidx ls nm 0)) ∧ Below W.heap.size W w' := by
  obtain ⟨A, c, rfl⟩ := own_is_slice hr
  have HR := Lib.hid hr
  have HC := Lib.hid hc
  have HQ := Lib.hid hq
  have hll : (ls.length : Int) ≤ 2000000 := by omega
  clear hr hc hq
  go_enter Tryd.func63, Tryd.ntmps63
  go_wp2
  go_loopg [8] ls.length (fun fu ix wr => ∃ j : Nat, ix = .int .i64 j ∧ j + fu = ls.length ∧ Below W.heap.size W wr ∧ lidx ls nm 0 = lidx (ls.drop j) nm j)
  case atStart => exact ⟨0, rfl, by omega, Below.refl _ _, rfl⟩
  case round =>
    obtain ⟨j, rfl, hf, h1, h2⟩ := hrel
    have H1 := Lib.hid h1
    have H2 := Lib.hid h2
    clear h1 h2
    rcases Nat.lt_or_ge j ls.length with hj | hj
    · obtain ⟨x, hx⟩ : ∃ x, ls[j]? = some x := ⟨_, List.getElem?_eq_getElem hj⟩
      obtain ⟨g, c', e, _, hg, _, _⟩ := own_some HR.out (by omega)
      injection e with e1 _ e2
      subst e1; subst e2
      have hrow := HR.out
      have e0 := flat_get (f := lcells) (s := 2) (fun _ => rfl) ls j 0 x hx (by omega)
      have e1 := flat_get (f := lcells) (s := 2) (fun _ => rfl) ls j 1 x hx (by omega)
      have a0 := (H1.out.cell (p := ⟨g, j * 2, none⟩) hg).trans (own_cell hrow (k := j * 2) (u := .string x.1) e0).1
      have a1 := (H1.out.cell (p := ⟨g, j * 2 + 1, none⟩) hg).trans (own_cell hrow (k := j * 2 + 1) (u := .bool x.2) e1).1
      have hgw := Nat.lt_of_lt_of_le hg H1.out.size
      have hj' : (0 : Int) ≤ (j : Int) ∧ (j : Int) < (ls.length : Int) := by omega
      obtain ⟨f', hf'⟩ : ∃ f', gk = f' + 1 := ⟨gk - 1, by omega⟩
      have HF := Lib.hid (And.intro hf hf')
      have HX := Lib.hid (show ls.drop j = x :: ls.drop (j + 1) from drop_at' hx)
      have NC := lname66 wr x.1 nm x.2 q (Nat.lt_of_lt_of_le HQ.out H1.out.size) ((H1.out.cell (p := ⟨q, 2, none⟩) HQ.out).trans HC.out)
      clear hf hf' hx hrow e0 e1 hg
      by_cases hn : x.1 = nm
      · rw [show decide (x.1 = nm) = true by simp [hn]] at NC
        have NC := Lib.hid NC
        have HN := Lib.hid hn
        clear hn
        go_wp2_with (first | (go_at_call 66; (with_reducible refine NC.out.mono ?_); rintro e v1 ⟨rfl, g1⟩; have G1 := Lib.hid g1; clear g1))
        go_ret
        refine ⟨?_, H1.out.trans (G1.out.mono H1.out.size)⟩
        rw [H2.out, HX.out, lidx, if_pos HN.out]; rfl
      · rw [show decide (x.1 = nm) = false by simp [hn]] at NC
        have NC := Lib.hid NC
        have HN := Lib.hid hn
        clear hn
        go_wp2_with (first | (go_at_call 66; (with_reducible refine NC.out.mono ?_); rintro e v1 ⟨rfl, g1⟩; have G1 := Lib.hid g1; clear g1))
        go_roundg f'
        case measure => have := HF.out; omega
        case rel => exact ⟨j + 1, by simp, by have := HF.out; omega, H1.out.trans (G1.out.mono H1.out.size), by rw [H2.out, HX.out, lidx, if_neg HN.out]⟩
    · have hj' : ¬ (j : Int) < (ls.length : Int) := by omega
      have HJ := Lib.hid (show ls.drop j = [] from List.drop_eq_nil_of_le hj)
      clear hf
      go_wp2
      go_ret
      exact ⟨by rw [H2.out, HJ.out]; rfl, H1.out⟩
theorem lcont66 (W : World) (B q : Nat) (lv : Value) (ls : List (ByteArray × Bool)) (nm : ByteArray) (hr : W.ownsRow B 99 2 lv ls.length (ls.flatMap lcells)) (hl : ls.length ≤ 2000000) (hq : q < W.heap.size) (hc : W.cell? ⟨q, 2, none⟩ = some (.string nm)) :
    Calls Tryd.prog 65 #[lv, .func (.func 66) #[] #[.pointer (some ⟨q, 0, none⟩)]] W fun e w' => e = .returned (.bool (decide (0 ≤ lidx ls nm 0))) ∧ Below W.heap.size W w' := by
  have IC := Lib.hid (lindex66 W B q lv ls nm hr hl hq hc)
  clear hr hl hq hc
  go_enter Tryd.func65, Tryd.ntmps65
  go_wp2_with (first | (go_at_call 63; (with_reducible refine IC.out.mono ?_); rintro e v1 ⟨rfl, g1⟩; have G1 := Lib.hid g1; clear g1))
  go_ret
  exact ⟨by first | rfl | simp, G1.out⟩
end Go.Proofs.YtlenhcmgcgccmaaDoor
namespace Go.Proofs.YtlenhcmgcgccmaaDoor
open Go.RowKit Go
set_option linter.unusedVariables false
set_option linter.unusedSimpArgs false
theorem WIn.refn {w : World} {B : Nat} {ms : List Nat} {E : Env} {o : Out} {R : Rw} (h : WIn w B ms E o R) (fn lp : Nat) (hf : fn < o.scopes.length) : WIn w B ms { E with fn := fn, loops := lp } o R :=
  ⟨h.sz, h.sc, h.vr, h.us, h.bl, h.lb, h.mlen, h.maps, h.nod, hf, h.scv⟩
theorem WAt.loops {w : World} {p B : Nat} {ms : List Nat} {E : Env} {o : Out} {R : Rw} (h : WAt w p B ms E o R) (k : Nat) : WAt (w.setCell ⟨p, 6, none⟩ (.int .i64 (k : Int))) p B ms { E with loops := k } o R :=
  ⟨h.hp, h.blk.set_ 6 _, (h.inn.recd h.blk 6 _).refn E.fn k h.inn.fnlt, h.ent⟩
/-- a walk's world, on the way. -/
def Sq (w : World) (p B : Nat) (ms : List Nat) (E : Env) (R : Rw) (v : World) (o : Out) : Prop := ∃ R', WAt v p B ms E o R' ∧ Fr (Ft p R) w v ∧ Gr w.heap.size p R R'
theorem WP.trans {w v : World} {p B : Nat} {ms : List Nat} {E : Env} {R R' : Rw} {r : Except Er Out} {e : Ending} {v' : World} (hb : Below B w v) (f : Fr (Ft p R) w v) (g : Gr w.heap.size p R R') (k : WP v p B ms E R' r e v') : WP w p B ms E R r e v' :=
  ⟨fun x hx => by
    obtain ⟨h1, R2, h2, h3, h4⟩ := k.1 x hx
    exact ⟨h1, R2, h2, f.trans h3 g, g.trans h4 f.size⟩, fun c hc => ⟨(k.2 c hc).1, hb.trans (k.2 c hc).2⟩⟩
theorem WP.errC {f : Nat} {args : Array Value} {v w : World} {p B : Nat} {ms : List Nat} {E : Env} {R : Rw} {r : Except Er Out} {c : Er} (h : Calls Tryd.prog f args v (WP w p B ms E R r)) (hr : r = .error c) : Calls Tryd.prog f args v fun e v' => e = bad c ∧ Below B w v' := h.mono fun e w' hh => hh.2 c hr
theorem WP.okC {f : Nat} {args : Array Value} {v w : World} {p B : Nat} {ms : List Nat} {E : Env} {R : Rw} {r : Except Er Out} {o1 : Out} (h : Calls Tryd.prog f args v (WP w p B ms E R r)) (hr : r = .ok o1) : Calls Tryd.prog f args v fun e v' => (∃ x, e = .returned x) ∧ Sq w p B ms E R v' o1 := h.mono fun e w' hh => hh.1 o1 hr
section
variable {w v : World} {p B : Nat} {ms ms0 : List Nat} {E E0 : Env} {o o0 : Out} {R : Rw}
theorem Sq.refl (h : WAt w p B ms E o R) : Sq w p B ms E R w o := ⟨R, h, Fr.refl _ _, Gr.refl _ _ _⟩
theorem Sq.below (h0 : WAt w p B ms0 E0 o0 R) (hs : Sq w p B ms E R v o) : Below B w v := by
  obtain ⟨R', a, f, g⟩ := hs
  exact h0.under f
theorem Sq.fr (hs : Sq w p B ms E R v o) {v' : World} (hb : Below v.heap.size v v') : Sq w p B ms E R v' o := by
  obtain ⟨R', a, f, g⟩ := hs
  exact ⟨R', a.fr hb, f.tr (Fr.of_below hb), g⟩
theorem Sq.alloc (hs : Sq w p B ms E R v o) (x : Obj) : Sq w p B ms E R (v.alloc x) o := hs.fr (below_alloc (Below.refl _ _))
theorem Sq.drew (hs : Sq w p B ms E R v o) : Sq w p B ms E R v.drew o := hs.fr (Below.refl _ _).drew
/-- a local variable's block stays. -/
theorem Sq.blk (h0 : WAt w p B ms0 E0 o0 R) (hs : Sq w p B ms E R v o) {b : Nat} {t : TypeId} {cs : Array Value} (hb : Blk w b t cs) (ht : t ≠ 64 ∧ t ≠ 41 ∧ t ≠ 44 ∧ t ≠ 46 ∧ t ≠ 78 ∧ t ≠ 99) : Blk v b t cs := by
  obtain ⟨R', a, f, g⟩ := hs
  exact f.blk hb (h0.not_ft hb ht)
theorem Sq.cel (h0 : WAt w p B ms0 E0 o0 R) (hs : Sq w p B ms E R v o) {b : Nat} {t : TypeId} {cs : Array Value} (hb : Blk w b t cs) (ht : t ≠ 64 ∧ t ≠ 41 ∧ t ≠ 44 ∧ t ≠ 46 ∧ t ≠ 78 ∧ t ≠ 99) (j : Nat) {u : Value} (hj : cs[j]? = some u) : v.cell? ⟨b, j, none⟩ = some u := ((Sq.blk h0 hs hb ht).cell j).trans hj
theorem Sq.old (h0 : WAt w p B ms0 E0 o0 R) (hs : Sq w p B ms E R v o) {b j : Nat} {u : Value} (hb : b < B) (hj : w.cell? ⟨b, j, none⟩ = some u) : v.cell? ⟨b, j, none⟩ = some u := ((Sq.below h0 hs).cell (p := ⟨b, j, none⟩) hb).trans hj
theorem Sq.ex {F : WF} {n : Nat} (G : GoodW F n) (h0 : WAt w p B ms0 E0 o0 R) (hs : Sq w p B ms E R v o) (hne : 0 < E.blocks.length) {t : Tr} {kv : Value} (hbd : bnd E o + 9 * t.size ≤ 2000000) (hk : KidsAt w B kv t.kids) (hwf : t.wf1) (hd : t.fitsD n = true) (hok : OkX t) :
    Calls Tryd.prog 41 #[.pointer (some ⟨p, 0, none⟩), .agg #[.int .i64 t.kind, .int .i64 t.at_, .string t.name, .int .u64 t.num, .string t.op, kv]] v (WP w p B ms E R (F.ex E t o)) := by
  obtain ⟨R', a, f, g⟩ := hs
  exact (G.ex v p B ms E o R' t kv a hne hbd (hk.under (h0.under f)) hwf hd hok).mono fun e w' hh => hh.trans (h0.under f) f g
theorem Sq.st {F : WF} {n : Nat} (G : GoodW F n) (h0 : WAt w p B ms0 E0 o0 R) (hs : Sq w p B ms E R v o) (hne : 0 < E.blocks.length) {t : Tr} {kv : Value} (hbd : bnd E o + 9 * t.size ≤ 2000000) (hk : KidsAt w B kv t.kids) (hwf : t.wf1) (hd : t.fitsD n = true) (hok : OkS t) :
    Calls Tryd.prog 28 #[.pointer (some ⟨p, 0, none⟩), .agg #[.int .i64 t.kind, .int .i64 t.at_, .string t.name, .int .u64 t.num, .string t.op, kv]] v (WP w p B ms E R (F.st E t o)) := by
  obtain ⟨R', a, f, g⟩ := hs
  exact (G.st v p B ms E o R' t kv a hne hbd (hk.under (h0.under f)) hwf hd hok).mono fun e w' hh => hh.trans (h0.under f) f g
end
set_option maxRecDepth 100000 in
set_option maxHeartbeats 8000000 in
theorem loop_calls {F : WF} {n : Nat} (G : GoodW F n) (w : World) (p B : Nat) (ms : List Nat) (E : Env) (o : Out) (R : Rw) (t : Tr) (kv : Value) (h : WAt w p B ms E o R) (hne : 0 < E.blocks.length) (hbd : bnd E o + 1 + 9 * t.size ≤ 2000000) (hk : KidsAt w B kv t.kids) (hwf : t.wf1) (hd : t.fitsD n = true) (hok : OkS t) :
    WCall 42 w p B ms E R t kv (F.st E.inc t o) := by
  unfold WCall
  obtain ⟨A, cap, rfl, hcl, hcm, hA⟩ := hk.slice
  obtain ⟨U, hU⟩ : ∃ U, w.alloc (.cells #[.int .i64 t.kind, .int .i64 t.at_, .string t.name, .int .u64 t.num, .string t.op, .slice A t.kids.length cap] 31) = U := ⟨_, rfl⟩
  have W1 : Below w.heap.size w U := by rw [← hU]; exact below_alloc (Below.refl _ _)
  have h1 := h.fr W1
  have s1 : Sq w p B ms E.inc R (U.setCell ⟨p, 6, none⟩ (.int .i64 ((E.loops + 1 : Nat) : Int))) o := ⟨R, h1.loops (E.loops + 1), (Fr.of_below W1).set (p := p) (i := 6) (.inl (.inl rfl)) _, Gr.refl _ _ _⟩
  have hb8 : Blk U w.heap.size 31 #[.int .i64 t.kind, .int .i64 t.at_, .string t.name, .int .u64 t.num, .string t.op, .slice A t.kids.length cap] := by rw [← hU]; exact Blk.new _ _ _
  have hnp : w.heap.size ≠ p := by have := h.blk.lt; omega
  have b9 := hb8.far (p := ⟨p, 6, none⟩) hnp (.int .i64 ((E.loops + 1 : Nat) : Int))
  have e0 := b9.cell 0
  have e1 := b9.cell 1
  have e2 := b9.cell 2
  have e3 := b9.cell 3
  have e4 := b9.cell 4
  have e5 := b9.cell 5
  have hr := h1.blk
  have r6 := hr.cell 6
  have rf6 := hr.frozen 6
  simp only [List.getElem?_toArray, List.getElem?_cons_succ, List.getElem?_cons_zero] at e0 e1 e2 e3 e4 e5 r6
  have hlp : E.loops ≤ 2000000 := by unfold bnd at hbd; omega
  have hw : IntKind.i64.wrap ((E.loops : Int) + 1) = ((E.loops + 1 : Nat) : Int) := by rw [IntKind.wrap_i64]; omega
  have hw2 : IntKind.i64.wrap (((E.loops + 1 : Nat) : Int) - 1) = (E.loops : Int) := by rw [IntKind.wrap_i64]; omega
  have CC := s1.st G h hne (by simp only [bnd, Env.inc] at hbd ⊢; omega) hk hwf hd hok
  have HW := Lib.hid h
  clear h hne hbd hk hwf hd hok W1 h1 s1 hb8 b9 hr hcl hcm hA G hlp
  generalize hx : ((E.loops + 1 : Nat) : Int) = x at *
  cases hr : F.st E.inc t o with
  | error c =>
    have CC := Lib.hid (WP.errC CC hr)
    have HE := Lib.hid hr
    clear hr
    obtain ⟨c1, c2⟩ := c
    unfold bad at CC
    subst hU
    go_enter Tryd.func42, Tryd.ntmps42
    go_wp2_with (first | (go_at_call 28; (with_reducible refine CC.out.mono ?_); rintro e v1 ⟨rfl, g1⟩; have G1 := Lib.hid g1; clear g1))
    exact ⟨rfl, WP.err rfl ⟨rfl, G1.out⟩⟩
  | ok o1 =>
    have CC := Lib.hid (WP.okC CC hr)
    have HE := Lib.hid hr
    have HX := Lib.hid hx
    clear hr hx
    subst hU
    go_enter Tryd.func42, Tryd.ntmps42
    go_wp2_with (first | (go_at_call 28; (with_reducible refine CC.out.mono ?_); rintro e v1 ⟨⟨v, rfl⟩, R1, g1, g2, g3⟩; have hb1 := g1.blk; have z6 := hb1.cell 6; have zf6 := hb1.frozen 6; simp only [List.getElem?_toArray, List.getElem?_cons_succ, List.getElem?_cons_zero, Env.inc, HX.out] at z6; have G1 := Lib.hid g1; have G2 := Lib.hid g2; have G3 := Lib.hid g3; clear g1 g2 g3 hb1))
    first | go_end0 | (refine bodyPost_ret (results_none rfl _ _ _) rfl ?_)
    exact WP.ok rfl ⟨⟨_, rfl⟩, R1, G1.out.loops E.loops, G2.out.set (p := p) (i := 6) (.inl (.inl rfl)) _, G3.out⟩
end Go.Proofs.YtlenhcmgcgccmaaDoor
