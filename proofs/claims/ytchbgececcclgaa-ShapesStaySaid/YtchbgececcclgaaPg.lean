/- Shapes: Change, Find, Proto, New walked. -/
import Derived.Test.YtchbgececcclgaaPf
namespace Go.Proofs.Ytchbgececcclgaa
open Go.RowKit Go
set_option linter.unusedVariables false
set_option linter.unusedSimpArgs false
/-- what a walk that looks at one shape leans on. -/
structure One (w : World) (B g i m : Nat) (x : Sh) (gs cv dn dc dm : Nat) (dp : Int) (dA : Option Addr) : Prop where
  c1 : w.cell? ⟨g, 1, none⟩ = some (.slice (some ⟨gs, 0, none⟩) m cv)
  e0 : w.cell? ⟨gs, i * 3, none⟩ = some (.int .u64 dp)
  e1 : w.cell? ⟨gs, i * 3 + 1, none⟩ = some (.slice dA dn dc)
  e2 : w.cell? ⟨gs, i * 3 + 2, none⟩ = some (.map (some dm))
  lt : (i : Int) < (m : Int)
  fix : Fix B w 2 dA dn (x.l.flatMap pv)
  n : dn ≤ 1000000000000
  len : dn = x.l.length
  p : dp = x.p
  gl : g < w.heap.size
  gsl : gs < w.heap.size
  base : B ≤ w.heap.size
theorem tree_there {w : World} {B g : Nat} {most : Int} {L : List Sh} (h : TreeIs w B g most L) (n : Int) :
    Calls Try.prog 23 #[.pointer (some ⟨g, 0, none⟩), .int .i64 n] w fun r w' => r = .returned (.bool (getI L n).isSome) ∧ w = w' := by
  obtain ⟨v, D, rb, R, hr, lk⟩ := h
  have HTh := there_calls w B g most v D rb R hr n
  rwa [getI_there lk.len] at HTh
theorem tree_count {w : World} {B g : Nat} {most : Int} {L : List Sh} (h : TreeIs w B g most L) :
    Calls Try.prog 11 #[.pointer (some ⟨g, 0, none⟩)] w fun r w' => r = .returned (.int .i64 (L.length : Nat)) ∧ w = w' := by
  obtain ⟨v, D, rb, R, hr, lk⟩ := h
  have HTh := count_calls w B g most v D rb R hr
  rwa [lk.len] at HTh
theorem tree_one {w : World} {B g : Nat} {most : Int} {L : List Sh} (h : TreeIs w B g most L) (hW : WF L) (hb : L.length ≤ 1000000000000) {i : Nat} {x : Sh} (hx : L[i]? = some x) : ∃ gs cv dn dc dm dp dA, One w B g i L.length x gs cv dn dc dm dp dA := by
  obtain ⟨v, D, rb, R, hr, lk⟩ := h
  obtain ⟨d, hd, d1, d2, d3⟩ := lk.get hx
  have nd := hr.node d (List.mem_of_getElem? hd)
  obtain ⟨gs, cv, rfl, e0, e1, e2⟩ := hr.at_ hd
  obtain ⟨c0, c1, c2⟩ := hr.c0
  have hdep := (hW.depth i x hx).1
  have hlt := (List.getElem?_eq_some_iff.1 hx).1
  have hln : d.n = x.l.length := by rw [← d2]; exact (reads_len pv_len (by decide) nd.l.1).symm
  rw [lk.len] at c1
  exact ⟨gs, cv, d.n, d.c, d.m, d.p, d.A, c1, e0, e1, e2, by omega, d2 ▸ nd.l, by omega, hln, d1, hr.blk.lt, World.block_lt_of_cell? w _ e0, hr.base⟩
theorem One.prop {w : World} {B g i m : Nat} {x : Sh} {gs cv dn dc dm : Nat} {dp : Int} {dA : Option Addr} (h : One w B g i m x gs cv dn dc dm dp dA) {j : Nat} {q : Pr} (hq : x.l[j]? = some q) : ∃ b off, dA = some ⟨b, off, none⟩ ∧ b < w.heap.size ∧ w.cell? ⟨b, off + j * 2, none⟩ = some (.string q.k) ∧ w.cell? ⟨b, off + j * 2 + 1, none⟩ = some (.int .i64 q.f) ∧ (j : Int) < (dn : Int) := by
  obtain ⟨b, off, hA, hb, hc⟩ := reads_get pv_len (by decide) h.fix.1 hq
  have := (List.getElem?_eq_some_iff.1 hq).1
  exact ⟨b, off, hA, hb, hc 0 _ rfl, hc 1 _ rfl, by rw [h.len]; omega⟩
theorem pv_set {l : List Pr} {j : Nat} {q : Pr} (hq : l[j]? = some q) (f : Int) : (l.flatMap pv).set (j * 2 + 1) (.int .i64 f) = (l.set j ⟨q.k, f⟩).flatMap pv := by
  induction l generalizing j with
  | nil => simp at hq
  | cons y l ih =>
    cases j with
    | zero => simp at hq; subst hq; rfl
    | succ j =>
      rw [show (j + 1) * 2 + 1 = (j * 2 + 1) + 1 + 1 by omega]
      simp only [List.flatMap_cons, pv, List.cons_append, List.nil_append, List.set_cons_succ]
      rw [ih (by simpa using hq)]
theorem own_fro {w : World} {base g n c s : Nat} {e : TypeId} {xs : List Value} (h : w.ownsRow base e s (.slice (some ⟨g, 0, none⟩) n c) n xs) (i : Nat) : w.frozen? ⟨g, i, none⟩ = false := by
  rcases h.2 with ⟨h1, _⟩ | ⟨g', cap, cur, h1, _, h3, _⟩
  · cases h1
  · cases h1; exact Blk.frozen (t := e) h3 i
theorem plc_case (k : ByteArray) (l : List Pr) : plc k 0 l = -1 ∨ ∃ (j : Nat) (q : Pr), plc k 0 l = (j : Int) ∧ l[j]? = some q ∧ q.k = k ∧ flagAt l (plc k 0 l) = q.f := by
  rcases plc_lo k 0 l with h | ⟨h, _⟩
  · exact .inl h
  · obtain ⟨j, q, e, hq, hk⟩ := plc_at (i := plc k 0 l) rfl (by omega)
    refine .inr ⟨j, q, by omega, hq, hk, ?_⟩
    rw [e]
    simp [flagAt, hq]
def findP (L : List Sh) (n : Int) (k : ByteArray) : Int × Int × Bool :=
  match getI L n with
  | none => (0, 0, false)
  | some x => if plc k 0 x.l < 0 then (0, 0, false) else (plc k 0 x.l, flagAt x.l (plc k 0 x.l), true)
set_option maxRecDepth 100000 in
set_option maxHeartbeats 4000000 in
theorem find_calls (w : World) (B g : Nat) (most : Int) (L : List Sh) (h : TreeIs w B g most L) (hW : WF L) (n : Int) (k : ByteArray) (hb : L.length ≤ 1000000000000) :
    Calls Try.prog 13 #[.pointer (some ⟨g, 0, none⟩), .int .i64 n, .string k] w fun e w' => e = .returned (.tuple #[.int .i64 (findP L n k).1, .int .i64 (findP L n k).2.1, .bool (findP L n k).2.2]) ∧ Below w.heap.size w w' := by
  have HTh := tree_there h n
  cases e : getI L n with
  | none =>
    have hres : findP L n k = (0, 0, false) := by unfold findP; rw [e]
    rw [hres]
    rw [e] at HTh
    have HTh := Lib.hid HTh
    clear h e hW hb hres
    go_enter Try.func13, Try.ntmps13
    go_wp2_with (first | (go_at_call 23; (with_reducible refine HTh.out.mono ?_); rintro e w1 ⟨rfl, rfl⟩))
    go_ret3
    exact ⟨rfl, Below.refl _ _⟩
  | some x =>
    rw [e] at HTh
    have HTh := Lib.hid HTh
    obtain ⟨h0, hx, hlt⟩ := getI_some e
    obtain ⟨i, rfl⟩ : ∃ i : Nat, n = i := ⟨n.toNat, by omega⟩
    simp only [Int.toNat_natCast] at hx
    obtain ⟨gs, cv, dn, dc, dm, dp, dA, o⟩ := tree_one h hW hb hx
    have hP := place_calls w dp (some dm) k dA dn dc x.l o.fix.1 (by have := o.n; omega)
    have c1 := o.c1
    have e0 := o.e0
    have e1 := o.e1
    have e2 := o.e2
    have hi2 := o.lt
    clear h hW hb hlt h0 hx
    rcases plc_case k x.l with hp | ⟨j, q, hp, hq, hk, hfl⟩
    · have hres : findP L i k = (0, 0, false) := by unfold findP; rw [e]; simp only; rw [hp, if_pos (by omega)]
      rw [hres]
      rw [hp] at hP
      have K := Lib.hid hP
      clear hp hP o e hres
      go_enter Try.func13, Try.ntmps13
      go_wp2_with (first | (go_at_call 23; (with_reducible refine HTh.out.mono ?_); rintro e w1 ⟨rfl, rfl⟩) | (go_at_call 24; (with_reducible refine K.out.mono ?_); rintro e w1 ⟨rfl, hb1⟩))
      go_ret3
      exact ⟨rfl, hb1⟩
    · have hres : findP L i k = ((j : Int), q.f, true) := by unfold findP; rw [e]; simp only; rw [hfl, hp, if_neg (by omega)]
      rw [hres]
      rw [hp] at hP
      obtain ⟨b, off, rfl, hbl, q0, q1, hj⟩ := o.prop hq
      have K := Lib.hid hP
      have O := Lib.hid o
      have hbl := Lib.hid hbl
      clear hp hP o hfl hk hq e hres
      have hjn : ¬ ((j : Int) < 0) := by omega
      go_enter Try.func13, Try.ntmps13
      go_wp2_with (first | (go_at_call 23; (with_reducible refine HTh.out.mono ?_); rintro e w1 ⟨rfl, rfl⟩) | (go_at_call 24; (with_reducible refine K.out.mono ?_); rintro e w1 ⟨rfl, hb1⟩))
      have c1' : w1.cell? ⟨g, 1, none⟩ = _ := (hb1.cell (p := ⟨g, 1, none⟩) O.out.gl).trans c1
      have e1' : w1.cell? ⟨gs, i * 3 + 1, none⟩ = _ := (hb1.cell (p := ⟨gs, i * 3 + 1, none⟩) O.out.gsl).trans e1
      have q1' : w1.cell? ⟨b, off + j * 2 + 1, none⟩ = _ := (hb1.cell (p := ⟨b, off + j * 2 + 1, none⟩) hbl.out).trans q1
      have HB1 := Lib.hid hb1
      clear c1 e0 e1 e2 q0 q1 hb1 K HTh
      go_quiet (fail)
      go_wp2
      go_ret3
      exact ⟨rfl, HB1.out.trans ((below_drewN _ _).mono HB1.out.size)⟩
def protoP (L : List Sh) (n : Int) : Int × Bool :=
  match getI L n with
  | none => (0, false)
  | some x => (x.p, true)
set_option maxRecDepth 100000 in
theorem proto_calls (w : World) (B g : Nat) (most : Int) (L : List Sh) (h : TreeIs w B g most L) (hW : WF L) (n : Int) (hb : L.length ≤ 1000000000000) :
    Calls Try.prog 14 #[.pointer (some ⟨g, 0, none⟩), .int .i64 n] w fun e w' => e = .returned (.tuple #[.int .u64 (protoP L n).1, .bool (protoP L n).2]) ∧ w = w' := by
  have HTh := tree_there h n
  unfold protoP
  cases e : getI L n with
  | none =>
    rw [e] at HTh
    have HTh := Lib.hid HTh
    clear h e hW hb
    go_enter Try.func14, Try.ntmps14
    go_wp2_with (first | (go_at_call 23; (with_reducible refine HTh.out.mono ?_); rintro e w1 ⟨rfl, rfl⟩))
    go_ret2
    exact ⟨rfl, rfl⟩
  | some x =>
    rw [e] at HTh
    have HTh := Lib.hid HTh
    obtain ⟨h0, hx, hlt⟩ := getI_some e
    obtain ⟨i, rfl⟩ : ∃ i : Nat, n = i := ⟨n.toNat, by omega⟩
    simp only [Int.toNat_natCast] at hx
    obtain ⟨gs, cv, dn, dc, dm, dp, dA, o⟩ := tree_one h hW hb hx
    have c1 := o.c1
    have e0 := o.e0
    have hi2 := o.lt
    have hp := o.p
    subst hp
    clear h hW hb e hlt h0 hx o
    go_enter Try.func14, Try.ntmps14
    go_wp2_with (first | (go_at_call 23; (with_reducible refine HTh.out.mono ?_); rintro e w1 ⟨rfl, rfl⟩))
    go_ret2
    exact ⟨rfl, rfl⟩
set_option maxRecDepth 100000 in
set_option maxHeartbeats 8000000 in
theorem change_calls (w : World) (B g : Nat) (most : Int) (L : List Sh) (h : TreeIs w B g most L) (hW : WF L) (n : Int) (k : ByteArray) (f : Int) (hk : okK k) (hf : okF f) (hb : L.length ≤ 1000000000000) :
    Calls Try.prog 18 #[.pointer (some ⟨g, 0, none⟩), .int .i64 n, .string k, .int .i64 f] w (Gives w B g most (chgP most L n k f)) := by
  have H := Lib.hid h
  have HTh := tree_there h n
  cases e : getI L n with
  | none =>
    rw [e] at HTh
    have HTh := Lib.hid HTh
    have hres : chgP most L n k f = (L, 0, false) := by unfold chgP; rw [e]
    rw [hres]
    clear h hres e hW hk hf hb
    go_enter Try.func18, Try.ntmps18
    go_wp2_with (first | (go_at_call 23; (with_reducible refine HTh.out.mono ?_); rintro e w1 ⟨rfl, rfl⟩))
    go_ret2
    exact ⟨rfl, H.out, Kept.refl _ _⟩
  | some x =>
    rw [e] at HTh
    have HTh := Lib.hid HTh
    obtain ⟨h0, hx, hlt⟩ := getI_some e
    obtain ⟨i, rfl⟩ : ∃ i : Nat, n = i := ⟨n.toNat, by omega⟩
    simp only [Int.toNat_natCast] at hx
    obtain ⟨gs, cv, dn, dc, dm, dp, dA, o⟩ := tree_one h hW hb hx
    have hP := place_calls w dp (some dm) k dA dn dc x.l o.fix.1 (by have := o.n; omega)
    have c1 := o.c1
    have e0 := o.e0
    have e1 := o.e1
    have e2 := o.e2
    have hi2 := o.lt
    have HB := Lib.hid o.base
    rcases plc_case k x.l with hp | ⟨j, q, hp, hq, hqk, hfl⟩
    · have hres : chgP most L i k f = (L, 0, false) := by unfold chgP; rw [e]; simp only; rw [hp, if_pos (by omega)]
      rw [hres]
      rw [hp] at hP
      have K := Lib.hid hP
      clear hp hP o h hW hb e hlt h0 hx hres hk hf
      go_enter Try.func18, Try.ntmps18
      go_wp2_with (first | (go_at_call 23; (with_reducible refine HTh.out.mono ?_); rintro e w1 ⟨rfl, rfl⟩) | (go_at_call 24; (with_reducible refine K.out.mono ?_); rintro e w1 ⟨rfl, hb1⟩))
      go_ret2
      exact ⟨rfl, H.out.below hb1, Kept.below hb1 HB.out⟩
    · have hres : chgP most L i k f = if q.f = f then (L, (i : Int), true) else layP most L (chgS x j k f) := by
        unfold chgP; rw [e]; simp only; rw [hfl, hp, if_neg (by omega)]; simp
      rw [hp] at hP
      obtain ⟨b, off, rfl, hbl, q0, q1, hj⟩ := o.prop hq
      have K := Lib.hid hP
      have O := Lib.hid o
      have hbl := Lib.hid hbl
      have hjn : ¬ ((j : Int) < 0) := by omega
      have HX := Lib.hid hx
      clear hp hP o hfl e hlt h0 hx
      by_cases hqf : q.f = f
      · rw [if_pos hqf] at hres
        have HRes := Lib.hid hres
        clear hres hq hqk h hW hb hk hf
        subst hqf
        go_enter Try.func18, Try.ntmps18
        go_wp2_with (first | (go_at_call 23; (with_reducible refine HTh.out.mono ?_); rintro e w1 ⟨rfl, rfl⟩) | (go_at_call 24; (with_reducible refine K.out.mono ?_); rintro e w1 ⟨rfl, hb1⟩; have c1' : w1.cell? ⟨g, 1, none⟩ = _ := (hb1.cell (p := ⟨g, 1, none⟩) O.out.gl).trans c1; have e1' : w1.cell? ⟨gs, i * 3 + 1, none⟩ = _ := (hb1.cell (p := ⟨gs, i * 3 + 1, none⟩) O.out.gsl).trans e1; have q1' : w1.cell? ⟨b, off + j * 2 + 1, none⟩ = _ := (hb1.cell (p := ⟨b, off + j * 2 + 1, none⟩) hbl.out).trans q1; have HB1 := Lib.hid hb1; clear hb1))
        go_ret2
        exact ⟨by rw [HRes.out]; rfl, by rw [HRes.out]; exact H.out.below HB1.out, Kept.below HB1.out HB.out⟩
      · rw [if_neg hqf] at hres
        have HRes := Lib.hid hres
        have WC := Lib.hid (fun (w2 : World) (A2 : Option Addr) (n2 c2 : Nat) (hT : TreeIs w2 B g most L) (hl : Fix B w2 2 A2 n2 ((x.l.set j ⟨k, f⟩).flatMap pv)) => show Calls Try.prog 25 #[.pointer (some ⟨g, 0, none⟩), .int .i64 i, .agg #[.bool true, .string k, .int .i64 f], .slice A2 n2 c2] w2 (Gives w2 B g most (layP most L (chgS x j k f))) from way_calls w2 B g most L hT hW i x HX.out ⟨true, k, f⟩ hk hf A2 n2 c2 (x.l.set j ⟨k, f⟩) hl hb)
        have hne : (q.f == f) = false := by simpa using hqf
        subst hqk
        have HQ := Lib.hid hq
        have hset := Lib.hid (pv_set hq f)
        have HG := Lib.hid (flt_get pv_len (j := 0) hq rfl)
        have HG1 := Lib.hid (flt_get pv_len (j := 1) hq rfl)
        have CK := Lib.hid (fun (w1 : World) (b1 : Below w.heap.size w w1) => clone_calls w1 (some ⟨b, off, none⟩) dn dc x.l (O.out.fix.keep (Kept.below b1 HB.out)).1 O.out.n)
        clear hres hq h hW hb hk hf hqf
        go_enter Try.func18, Try.ntmps18
        go_wp2_with (first | (go_at_call 23; (with_reducible refine HTh.out.mono ?_); rintro e w1 ⟨rfl, rfl⟩) | (go_at_call 24; (with_reducible refine K.out.mono ?_); rintro e w1 ⟨rfl, hb1⟩; have c1' : w1.cell? ⟨g, 1, none⟩ = _ := (hb1.cell (p := ⟨g, 1, none⟩) O.out.gl).trans c1; have e1' : w1.cell? ⟨gs, i * 3 + 1, none⟩ = _ := (hb1.cell (p := ⟨gs, i * 3 + 1, none⟩) O.out.gsl).trans e1; have q1' : w1.cell? ⟨b, off + j * 2 + 1, none⟩ = _ := (hb1.cell (p := ⟨b, off + j * 2 + 1, none⟩) hbl.out).trans q1; have HB1 := Lib.hid hb1; clear hb1) | (go_at_call 26; (with_reducible refine (CK.out _ HB1.out).mono ?_); rintro e w2 ⟨v2, rfl, oc, bc⟩; obtain ⟨ga, ca, rfl, hcs⟩ := own_get pv_len (by decide) oc HQ.out; have s0 : w2.cell? ⟨ga, j * 2, none⟩ = _ := hcs 0 _ rfl; have s1 : w2.cell? ⟨ga, j * 2 + 1, none⟩ = _ := hcs 1 _ rfl; have s2 := own_fro oc (j * 2 + 1); have own3 := Lib.hid (oc.stored (j * 2 + 1) (.int .i64 f)).1; have b3 : Below w.heap.size w (w2.setCell ⟨ga, j * 2 + 1, none⟩ (.int .i64 f)) := (HB1.out.trans (bc.mono HB1.out.size)).setCell (p := ⟨ga, j * 2 + 1, none⟩) (Nat.le_trans HB1.out.size (oc.lt ga rfl).1) _; have b3 := Lib.hid b3; clear oc hcs bc c1' e1' q1') | (go_at_call 25; (with_reducible refine (WC.out _ _ dn ca (H.out.below b3.out) (Fix.of_own (by decide) (hset.out ▸ own3.out))).mono ?_); rintro e w9 ⟨rfl, ht, k9⟩))
        go_ret2
        exact ⟨by rw [HRes.out]; rfl, by rw [HRes.out]; exact ht, (Kept.below b3.out HB.out).trans k9⟩
end Go.Proofs.Ytchbgececcclgaa
