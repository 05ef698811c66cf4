/- Shapes: Root and way walked. -/
import Derived.Test.YtchbgececcclgaaPd
namespace Go.Proofs.Ytchbgececcclgaa
open Go.RowKit Go
set_option linter.unusedVariables false
set_option linter.unusedSimpArgs false
def Gives (w : World) (B g : Nat) (most : Int) (r : Res) (e : Ending) (w' : World) : Prop := e = .returned (.tuple #[.int .i64 r.2.1, .bool r.2.2]) ∧ TreeIs w' B g most r.1 ∧ Kept B w w'
theorem wpList_mapUpdate_is {w : World} {ops : Array Oper} {rest : List Oper} {o : Oper} {a : Act} {Q : Exit → Act → World → Prop} (hg : o.guard = none) (m x v : Operand) (t : TypeId) (hop : o.op = Op.mapUpdate t m x v)
    (k e : TypeId) (K : Maps.Keyed Try.prog k) (ht : Try.prog.underlying t = some (.map k e)) (b : Nat) (es : List (Value × Value)) (hm : a.eval m = .map (some b)) (h : MapIs w k b es) (key val : Value) (hx : a.eval x = key) (hv : a.eval v = val) (hkey : ∃ kl, keyOf Try.prog k key = some kl) (hn : ∀ y ∈ es, y.1 ≠ key)
    (hK : ∀ w', MapIs w' k b (es ++ [(key, val)]) → w.grownBy w' (some b) → wpList Try.prog ops Q rest (a.put o.dst undef) w') :
    wpList Try.prog ops Q (o :: rest) a w := by
  refine wpList_plain hg fun K' hK' => ?_
  obtain ⟨kl, hkey⟩ := hkey
  obtain ⟨w', hrun, r1, r2⟩ := h.push K ht hkey hn
  unfold Oper.wp
  simp [execOp, hop, hm, hx, hv, Result.andThen]
  rw [hrun]
  exact hK' _ _ (hK w' r1 r2)
set_option maxRecDepth 100000 in
set_option maxHeartbeats 4000000 in
theorem root_calls (w : World) (B g : Nat) (most : Int) (L : List Sh) (h : TreeIs w B g most L) (hW : WF L) (p : Int) (hp : okU p) (hb : L.length ≤ 1000000000000) :
    Calls Try.prog 15 #[.pointer (some ⟨g, 0, none⟩), .int .u64 p] w (Gives w B g most (rootP most L p)) := by
  obtain ⟨v, D, rb, R, hr, lk⟩ := h
  obtain ⟨c0, c1, c2⟩ := hr.c0
  rcases hr.roots.look law23 Try.underlying48 (zero3 w) (key23 hp) with ⟨hrun, hno⟩ | ⟨u, hmem, hrun⟩
  · have hno' := hno
    rw [lk.roots] at hno
    have hf := roots_no hno
    by_cases hm : most ≤ (D.length : Int)
    · have K := Lib.hid (lay_full w B g most v D rb R hr p none 0 0 hm)
      have hres : rootP most L p = (L, 0, false) := by unfold rootP layP; rw [hf]; simp only; rw [if_pos (by rw [← lk.len]; exact hm)]
      rw [hres]
      have H := Lib.hid (show TreeIs w B g most L from ⟨v, D, rb, R, hr, lk⟩)
      have HB := Lib.hid hr.base
      clear hr lk hno hno' hf hres hW hm hb hp
      go_enter Try.func15, Try.ntmps15
      go_wp2_with (first | (go_at_call 27; (with_reducible refine K.out.mono ?_); rintro e w1 ⟨rfl, hb1⟩))
      go_ret2
      exact ⟨rfl, H.out.below hb1, Kept.below hb1 HB.out⟩
    · have K := Lib.hid (lay_more w B g most v D rb R hr p none 0 0 [] (Fix.none_ _ _ _) hm (by rw [lk.len]; exact hb))
      have hres : rootP most L p = (L ++ [⟨p, [], []⟩], (D.length : Int), true) := by unfold rootP layP; rw [hf]; simp only; rw [if_neg (by rw [← lk.len]; exact hm), lk.len]
      have HR := Lib.hid hr
      have HL := Lib.hid (fun nd h1 h2 h3 => lk.root hW hf (nd := nd) h1 h2 h3)
      have HN := Lib.hid hno'
      have HK := Lib.hid (key23 hp)
      have HE := Lib.hid lk.len
      rw [hres]
      clear hr lk hno hno' hf hres hW hm hb hp
      obtain ⟨m, hD⟩ : ∃ m, D.length = m := ⟨_, rfl⟩
      rw [hD] at HE K ⊢
      have HD := Lib.hid hD
      clear hD
      go_enter Try.func15, Try.ntmps15
      go_wp2_with (first | (go_at_call 27; (with_reducible refine K.out.mono ?_); rintro e w1 ⟨rfl, v1, mb, R1, K1⟩; have d2 := R1.c0.2.2; have M1 := Lib.hid R1.roots; replace R1 := Lib.hid R1; replace K1 := Lib.hid K1) | (refine wpList_mapUpdate_is rfl _ _ _ 48 rfl 23 3 law23 Try.underlying48 rb R rfl M1.out _ _ rfl rfl ⟨_, HK.out⟩ HN.out ?_; intro w2 hm2 hg2; obtain ⟨R2, K2⟩ := R1.out.root hg2 hm2; replace R2 := Lib.hid R2; replace K2 := Lib.hid K2; clear hm2 hg2 d2))
      go_ret2
      refine ⟨rfl, ⟨_, _, _, _, R2.out, ?_⟩, K1.out.trans K2.out⟩
      have := HL.out ⟨p, none, 0, 0, mb, [], []⟩ rfl rfl rfl
      rw [← HE.out] at this
      exact this
  · rw [lk.roots] at hmem
    obtain ⟨j, rfl, hres⟩ := roots_yes hW hmem
    rw [hres]
    have H := Lib.hid (show TreeIs w B g most L from ⟨v, D, rb, R, hr, lk⟩)
    clear hr lk hmem hres hW hb hp
    go_enter Try.func15, Try.ntmps15
    go_wp2
    go_ret2
    exact ⟨rfl, H.out, Kept.refl _ _⟩
abbrev St.o (t : St) : Obj := .cells #[.bool t.c, .string t.k, .int .i64 t.f] 69
theorem below_drewN (w : World) (n : Nat) : Below w.heap.size w (w.drewN n) := ⟨rfl, rfl, rfl, Nat.le_refl _, fun _ _ => rfl⟩
theorem MapIs.drew {w : World} {k : TypeId} {b : Nat} {es : List (Value × Value)} (h : MapIs w k b es) : MapIs w.drew k b es := h
theorem nodup_idx {α : Type} {l : List α} (h : l.Nodup) {a b : Nat} {x : α} (ha : l[a]? = some x) (hb : l[b]? = some x) : a = b := by
  obtain ⟨l1, g1⟩ := List.getElem?_eq_some_iff.1 ha
  obtain ⟨l2, g2⟩ := List.getElem?_eq_some_iff.1 hb
  have n1 := List.pairwise_iff_getElem.1 h
  rcases Nat.lt_trichotomy a b with hl | hl | hl
  · exact absurd (g1.trans g2.symm) (n1 a b l1 l2 hl)
  · exact hl
  · exact absurd (g2.trans g1.symm) (n1 b a l2 l1 hl)
theorem look_all {w : World} {k : TypeId} {b : Nat} {es : List (Value × Value)} {t e : TypeId} (h : MapIs w k b es) (K : Maps.Keyed Try.prog k) (ht : Try.prog.underlying t = some (.map k e)) {z : Value} (hz : ∀ w, (zeroValue e).run Try.prog w = .ok z w) {key : Value} {kl : Lit} (hkey : keyOf Try.prog k key = some kl) (hd : (es.map (·.1)).Nodup) :
    ((∀ n, (Instr.lookup t (.map (some b)) key true).run Try.prog (w.drewN n) = .ok (.tuple #[z, .bool false]) (w.drewN n)) ∧ ∀ x ∈ es, x.1 ≠ key) ∨ ∃ v, (key, v) ∈ es ∧ ∀ n, (Instr.lookup t (.map (some b)) key true).run Try.prog (w.drewN n) = .ok (.tuple #[v, .bool true]) (w.drewN n) := by
  have hn : ∀ n, MapIs (w.drewN n) k b es := fun n => h
  rcases (hn 0).look K ht (hz _) hkey with ⟨_, h2⟩ | ⟨v, hv, _⟩
  · refine .inl ⟨fun n => ?_, h2⟩
    rcases (hn n).look K ht (hz _) hkey with ⟨h1, _⟩ | ⟨v, hv, _⟩
    · exact h1
    · exact absurd rfl (h2 _ hv)
  · refine .inr ⟨v, hv, fun n => ?_⟩
    rcases (hn n).look K ht (hz _) hkey with ⟨_, h2⟩ | ⟨v', hv', h1⟩
    · exact absurd rfl (h2 _ hv)
    · have : v' = v := by
        obtain ⟨a, ha⟩ := List.mem_iff_getElem?.1 hv
        obtain ⟨b, hb⟩ := List.mem_iff_getElem?.1 hv'
        have h3 : (es.map (·.1))[a]? = some key := by rw [List.getElem?_map, ha]; rfl
        have h4 : (es.map (·.1))[b]? = some key := by rw [List.getElem?_map, hb]; rfl
        have : a = b := nodup_idx hd h3 h4
        subst this
        rw [ha] at hb
        injection hb with hb
        injection hb with _ hb
        exact hb.symm
      rw [← this]; exact h1
set_option maxRecDepth 100000 in
set_option maxHeartbeats 4000000 in
theorem way_calls (w : World) (B g : Nat) (most : Int) (L : List Sh) (h : TreeIs w B g most L) (hW : WF L) (i : Nat) (x : Sh) (hx : L[i]? = some x) (t : St) (hk : okK t.k) (hf : okF t.f) (A : Option Addr) (m c : Nat) (l : List Pr) (hl : Fix B w 2 A m (l.flatMap pv)) (hb : L.length ≤ 1000000000000) :
    Calls Try.prog 25 #[.pointer (some ⟨g, 0, none⟩), .int .i64 i, t.v, .slice A m c] w (Gives w B g most (layP most L ⟨x.p, l, x.s ++ [t]⟩)) := by
  obtain ⟨v, D, rb, R, hr, lk⟩ := h
  obtain ⟨d, hd, d1, d2, d3⟩ := lk.get hx
  obtain ⟨kl, hkey⟩ := key69 hk hf
  have hi := (List.getElem?_eq_some_iff.1 hx).1
  have b1 : Below w.heap.size w (w.alloc t.o) := (Below.refl _ _).alloc (Nat.le_refl _) _
  have K0 := Kept.below b1 hr.base
  have hr1 := hr.below b1
  have hl1 := hl.keep K0
  have bx := Blk.new w 69 #[.bool t.c, .string t.k, .int .i64 t.f]
  have K0 := Lib.hid K0
  have hi2 : (i : Int) < (D.length : Int) := by rw [lk.len]; omega
  clear hr b1 hl
  unfold St.v St.o at *
  go_enter Try.func25, Try.ntmps25
  go_wp2
  generalize w.alloc (.cells #[.bool t.c, .string t.k, .int .i64 t.f] 69) = w1 at *
  generalize w.heap.size = bo at *
  have hlk := look_all (hr1.node d (List.mem_of_getElem? hd)).e law69 Try.underlying61 zero3 hkey (by rw [d3]; exact kids_nodup hW)
  obtain ⟨gs, cv, hv, e0, e1, e2⟩ := hr1.at_ hd
  obtain ⟨_, c1, _⟩ := hr1.c0
  rw [hv] at c1
  have x0 : w1.cell? ⟨bo, 0, none⟩ = _ := bx.cell 0
  have x1 : w1.cell? ⟨bo, 1, none⟩ = _ := bx.cell 1
  have x2 : w1.cell? ⟨bo, 2, none⟩ = _ := bx.cell 2
  simp at x0 x1 x2
  rw [d1] at e0
  clear e1 hf hv
  rcases hlk with ⟨hrun, hno⟩ | ⟨u, hmem, hrun⟩
  · have HNo := Lib.hid hno
    rw [d3] at hno
    have hfn := kids_no hno
    have HF := Lib.hid hfn
    by_cases hm : most ≤ (D.length : Int)
    · have hres : layP most L ⟨x.p, l, x.s ++ [t]⟩ = (L, 0, false) := by unfold layP; simp only; rw [hfn]; simp only; rw [if_pos (by rw [← lk.len]; exact hm)]
      have HRes := Lib.hid hres
      have H := Lib.hid (show TreeIs w1 B g most L from ⟨_, D, rb, R, hr1, lk⟩)
      have HR1 := Lib.hid hr1
      clear hr1 lk hno hres hW hd d1 d2 d3 hx hk hi hkey bx hl1 hfn
      go_quiet (fail)
      have K := Lib.hid (lay_full (w1.drewN nq) B g most v D rb R (HR1.out.below (below_drewN _ _)) x.p A m c hm)
      clear hm
      go_wp2_with (first | (go_at_call 27; (with_reducible refine K.out.mono ?_); rintro e w2 ⟨rfl, hb1⟩))
      go_ret2
      exact ⟨by rw [HRes.out]; rfl, by rw [HRes.out]; exact (H.out.below (below_drewN _ _)).below hb1, (K0.out.drewN _).trans (Kept.below hb1 (HR1.out.below (below_drewN _ _)).base)⟩
    · have hres : layP most L ⟨x.p, l, x.s ++ [t]⟩ = (L ++ [⟨x.p, l, x.s ++ [t]⟩], (D.length : Int), true) := by unfold layP; simp only; rw [hfn]; simp only; rw [if_neg (by rw [← lk.len]; exact hm), lk.len]
      have HRes := Lib.hid hres
      have HR1 := Lib.hid hr1
      have HLk := Lib.hid (fun nd h1 h2 h3 => lk.way hW hx hd hfn (nd := nd) (l := l) h1 h2 h3)
      have HLn := Lib.hid lk.len
      have HL1 := Lib.hid hl1
      have HB := Lib.hid hb
      have HD := Lib.hid hd
      have HKey := Lib.hid hkey
      have HX := Lib.hid bx
      clear hr1 lk hno hres hW hd d1 d2 d3 hx hk hi hkey bx hl1 hfn hb
      go_quiet (fail)
      have K := Lib.hid (lay_more (w1.drewN nq) B g most v D rb R (HR1.out.below (below_drewN _ _)) x.p A m c l (HL1.out.keep ((Kept.refl _ _).drewN _)) hm (by rw [HLn.out]; exact HB.out))
      clear hm
      go_wp2_with (first | (go_at_call 27; (with_reducible refine K.out.mono ?_); rintro e w2 ⟨rfl, v2, mb, R2, K2⟩))
      clear hrun c1 e0 e2 x0 x1 x2 K
      have bx2 : Blk w2 bo 69 #[.bool t.c, .string t.k, .int .i64 t.f] := (K2.keep bo HX.out.lt (.inr ⟨_, _, HX.out, by decide, by decide⟩)).trans HX.out
      have x0 : w2.cell? ⟨bo, 0, none⟩ = _ := bx2.cell 0
      have x1 : w2.cell? ⟨bo, 1, none⟩ = _ := bx2.cell 1
      have x2 : w2.cell? ⟨bo, 2, none⟩ = _ := bx2.cell 2
      simp at x0 x1 x2
      have hd2 : (D ++ [(⟨x.p, A, m, c, mb, l, []⟩ : Nd)])[i]? = some d := by rw [List.getElem?_append_left (by omega)]; exact HD.out
      obtain ⟨gs2, cv2, hv2, f0, f1, f2⟩ := R2.at_ hd2
      obtain ⟨_, c1, _⟩ := R2.c0
      rw [hv2, List.length_append, List.length_singleton] at c1
      have M2 := Lib.hid (R2.node d (List.mem_of_getElem? hd2)).e
      have HD2 := Lib.hid hd2
      have R2 := Lib.hid R2
      have K2 := Lib.hid K2
      clear hd2 bx2 f0 f1 hv2
      have hi3 : (i : Int) < (D.length : Int) + 1 := by omega
      obtain ⟨w3, hrun3, hm3, hg3⟩ := M2.out.drew.push (val := .int .i64 D.length) law69 Try.underlying61 HKey.out HNo.out
      obtain ⟨R3, K3⟩ := R2.out.way HD2.out (w' := w3) (grown_drew hg3) hm3
      replace R3 := Lib.hid R3
      replace K3 := Lib.hid K3
      clear hm3 hg3
      go_region
      all_goals clear M2 R2 f2 c1 x0 x1 x2
      all_goals go_wp2
      all_goals go_ret2
      all_goals refine ⟨by rw [HRes.out]; rfl, ?_, ((K0.out.drewN _).trans K2.out).trans K3.out⟩
      all_goals rw [HRes.out]
      all_goals refine ⟨_, _, _, _, R3.out, ?_⟩
      all_goals have := HLk.out ⟨x.p, A, m, c, mb, l, []⟩ rfl rfl rfl
      all_goals rw [← HLn.out] at this
      all_goals exact this
  · rw [d3] at hmem
    obtain ⟨j, rfl, hres⟩ := kids_yes hW hmem
    have HRes := Lib.hid (hres most l)
    have H := Lib.hid (show TreeIs w1 B g most L from ⟨_, D, rb, R, hr1, lk⟩)
    clear hr1 lk hmem hres hW hd d1 d2 d3 hx hk hi hkey bx hl1
    go_quiet (fail)
    go_wp2
    go_ret2
    exact ⟨by rw [HRes.out]; rfl, by rw [HRes.out]; exact H.out.below (below_drewN _ _), K0.out.drewN _⟩
end Go.Proofs.Ytchbgececcclgaa
