/- Shapes: a shape more: lay walked. -/
import Derived.Test.YtchbgececcclgaaPc
namespace Go.Proofs.Ytchbgececcclgaa
open Go.RowKit Go
set_option linter.unusedVariables false
set_option linter.unusedSimpArgs false
theorem info63 : (Try.prog.info? 63).map (fun i => (i.zero, i.size, i.bytes)) = some (some (.agg #[.int .u64 0, .slice none 0 0, .map none]), 3, 40) := by kernel_rfl
theorem own_drew {w : World} {base : Nat} {e : TypeId} {size : Nat} {v : Value} {n : Nat} {xs : List Value} (h : w.ownsRow base e size v n xs) : w.drew.ownsRow base e size v n xs := h
theorem grown_drew {w w2 : World} {row : Option Nat} (h : w.drew.grownBy w2 row) : w.grownBy w2 row := ⟨h.os, h.tape, h.output, h.size, h.block⟩
/-- the world in which lay's row grows: the new shape's box, its map. -/
theorem lay_mid {w : World} {B g : Nat} {most : Int} {v : Value} {D : List Nd} {rb : Nat} {R : List (Value × Value)} (h : Raw w B g most v D rb R) (p : Int) (A : Option Addr) (n c : Nat) (l : List Pr) (hl : Fix B w 2 A n (l.flatMap pv)) (nq : Nat)
    (w2 : World) (e : w2 = (((w.alloc (Obj.cells #[Value.int .u64 p, .slice A n c, .map none] 63)).drewN nq).setCell ⟨w.heap.size, 2, none⟩ (.map (some (w.heap.size + 1)))).alloc (Obj.map #[] 0)) :
    Raw w2 B g most v D rb R ∧ Kept B w w2 ∧ Blk w2 w.heap.size 63 #[.int .u64 p, .slice A n c, .map (some (w.heap.size + 1))] ∧ NdIs B w2 ⟨p, A, n, c, w.heap.size + 1, l, []⟩ ∧ (w.heap.size + 1 ∉ rb :: D.map (·.m)) ∧ w2.heap.size = w.heap.size + 2 := by
  have b0 : Below w.heap.size w (w.alloc (Obj.cells #[Value.int .u64 p, .slice A n c, .map none] 63)) := (Below.refl _ _).alloc (Nat.le_refl _) _
  have b1 : Below w.heap.size w ((w.alloc (Obj.cells #[Value.int .u64 p, .slice A n c, .map none] 63)).drewN nq) := ⟨b0.os, b0.tape, b0.output, b0.size, b0.block⟩
  have b2 := b1.setCell (p := ⟨w.heap.size, 2, none⟩) (Nat.le_refl _) (.map (some (w.heap.size + 1)))
  have b3 := b2.alloc b2.size (Obj.map #[] 0)
  have k0 := (Blk.new w 63 #[Value.int .u64 p, .slice A n c, .map none]).drewN nq
  have k1 := (k0.set_ 2 (.map (some (w.heap.size + 1)))).alloc (Obj.map #[] 0)
  have hz : ((((w.alloc (Obj.cells #[Value.int .u64 p, .slice A n c, .map none] 63)).drewN nq).setCell ⟨w.heap.size, 2, none⟩ (.map (some (w.heap.size + 1))))).heap.size = w.heap.size + 1 := by
    simp only [World.setCell, Array.size_modify]
    exact size_alloc w _
  rw [← e] at b3 k1
  have hm := MapIs.made ((((w.alloc (Obj.cells #[Value.int .u64 p, .slice A n c, .map none] 63)).drewN nq).setCell ⟨w.heap.size, 2, none⟩ (.map (some (w.heap.size + 1))))) 69
  rw [hz, ← e] at hm
  have hsz : w2.heap.size = w.heap.size + 2 := by rw [e, size_alloc, hz]
  refine ⟨h.below b3, Kept.below b3 h.base, k1, ⟨hl.keep (Kept.below b3 h.base), hm, by show B ≤ w.heap.size + 1; have := h.base; omega⟩, ?_, hsz⟩
  intro hmem
  rcases List.mem_cons.1 hmem with e1 | hmem
  · have := h.roots.lt; omega
  · obtain ⟨d, hd, e1⟩ := List.mem_map.1 hmem
    have := (h.node d hd).e.lt
    have e1 : d.m = w.heap.size + 1 := e1
    omega
theorem lay_end {w2 w3 : World} {B g : Nat} {most : Int} {Av : Option Addr} {m cv : Nat} {D : List Nd} {rb : Nat} {R : List (Value × Value)} (h : Raw w2 B g most (.slice Av D.length cv) D rb R) {nd : Nd} (hn : NdIs B w2 nd) (hm : nd.m ∉ rb :: D.map (·.m)) (hD : D.length = m) (o : Obj) {v' : Value}
    (ho : w3.ownsRow B 63 3 v' (m + 1) (D.flatMap Nd.cs ++ nd.cs)) (hg : (w2.alloc o).drew.grownBy w3 (Value.slice Av m cv).ownBlock) :
    w3.cell? ⟨g, 1, none⟩ = some (.slice Av m cv) ∧ w3.frozen? ⟨g, 1, none⟩ = false ∧ Raw (w3.setCell ⟨g, 1, none⟩ v') B g most v' (D ++ [nd]) rb R ∧ Kept B w2 (w3.setCell ⟨g, 1, none⟩ v') := by
  subst hD
  have b1 : Below w2.heap.size w2 (w2.alloc o) := (Below.refl _ _).alloc (Nat.le_refl _) o
  have h1 := h.below b1
  have hg := grown_drew hg
  have kb := h1.blk.grown hg (fun e => own_blk_ne h1.own h1.blk (by decide) e.symm)
  obtain ⟨m1, m2⟩ := h1.more (hn.below h.base b1) hm ho hg
  exact ⟨kb.cell 1, kb.frozen 1, m1, (Kept.below b1 h.base).trans m2⟩
set_option maxRecDepth 100000 in
theorem lay_full (w : World) (B g : Nat) (most : Int) (v : Value) (D : List Nd) (rb : Nat) (R : List (Value × Value)) (h : Raw w B g most v D rb R) (p : Int) (A : Option Addr) (n c : Nat) (hm : most ≤ (D.length : Int)) :
    Calls Try.prog 27 #[.pointer (some ⟨g, 0, none⟩), .agg #[.int .u64 p, .slice A n c, .map none]] w fun e w' => e = .returned (.tuple #[.int .i64 0, .bool false]) ∧ Below w.heap.size w w' := by
  obtain ⟨Av, cv, rfl⟩ := h.sl
  obtain ⟨c0, c1, c2⟩ := h.c0
  have hlt := h.blk.lt
  have n0 : w.heap.size ≠ g := by omega
  clear h c2
  obtain ⟨m, hD⟩ : ∃ m, D.length = m := ⟨_, rfl⟩
  rw [hD] at hm c1
  clear hD
  go_enter Try.func27, Try.ntmps27
  go_wp2
  go_quiet (fail)
  go_wp2
  go_ret2
  exact ⟨rfl, by have b := (Below.refl w.heap.size w).alloc (Nat.le_refl _) (Obj.cells #[Value.int .u64 p, .slice A n c, .map none] 63); exact ⟨b.os, b.tape, b.output, b.size, b.block⟩⟩
set_option maxRecDepth 100000 in
set_option maxHeartbeats 4000000 in
theorem lay_more (w : World) (B g : Nat) (most : Int) (v : Value) (D : List Nd) (rb : Nat) (R : List (Value × Value)) (h : Raw w B g most v D rb R) (p : Int) (A : Option Addr) (n c : Nat) (l : List Pr) (hl : Fix B w 2 A n (l.flatMap pv)) (hm : ¬ most ≤ (D.length : Int)) (hb : D.length ≤ 1000000000000) :
    Calls Try.prog 27 #[.pointer (some ⟨g, 0, none⟩), .agg #[.int .u64 p, .slice A n c, .map none]] w fun e w' => e = .returned (.tuple #[.int .i64 D.length, .bool true]) ∧ ∃ v' m, Raw w' B g most v' (D ++ [⟨p, A, n, c, m, l, []⟩]) rb R ∧ Kept B w w' := by
  obtain ⟨i63, hi, hz0, hz1, hz2⟩ := info_parts info63
  have hmid := fun nq => lay_mid h p A n c l hl nq _ rfl
  obtain ⟨Av, cv, rfl⟩ := h.sl
  obtain ⟨c0, c1, c2⟩ := h.c0
  have hlt := h.blk.lt
  have n0 : w.heap.size ≠ g := by omega
  have hmm := @run_makeMap Try.prog
  have HM := Lib.hid hmid
  clear h hl c2 hmid
  obtain ⟨m, hD⟩ : ∃ m, D.length = m := ⟨_, rfl⟩
  rw [hD] at hm hb c1 ⊢
  have HD := Lib.hid hD
  clear hD
  have hm' : (m : Int) < most := by omega
  go_enter Try.func27, Try.ntmps27
  go_wp2
  go_quiet (fail)
  go_wp2
  have hmid := HM.out nq
  clear HM hmm c0 c1 n0
  generalize (((w.alloc (Obj.cells #[Value.int .u64 p, .slice A n c, .map none] 63)).drewN nq).setCell ⟨w.heap.size, 2, none⟩ (.map (some (w.heap.size + 1)))).alloc (Obj.map #[] 0) = w2 at hmid ⊢
  obtain ⟨R2, K2, B2, N2, M2, S2⟩ := hmid
  obtain ⟨_, c1, _⟩ := R2.c0
  have b0 := B2.cell 0
  have b1 := B2.cell 1
  have b2 := B2.cell 2
  simp at b0 b1 b2
  have own := R2.own
  rw [HD.out] at own c1
  have hB := R2.base
  have R2h := Lib.hid R2
  have K2h := Lib.hid K2
  have N2h := Lib.hid N2
  have M2h := Lib.hid M2
  have hb2 := B2.lt
  have n2 : w2.heap.size ≠ w.heap.size := by omega
  have n3 : w2.heap.size ≠ g := by have := R2.blk.lt; omega
  clear S2 R2 K2 N2 M2 B2
  have hR : Reads (w2.alloc (.cells #[.int .u64 p, .slice A n c, .map (some (w.heap.size + 1))] 63)) (w2.heap.size + 1) 3 (some ⟨w2.heap.size, 0, none⟩) 1 [.int .u64 p, .slice A n c, .map (some (w.heap.size + 1))] := by
    refine ⟨rfl, fun _ => ⟨_, rfl, by show w2.heap.size < _; omega, fun j u hj => ?_⟩⟩
    have k := Blk.new w2 63 #[.int .u64 p, .slice A n c, .map (some (w.heap.size + 1))]
    have := k.cell j
    have e : (⟨w2.heap.size, 0, none⟩ : Addr).add j = ⟨w2.heap.size, j, none⟩ := by unfold Addr.add; split <;> simp_all
    rw [e, this]
    simpa using hj
  have HR := Lib.hid hR
  have h1 : Hid (∀ u ∈ [Value.int .u64 p, .slice A n c, .map (some (w.heap.size + 1))], u.oneCell' = true) := Lib.hid (Nd.cs_one ⟨p, A, n, c, w.heap.size + 1, l, []⟩)
  have MK := Lib.hid (fun (w3 : World) (v' : Value) (ho : w3.ownsRow B 63 3 v' (m + 1) (D.flatMap Nd.cs ++ [.int .u64 p, .slice A n c, .map (some (w.heap.size + 1))])) (hg : (w2.alloc (.cells #[.int .u64 p, .slice A n c, .map (some (w.heap.size + 1))] 63)).drew.grownBy w3 (Value.slice Av m cv).ownBlock) =>
    lay_end R2h.out N2h.out M2h.out HD.out (.cells #[.int .u64 p, .slice A n c, .map (some (w.heap.size + 1))] 63) ho hg)
  have a0 : (w2.alloc (.cells #[.int .u64 p, .slice A n c, .map (some (w.heap.size + 1))] 63)).cell? ⟨g, 1, none⟩ = some (.slice Av m cv) := (World.cell?_alloc_lt w2 _ ⟨g, 1, none⟩ R2h.out.blk.lt).trans c1
  clear hR
  go_region_law (refine step_append_any _ rfl (.tmp 22) (.tmp 24) 49 rfl B 63 i63 _ 3 40 Try.underlying49 hi hz0 hz1 hz2 rfl (by decide) _ m _ rfl (own_drew (own.alloc _)) (w2.heap.size + 1) (some ⟨w2.heap.size, 0, none⟩) 1 1 [.int .u64 p, .slice A n c, .map (some (w.heap.size + 1))] rfl HR.out.drew h1.out (by unfold maxLen; omega) (by omega) (by show B ≤ (World.alloc _ _).heap.size; rw [size_alloc]; omega) ?_; intro v' w3 hown hgrow hat; obtain ⟨d1, d2, _⟩ := MK.out _ _ hown hgrow; obtain ⟨A', c', rfl⟩ := own_is_slice hown)
  all_goals obtain ⟨_, _, R4, K4⟩ := MK.out _ _ (by assumption) (by assumption)
  all_goals have c4 := R4.c0.2.1
  all_goals replace R4 := Lib.hid R4
  all_goals replace K4 := Lib.hid K4
  all_goals clear MK hgrow hown hat d1 d2 HR h1 a0 c1 b0 b1 b2
  all_goals go_wp2
  all_goals go_ret2
  all_goals exact ⟨rfl, _, _, R4.out, K2h.out.trans K4.out⟩
/-! the tree and the plain one -/
structure Lk (D : List Nd) (R : List (Value × Value)) (L : List Sh) : Prop where
  len : D.length = L.length
  at_ : ∀ (i : Nat) (d : Nd) (x : Sh), D[i]? = some d → L[i]? = some x → d.p = x.p ∧ d.l = x.l ∧ d.e = entV (kidF x.p x.s) 0 L
  roots : R = entV rootF 0 L
def TreeIs (w : World) (B g : Nat) (most : Int) (L : List Sh) : Prop := ∃ v D rb R, Raw w B g most v D rb R ∧ Lk D R L
theorem TreeIs.below {w w' : World} {B g : Nat} {most : Int} {L : List Sh} (h : TreeIs w B g most L) (b : Below w.heap.size w w') : TreeIs w' B g most L := by
  obtain ⟨v, D, rb, R, h1, h2⟩ := h
  exact ⟨v, D, rb, R, h1.below b, h2⟩
theorem TreeIs.base {w : World} {B g : Nat} {most : Int} {L : List Sh} (h : TreeIs w B g most L) : B ≤ w.heap.size := by
  obtain ⟨v, D, rb, R, h1, h2⟩ := h
  exact h1.base
theorem Lk.get {D : List Nd} {R : List (Value × Value)} {L : List Sh} (h : Lk D R L) {i : Nat} {x : Sh} (hx : L[i]? = some x) : ∃ d, D[i]? = some d ∧ d.p = x.p ∧ d.l = x.l ∧ d.e = entV (kidF x.p x.s) 0 L := by
  have hi := (List.getElem?_eq_some_iff.1 hx).1
  have hd : D[i]? = some (D[i]'(by rw [h.len]; exact hi)) := List.getElem?_eq_getElem _
  exact ⟨_, hd, h.at_ i _ x hd hx⟩
/-- a new root. -/
theorem Lk.root {D : List Nd} {R : List (Value × Value)} {L : List Sh} (h : Lk D R L) (hW : WF L) {p : Int} (hn : fnd [] p 0 L = none) {nd : Nd} (h1 : nd.p = p) (h2 : nd.l = []) (h3 : nd.e = []) :
    Lk (D ++ [nd]) (R ++ [(.int .u64 p, .int .i64 (L.length : Nat))]) (L ++ [⟨p, [], []⟩]) := by
  refine ⟨by simp [h.len], fun i d x hd hx => ?_, ?_⟩
  · rw [List.getElem?_append] at hd hx
    rw [h.len] at hd
    split at hd
    · rename_i hi
      rw [if_pos hi] at hx
      obtain ⟨k1, k2, k3⟩ := h.at_ i d x hd hx
      refine ⟨k1, k2, ?_⟩
      rw [k3, old_kids]
      intro t _ e
      simp at e
    · rename_i hi
      rw [if_neg hi] at hx
      have e0 : i - L.length = 0 := by
        have := (List.getElem?_eq_some_iff.1 hx).1
        simp at this; omega
      rw [e0] at hd hx
      simp at hd hx
      subst hd; subst hx
      exact ⟨h1, h2, by rw [h3]; exact (new_kids hW (s := ⟨p, [], []⟩) hn).symm⟩
  · rw [h.roots, entV_append]
    simp [entV, rootF]
/-- a new way. -/
theorem Lk.way {D : List Nd} {R : List (Value × Value)} {L : List Sh} (h : Lk D R L) (hW : WF L) {i : Nat} {x : Sh} (hx : L[i]? = some x) {d : Nd} (hd : D[i]? = some d) {t : St} {l : List Pr} (hn : fnd (x.s ++ [t]) x.p 0 L = none) {nd : Nd} (h1 : nd.p = x.p) (h2 : nd.l = l) (h3 : nd.e = []) :
    Lk ((D ++ [nd]).set i { d with e := d.e ++ [(t.v, .int .i64 (L.length : Nat))] }) R (L ++ [⟨x.p, l, x.s ++ [t]⟩]) := by
  have hi := (List.getElem?_eq_some_iff.1 hx).1
  obtain ⟨d1, d2, d3⟩ := h.at_ i d x hd hx
  refine ⟨by simp [h.len], fun j dj y hdj hy => ?_, ?_⟩
  · rw [List.getElem?_set] at hdj
    split at hdj
    · rename_i e
      subst e
      rw [if_pos (by rw [List.length_append, h.len]; omega)] at hdj
      injection hdj with hdj
      subst hdj
      rw [List.getElem?_append_left hi, hx] at hy
      injection hy with hy
      subst hy
      refine ⟨d1, d2, ?_⟩
      rw [entV_append]
      simp only [entV]
      rw [show kidF x.p x.s ⟨x.p, l, x.s ++ [t]⟩ = some t.v from kidF_some.2 ⟨t, rfl, rfl, rfl⟩]
      simp [d3]
    · rename_i hne
      rw [List.getElem?_append] at hdj hy
      rw [h.len] at hdj
      split at hdj
      · rename_i hj
        rw [if_pos hj] at hy
        obtain ⟨k1, k2, k3⟩ := h.at_ j dj y hdj hy
        refine ⟨k1, k2, ?_⟩
        rw [k3, old_kids]
        intro t' e1 e2
        have := (List.append_inj' e2 rfl).1
        exact hne (hW.apart i j x y hx hy this e1)
      · rename_i hj
        rw [if_neg hj] at hy
        have e0 : j - L.length = 0 := by
          have := (List.getElem?_eq_some_iff.1 hy).1
          simp at this; omega
        rw [e0] at hdj hy
        simp at hdj hy
        subst hdj; subst hy
        exact ⟨h1, h2, by rw [h3]; exact (new_kids hW (s := ⟨x.p, l, x.s ++ [t]⟩) hn).symm⟩
  · rw [h.roots, entV_append]
    simp [entV, rootF]
/-! keys -/
theorem laidOut : laidOutB Try.prog = true := by kernel_rfl
theorem law69 : Maps.Keyed Try.prog 69 := .of_law (deep_law_laid laidOut (m := 3) (by omega) (of_decide_eq_true (by kernel_rfl)) (by kernel_rfl) (by kernel_rfl))
theorem law23 : Maps.Keyed Try.prog 23 := Maps.int_keyed Try.underlying23
theorem size99 : Try.prog.types.size = 99 := by kernel_rfl
theorem zero3 (w : World) : (zeroValue 3).run Try.prog w = .ok (.int .i64 0) w := by kernel_rfl
theorem key_gen {P : Program} {n4 n9 n3 n66 n69 : TypeId} {f0 f1 g0 g1 : Field} {t : St} (hk : okK t.k) (hf : okF t.f) (u69 : P.underlying n69 = some (.struct #[f0, f1])) (u66 : P.underlying n66 = some (.struct #[g0, g1])) (u4 : P.underlying n4 = some .bool) (u9 : P.underlying n9 = some .string) (u3 : P.underlying n3 = some (.int .i64))
    (c69 : P.cellsOf n69 = 3) (c66 : P.cellsOf n66 = 2) (c4 : P.cellsOf n4 = 1) (c9 : P.cellsOf n9 = 1) (c3 : P.cellsOf n3 = 1) (h1 : P.keyType n69 = true) (h2 : t.v.formed P n69 = true)
    (a0 : f0.type = n4 ∧ f0.offset = 0 ∧ (f0.name != "_") = true) (a1 : f1.type = n66 ∧ f1.offset = 1 ∧ (f1.name != "_") = true) (b0 : g0.type = n9 ∧ g0.offset = 0 ∧ (g0.name != "_") = true) (b1 : g1.type = n3 ∧ g1.offset = 1 ∧ (g1.name != "_") = true) (d : Nat) (hs : P.types.size + 1 = d + 1 + 1 + 1) : ∃ l, keyOf P n69 t.v = some l := by
  unfold okK at hk
  unfold okF at hf
  obtain ⟨a0, a0', a0''⟩ := a0
  obtain ⟨a1, a1', a1''⟩ := a1
  obtain ⟨b0, b0', b0''⟩ := b0
  obtain ⟨b1, b1', b1''⟩ := b1
  have e4 : P.keyLits (d + 1 + 1) n4 [.bool t.c] = some [.bool t.c] := by simp [Program.keyLits, u4]
  have e9 : P.keyLits (d + 1) n9 [.string t.k] = some [.string t.k.data.toList] := by simp [Program.keyLits, u9, hk]
  have e3 : P.keyLits (d + 1) n3 [.int .i64 t.f] = some [.int .i64 t.f] := by simp [Program.keyLits, u3, hf]
  have n66' : (#[g0, g1].all fun x => x.name != "_") = true := by simp [b0'', b1'']
  have n69' : (#[f0, f1].all fun x => x.name != "_") = true := by simp [a0'', a1'']
  have e66 : P.keyLits (d + 1 + 1) n66 [.string t.k, .int .i64 t.f] = some [.string t.k.data.toList, .int .i64 t.f] := by
    unfold Program.keyLits
    rw [u66]
    simp only [n66', c66, List.length_cons, List.length_nil]
    simp [b0, b0', b1, b1', c9, c3, e9, e3]
  have e69 : P.keyLits (d + 1 + 1 + 1) n69 [.bool t.c, .string t.k, .int .i64 t.f] = some [.bool t.c, .string t.k.data.toList, .int .i64 t.f] := by
    unfold Program.keyLits
    rw [u69]
    simp only [n69', c69, List.length_cons, List.length_nil]
    simp [a0, a0', a1, a1', c4, c66, e4, e66]
  unfold keyOf
  rw [u69, hs]
  simp only [h1, h2, Bool.and_self, if_true]
  rw [show t.v.cells.toList = [.bool t.c, .string t.k, .int .i64 t.f] from rfl, e69]
  exact ⟨_, rfl⟩
theorem key69 {t : St} (hk : okK t.k) (hf : okF t.f) : ∃ l, keyOf Try.prog 69 t.v = some l := by
  have c69 : Try.prog.cellsOf 69 = 3 := by kernel_rfl
  have h2 : t.v.formed Try.prog 69 = true := by simp [St.v, Value.formed, Try.underlying69, c69]
  exact key_gen hk hf Try.underlying69 Try.underlying66 Try.underlying4 Try.underlying9 Try.underlying3 c69 (by kernel_rfl) (by kernel_rfl) (by kernel_rfl) (by kernel_rfl) (by kernel_rfl) h2 ⟨rfl, rfl, by decide⟩ ⟨rfl, rfl, by decide⟩ ⟨rfl, rfl, by decide⟩ ⟨rfl, rfl, by decide⟩ 97 (by rw [size99])
theorem key23 {p : Int} (hp : okU p) : keyOf Try.prog 23 (.int .u64 p) = some (.int .u64 p) := Maps.keyOf_int_mk Try.underlying23 hp
end Go.Proofs.Ytchbgececcclgaa
